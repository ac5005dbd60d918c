/- Chapter 8: packets: plain laws. -/
import Derived.Test.YtcdondbegnbdgaaDoorPkA
import Derived.Test.YtcdondbegnbdgaaDoorCrcPure
namespace Go.Proofs.YtcdondbegnbdgaaDoor
open Go Go.RowKit Towline Towline.Tlv Towline.Chunk Towline.Packet Towline.Crc
set_option linter.unusedVariables false
set_option linter.unusedSimpArgs false
set_option maxRecDepth 20000
theorem size_right (c : Ch) : (sizeC c != 0) = ((buildC c).2 == 0) := by
  unfold sizeC
  by_cases he : (buildC c).2 = 0
  · obtain ⟨_, _, h3⟩ := build_good he
    have := (enc_parts c).2
    rw [h3]
    simp; intro h; rw [h] at this; simp at this; omega
  · rw [build_bad he]; simp [he]
/-- What is asked of a packet, as the document has it. -/
structure PkOk (p : Pk) : Prop where
  from_ : p.from_ ≠ 0
  to_ : p.to_ ≠ 0
  pos : 0 < p.chunks.length
  many : p.chunks.length ≤ 50
  tag : (p.tag == 0) = ((p.chunks.getD 0 default).ty == 1)
  right : ∀ i, i < p.chunks.length → (buildC (p.chunks.getD i default)).2 = 0
  alone : 1 < p.chunks.length → ∀ i, i < p.chunks.length → aloneB (p.chunks.getD i default).ty = false
  data : ∀ i j, i < j → j < p.chunks.length → (p.chunks.getD i default).ty = 0 → (p.chunks.getD j default).ty = 0
theorem getD_take {α} [Inhabited α] (l : List α) {i j : Nat} (h : j < i) : (l.take i).getD j default = l.getD j default := by
  rw [List.getD_eq_getElem?_getD, List.getD_eq_getElem?_getD, List.getElem?_take_of_lt h]
theorem fits_take (l : List Ch) (i : Nat) (h : i < l.length) : fitsP (l.take i) (l.getD i default) = true ↔
    i < 50 ∧ (i = 0 ∨ (aloneB (l.getD i default).ty = false ∧ aloneB (l.getD (i - 1) default).ty = false ∧ ((l.getD (i - 1) default).ty ≠ 0 ∨ (l.getD i default).ty = 0))) := by
  have hl : (l.take i).length = i := by rw [List.length_take]; omega
  unfold fitsP lastC
  rw [hl]
  rcases Nat.eq_zero_or_pos i with rfl | hp
  · simp
  · rw [getD_take l (show i - 1 < i from by omega)]
    simp [show ¬ i = 0 from by omega]
theorem fitsL_iff (l : List Ch) : fitsL l = true ↔ ∀ i, i < l.length → fitsP (l.take i) (l.getD i default) = true := by
  unfold fitsL
  rw [List.all_eq_true]
  exact ⟨fun h i hi => h i (List.mem_range.2 hi), fun h i hi => h i (List.mem_range.1 hi)⟩
theorem sizesOk_iff (l : List Ch) : sizesOk l = true ↔ ∀ i, i < l.length → (buildC (l.getD i default)).2 = 0 := by
  unfold sizesOk
  rw [List.all_eq_true]
  constructor
  · intro h i hi
    have := h (l.getD i default) (by rw [List.getD_eq_getElem?_getD, List.getElem?_eq_getElem hi]; exact List.getElem_mem hi)
    rw [size_right] at this
    simpa using this
  · intro h c hc
    obtain ⟨i, hi, rfl⟩ := List.getElem_of_mem hc
    have := h i hi
    rw [List.getD_eq_getElem?_getD, List.getElem?_eq_getElem hi] at this
    rw [size_right]
    simpa using this
theorem okPk_iff (p : Pk) : okPk p = true ↔ PkOk p := by
  unfold okPk
  simp only [Bool.and_eq_true, bne_iff_ne, ne_eq, beq_iff_eq, sizesOk_iff, fitsL_iff]
  constructor
  · rintro ⟨⟨⟨⟨⟨h1, h2⟩, h3⟩, h4⟩, h5⟩, h6⟩
    have hf : ∀ i, i < p.chunks.length → i < 50 ∧ (i = 0 ∨ (aloneB (p.chunks.getD i default).ty = false ∧ aloneB (p.chunks.getD (i - 1) default).ty = false ∧ ((p.chunks.getD (i - 1) default).ty ≠ 0 ∨ (p.chunks.getD i default).ty = 0))) := fun i hi => (fits_take _ _ hi).1 (h6 i hi)
    refine ⟨h3, h4, by omega, ?_, h5, h1, fun hn i hi => ?_, fun i j hij => ?_⟩
    · have := (hf (p.chunks.length - 1) (by omega)).1
      omega
    · rcases Nat.eq_zero_or_pos i with rfl | hp
      · rcases (hf 1 hn).2 with h | h
        · omega
        · exact h.2.1
      · rcases (hf i hi).2 with h | h
        · omega
        · exact h.1
    · induction j with
      | zero => omega
      | succ j ih =>
        intro hj h0
        have hz : (p.chunks.getD j default).ty = 0 := by
          rcases Nat.lt_or_eq_of_le (show i ≤ j from by omega) with h | rfl
          · exact ih h (by omega) h0
          · exact h0
        rcases (hf (j + 1) hj).2 with h | h
        · omega
        · rcases h.2.2 with h | h
          · exact (h hz).elim
          · exact h
  · intro h
    have hp := h.pos
    have hm := h.many
    refine ⟨⟨⟨⟨⟨h.right, by omega⟩, h.from_⟩, h.to_⟩, h.tag⟩, fun i hi => (fits_take _ _ hi).2 ⟨by omega, ?_⟩⟩
    rcases Nat.eq_zero_or_pos i with rfl | hp
    · exact .inl rfl
    · refine .inr ⟨h.alone (by omega) i hi, h.alone (by omega) (i - 1) (by omega), ?_⟩
      by_cases hz : (p.chunks.getD (i - 1) default).ty = 0
      · exact .inr (h.data (i - 1) i (by omega) hi hz)
      · exact .inl hz
/-- The bytes of a packet, without their sum. -/
def chunksB (l : List Ch) : List UInt8 := l.flatMap encC
def headP (p : Pk) : List UInt8 := be2 p.from_ ++ be2 p.to_ ++ be4 p.tag ++ [0, 0, 0, 0]
def rawP (p : Pk) : List UInt8 := headP p ++ chunksB p.chunks
def lenP (p : Pk) : Nat := 12 + allSz p.chunks
def buildP (p : Pk) : List UInt8 × Int := if okPk p = true then (if 1500 < lenP p then ([], 4) else (Crc.sealed (rawP p), 0)) else ([], 1)
def nilPk : Pk := ⟨0, 0, 0, []⟩
/-- Chunks that bytes are, one behind the other. -/
def chunksR (s : List UInt8) : List Ch × Int :=
  if h : 0 < s.length then
    if h2 : (parseC s).2.2 = 0 then
      (if (chunksR (s.drop (parseC s).2.1)).2 = 0 then ((parseC s).1 :: (chunksR (s.drop (parseC s).2.1)).1, 0) else ([], (chunksR (s.drop (parseC s).2.1)).2))
    else ([], (parseC s).2.2)
  else ([], 0)
termination_by s.length
decreasing_by
  all_goals
    obtain ⟨k1, k2, k3, k4, k5⟩ := parse_ok h2
    rw [List.length_drop, k4]
    simp only [endN]
    omega
def checkL (l : List UInt8) : Int := if l.length < 12 then 3 else if Crc.sealed l = l then 0 else 5
def readP (s : List UInt8) (l : List Ch) : Pk := ⟨beN (s.take 2), beN ((s.drop 2).take 2), beN ((s.drop 4).take 4), l⟩
def parseP (s : List UInt8) : Pk × Int :=
  if 1500 < s.length then (nilPk, 4)
  else if checkL s ≠ 0 then (nilPk, checkL s)
  else if (chunksR (s.drop 12)).2 ≠ 0 then (nilPk, (chunksR (s.drop 12)).2)
  else if rightP (readP s (chunksR (s.drop 12)).1) = true then (readP s (chunksR (s.drop 12)).1, 0)
  else (nilPk, 2)
theorem chunks_nil : chunksR [] = ([], 0) := by
  rw [chunksR]; simp
/-- What is built one behind the other is read so. -/
theorem chunks_enc : ∀ (l : List Ch), (∀ c ∈ l, (buildC c).2 = 0 ∧ ChR c) → chunksR (chunksB l) = (l, 0)
  | [], _ => by rw [show chunksB [] = [] from rfl, chunks_nil]
  | c :: l, h => by
    obtain ⟨h1, h2⟩ := h c (by simp)
    obtain ⟨g1, g2, g3⟩ := build_good h1
    have hpe := parse_enc g1 h2 g2 (chunksB l)
    have he : chunksB (c :: l) = encC c ++ chunksB l := by simp [chunksB]
    have hl := (enc_parts c).2
    have ih := chunks_enc l (fun d hd => h d (by simp [hd]))
    rw [chunksR, he]
    rw [dif_pos (by rw [List.length_append]; omega), dif_pos (by rw [hpe]), hpe]
    simp only [List.drop_left, ih, if_true]
/-- What is read is right. -/
theorem chunks_right : ∀ (n : Nat) (s : List UInt8), s.length ≤ n → (chunksR s).2 = 0 → ∀ c ∈ (chunksR s).1, (buildC c).2 = 0 ∧ ChR c ∧ ChOk c
  | 0, s, hn, _, c, hc => by
    have : s = [] := List.length_eq_zero_iff.1 (by omega)
    rw [this, chunks_nil] at hc
    cases hc
  | n + 1, s, hn, h0, c, hc => by
    rw [chunksR] at h0 hc
    split at hc
    · rename_i hp
      rw [dif_pos hp] at h0
      split at hc
      · rename_i h2
        rw [dif_pos h2] at h0
        obtain ⟨k1, k2, k3, k4, k5⟩ := parse_ok h2
        obtain ⟨a1, a2, a3, _⟩ := parse_again h2
        split at hc
        · rename_i h3
          rcases List.mem_cons.1 hc with rfl | hc
          · exact ⟨a1, a2, a3⟩
          · refine chunks_right n _ ?_ h3 c hc
            rw [List.length_drop, k4]
            simp only [endN]
            omega
        · cases hc
      · cases hc
    · cases hc
theorem sum_len (l : List Ch) (h : ∀ c ∈ l, (buildC c).2 = 0) : (chunksB l).length = allSz l := by
  induction l with
  | nil => rfl
  | cons c l ih =>
    have h1 := (build_good (h c (by simp))).2.2
    have ih := ih (fun d hd => h d (by simp [hd]))
    simp only [chunksB, allSz, List.flatMap_cons, List.length_append, List.map_cons, List.sum_cons] at ih ⊢
    rw [ih]
    unfold sizeC
    rw [h1]
theorem head_len (p : Pk) : (headP p).length = 12 := rfl
theorem raw_len (p : Pk) (h : ∀ c ∈ p.chunks, (buildC c).2 = 0) : (rawP p).length = lenP p := by
  unfold rawP lenP
  rw [List.length_append, head_len, sum_len _ h]
theorem PkOk.mem {p : Pk} (h : PkOk p) : ∀ c ∈ p.chunks, (buildC c).2 = 0 := by
  intro c hc
  obtain ⟨i, hi, rfl⟩ := List.getElem_of_mem hc
  have := h.right i hi
  rwa [List.getD_eq_getElem?_getD, List.getElem?_eq_getElem hi] at this
theorem buildP_ok {p : Pk} (h : (buildP p).2 = 0) : okPk p = true ∧ lenP p ≤ 1500 ∧ buildP p = (Crc.sealed (rawP p), 0) ∧ rightP p = true := by
  unfold buildP at h ⊢
  by_cases h1 : okPk p = true
  · rw [if_pos h1] at h ⊢
    by_cases h2 : 1500 < lenP p
    · rw [if_pos h2] at h; cases h
    · rw [if_neg h2] at h ⊢
      refine ⟨h1, by omega, rfl, ?_⟩
      unfold rightP
      simp only [h1, Bool.true_and, decide_eq_true_eq]
      exact Nat.not_lt.1 h2
  · rw [if_neg h1] at h; cases h
theorem buildP_right {p : Pk} (h : rightP p = true) : buildP p = (Crc.sealed (rawP p), 0) := by
  unfold rightP at h
  simp only [Bool.and_eq_true, decide_eq_true_eq] at h
  unfold buildP
  rw [if_pos h.1, if_neg]
  exact Nat.not_lt.2 h.2
theorem buildP_bad {p : Pk} (h : (buildP p).2 ≠ 0) : (buildP p).1 = [] ∧ rightP p = false := by
  cases hr : rightP p with
  | true => rw [buildP_right hr] at h; exact (h rfl).elim
  | false =>
    refine ⟨?_, rfl⟩
    unfold buildP at h ⊢
    split
    · rename_i h1
      split
      · rfl
      · rename_i h2
        rw [if_pos h1, if_neg h2] at h; exact (h rfl).elim
    · rfl
theorem beN_be2 {x : Int} (h : in16 x) : ((beN (be2 x) : Nat) : Int) = x := by
  have h2 := tk_be2 h [] false
  rw [show tk 2 (be2 x ++ [], false) = (((beN (be2 x) : Nat) : Int), ([], false)) from rfl] at h2
  exact (Prod.ext_iff.1 h2).1
theorem beN_be4 {x : Int} (h : in32 x) : ((beN (be4 x) : Nat) : Int) = x := by
  have h2 := tk_be4 h [] false
  rw [show tk 4 (be4 x ++ [], false) = (((beN (be4 x) : Nat) : Int), ([], false)) from rfl] at h2
  exact (Prod.ext_iff.1 h2).1
theorem sealed_head (p : Pk) (h : ∀ c ∈ p.chunks, (buildC c).2 = 0) : (Crc.sealed (rawP p)).take 8 = be2 p.from_ ++ be2 p.to_ ++ be4 p.tag ∧ (Crc.sealed (rawP p)).drop 12 = chunksB p.chunks := by
  have hl : 12 ≤ (rawP p).length := by rw [raw_len p h]; unfold lenP; omega
  rw [sealed_take hl, sealed_drop hl]
  exact ⟨rfl, rfl⟩
/-- What is built is read as what was handed in. -/
theorem parse_build {p : Pk} (hr : PkR p) (h : rightP p = true) : parseP (Crc.sealed (rawP p)) = (p, 0) := by
  have h' := h
  unfold rightP at h'
  simp only [Bool.and_eq_true, decide_eq_true_eq] at h'
  have hok := (okPk_iff p).1 h'.1
  have hm := hok.mem
  have hl := raw_len p hm
  have h12 : 12 ≤ (rawP p).length := by rw [hl]; unfold lenP; omega
  obtain ⟨e1, e2⟩ := sealed_head p hm
  have hsl := sealed_length h12
  unfold parseP
  rw [if_neg (by rw [hsl, hl]; exact Nat.not_lt.2 h'.2)]
  have hck : checkL (Crc.sealed (rawP p)) = 0 := by
    unfold checkL
    rw [if_neg (by omega), if_pos (sealed_sealed h12)]
  rw [if_neg (by rw [hck]; simp), e2, chunks_enc p.chunks (fun c hc => ⟨hm c hc, (hr.chunks c hc).1⟩)]
  have hrd : readP (Crc.sealed (rawP p)) p.chunks = p := by
    have e3 : (Crc.sealed (rawP p)).take 2 = be2 p.from_ := by
      rw [show (Crc.sealed (rawP p)).take 2 = ((Crc.sealed (rawP p)).take 8).take 2 from by rw [List.take_take]; rfl, e1]; rfl
    have e4 : ((Crc.sealed (rawP p)).drop 2).take 2 = be2 p.to_ := by
      rw [show ((Crc.sealed (rawP p)).drop 2).take 2 = (((Crc.sealed (rawP p)).take 8).drop 2).take 2 from by rw [List.drop_take, List.take_take]; rfl, e1]; rfl
    have e5 : ((Crc.sealed (rawP p)).drop 4).take 4 = be4 p.tag := by
      rw [show ((Crc.sealed (rawP p)).drop 4).take 4 = (((Crc.sealed (rawP p)).take 8).drop 4).take 4 from by rw [List.drop_take, List.take_take]; rfl, e1]; rfl
    unfold readP
    rw [e3, e4, e5, beN_be2 hr.from_, beN_be2 hr.to_, beN_be4 hr.tag]
  simp only [ne_eq, not_true_eq_false, if_false, hrd, h, if_true]
theorem beN_take_lt (l : List UInt8) (k : Nat) : beN (l.take k) < 256 ^ k := by
  have h := beN_lt (l.take k) 0
  unfold beN
  rw [Nat.zero_add, Nat.one_mul] at h
  exact Nat.lt_of_lt_of_le h (Nat.pow_le_pow_right (by decide) (by rw [List.length_take]; omega))
/-- What is read: right, and in range. -/
theorem parseP_ok {s : List UInt8} (h : (parseP s).2 = 0) : rightP (parseP s).1 = true ∧ PkR (parseP s).1 ∧ (parseP s).1.chunks.length ≤ 50 := by
  unfold parseP at h ⊢
  by_cases h1 : 1500 < s.length
  · rw [if_pos h1] at h; cases h
  rw [if_neg h1] at h ⊢
  by_cases h2 : checkL s ≠ 0
  · rw [if_pos h2] at h; exact (h2 h).elim
  rw [if_neg h2] at h ⊢
  by_cases h3 : (chunksR (s.drop 12)).2 ≠ 0
  · rw [if_pos h3] at h; exact (h3 h).elim
  rw [if_neg h3] at h ⊢
  by_cases h4 : rightP (readP s (chunksR (s.drop 12)).1) = true
  · rw [if_pos h4]
    refine ⟨h4, ⟨?_, ?_, ?_, fun c hc => (chunks_right _ _ (Nat.le_refl _) (by simpa using h3) c hc).2⟩, ?_⟩
    · have := beN_take_lt s 2
      show in16 ((beN _ : Nat) : Int)
      unfold in16; omega
    · have := beN_take_lt (s.drop 2) 2
      show in16 ((beN _ : Nat) : Int)
      unfold in16; omega
    · have := beN_take_lt (s.drop 4) 4
      show in32 ((beN _ : Nat) : Int)
      unfold in32; omega
    · unfold rightP at h4
      simp only [Bool.and_eq_true] at h4
      exact ((okPk_iff _).1 h4.1).many
  · rw [if_neg h4] at h; cases h
theorem parseP_bad {s : List UInt8} (h : (parseP s).2 ≠ 0) : (parseP s).1 = nilPk := by
  unfold parseP at h ⊢
  split
  · rfl
  split
  · rfl
  split
  · rfl
  split
  · rename_i h1 h2 h3 h4
    rw [if_neg h1, if_neg h2, if_neg h3, if_pos h4] at h; exact (h rfl).elim
  · rfl
end Go.Proofs.YtcdondbegnbdgaaDoor
