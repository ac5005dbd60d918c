/- Chapter 7: what bytes are read as: plain laws. -/
import Derived.Test.YtcdondbegnbdgaaDoorChD
import Derived.Test.YtcdondbegnbdgaaDoorTlvG
namespace Go.Proofs.YtcdondbegnbdgaaDoor
open Go Go.RowKit Towline Towline.Tlv Towline.Chunk
set_option linter.unusedVariables false
set_option linter.unusedSimpArgs false
def beN (l : List UInt8) : Nat := l.foldl (fun n c => n * 256 + c.toNat) 0
abbrev Rr := List UInt8 × Bool
def tk (k : Nat) (r : Rr) : Int × Rr := if r.1.length < k then (0, ([], true)) else (((beN (r.1.take k) : Nat) : Int), (r.1.drop k, r.2))
def tkG (r : Rr) : (Int × Int) × Rr := (((tk 2 r).1, (tk 2 (tk 2 r).2).1), (tk 2 (tk 2 r).2).2)
def rowsR {α : Type} (one : Rr → α × Rr) : Nat → Rr → List α × Rr
  | 0, r => ([], r)
  | n + 1, r => if r.2 = true then ([], r) else ((one r).1 :: (rowsR one n (one r).2).1, (rowsR one n (one r).2).2)
def itemsR (r : Rr) : List Tlv.It × Rr := ((parseL r.1).1, ([], r.2 || ((parseL r.1).2.2 != 0)))
def sackR (c : Ch) (r : Rr) : Ch × Rr :=
  let a := tk 4 r
  let b := tk 4 a.2
  let g := tk 2 b.2
  let d := tk 2 g.2
  let x := rowsR tkG g.1.toNat d.2
  let y := rowsR (tk 4) d.1.toNat x.2
  ({ c with tsn := a.1, window := b.1, gaps := x.1, dups := y.1 }, y.2)
def readR (c : Ch) (r : Rr) : Ch × Rr :=
  if c.ty = 0 then
    let a := tk 4 r
    let b := tk 2 a.2
    let d := tk 2 b.2
    let e := tk 4 d.2
    ({ c with tsn := a.1, stream := b.1, ssn := d.1, ppid := e.1, text := e.2.1 }, ([], e.2.2))
  else if c.ty = 1 ∨ c.ty = 2 then
    let a := tk 4 r
    let b := tk 4 a.2
    let d := tk 2 b.2
    let e := tk 2 d.2
    let f := tk 4 e.2
    ({ c with tag := a.1, window := b.1, outs := d.1, ins := e.1, tsn := f.1, items := (itemsR f.2).1 }, (itemsR f.2).2)
  else if c.ty = 3 then sackR c r
  else if c.ty = 4 ∨ c.ty = 5 ∨ c.ty = 6 ∨ c.ty = 9 then ({ c with items := (itemsR r).1 }, (itemsR r).2)
  else if c.ty = 7 then ({ c with tsn := (tk 4 r).1 }, (tk 4 r).2)
  else ({ c with text := r.1 }, ([], r.2))
def nilC : Ch := ⟨0, 0, 0, 0, 0, 0, 0, 0, 0, 0, [], [], [], []⟩
def mkC (t f : Int) : Ch := ⟨t, f, 0, 0, 0, 0, 0, 0, 0, 0, [], [], [], []⟩
def rdC (s : List UInt8) : Ch × Rr := readR (mkC ((s.getD 0 0).toNat : Nat) ((s.getD 1 0).toNat : Nat)) ((s.take (b2 s 2)).drop 4, false)
def okP (s : List UInt8) : Bool := !(rdC s).2.2 && (decide ((rdC s).2.1 = []) && (((buildC (rdC s).1).2 == 0) && !(((s.take (endN s)).drop (b2 s 2)).any (· != 0))))
def parseC (s : List UInt8) : Ch × Nat × Int :=
  if s.length < 4 then (nilC, 0, 3)
  else if b2 s 2 < 4 then (nilC, 0, 2)
  else if s.length < b2 s 2 then (nilC, 0, 3)
  else if 1400 < b2 s 2 then (nilC, 0, 4)
  else if okP s = true then ((rdC s).1, endN s, 0)
  else (nilC, 0, 2)
abbrev in32 (x : Int) : Prop := 0 ≤ x ∧ x < 4294967296
abbrev in16 (x : Int) : Prop := 0 ≤ x ∧ x < 65536
structure ChR (c : Ch) : Prop where
  tsn : in32 c.tsn
  tag : in32 c.tag
  window : in32 c.window
  ppid : in32 c.ppid
  stream : in16 c.stream
  ssn : in16 c.ssn
  outs : in16 c.outs
  ins : in16 c.ins
  gaps : ∀ g ∈ c.gaps, in16 g.1 ∧ in16 g.2
  dups : ∀ x ∈ c.dups, in32 x
theorem beN_lt : ∀ (l : List UInt8) (n : Nat), l.foldl (fun n c => n * 256 + c.toNat) n < (n + 1) * 256 ^ l.length
  | [], n => by simp
  | c :: l, n => by
    rw [List.foldl_cons, List.length_cons]
    have h1 := beN_lt l (n * 256 + c.toNat)
    have h2 := UInt8.toNat_lt c
    refine Nat.lt_of_lt_of_le h1 ?_
    rw [Nat.pow_succ, Nat.mul_comm (256 ^ l.length) 256, ← Nat.mul_assoc]
    exact Nat.mul_le_mul_right _ (by omega)
theorem tk_lt (k : Nat) (r : Rr) : 0 ≤ (tk k r).1 ∧ (tk k r).1 < ((256 ^ k : Nat) : Int) := by
  unfold tk
  split
  · exact ⟨Int.le_refl _, by have := Nat.pow_pos (n := k) (show 0 < 256 from by decide); simp only; omega⟩
  · rename_i h
    have := beN_lt (r.1.take k) 0
    rw [List.length_take, Nat.min_eq_left (by omega)] at this
    simp only [beN]
    omega
theorem tk4_in (r : Rr) : in32 (tk 4 r).1 := by
  have := tk_lt 4 r
  exact ⟨this.1, by omega⟩
theorem tk2_in (r : Rr) : in16 (tk 2 r).1 := by
  have := tk_lt 2 r
  exact ⟨this.1, by omega⟩
theorem tk_be4 {x : Int} (h : in32 x) (t : List UInt8) (b : Bool) : tk 4 (be4 x ++ t, b) = (x, (t, b)) := by
  have hl : (be4 x ++ t).length = t.length + 4 := by simp [be4]
  unfold tk
  rw [if_neg (by simp only; omega)]
  have e1 : (be4 x ++ t).take 4 = be4 x := List.take_left' rfl
  have e2 : (be4 x ++ t).drop 4 = t := List.drop_left' rfl
  simp only [e1, e2]
  have h1 := h.1
  have h2 := h.2
  have e3 : beN (be4 x) = x.toNat := by
    simp only [beN, be4, List.foldl_cons, List.foldl_nil, u8_nat]
    rw [Int.fdiv_eq_ediv_of_nonneg _ (by decide), Int.fdiv_eq_ediv_of_nonneg _ (by decide), Int.fdiv_eq_ediv_of_nonneg _ (by decide)]
    omega
  rw [e3, Int.toNat_of_nonneg h1]
theorem tk_be2 {x : Int} (h : in16 x) (t : List UInt8) (b : Bool) : tk 2 (be2 x ++ t, b) = (x, (t, b)) := by
  have hl : (be2 x ++ t).length = t.length + 2 := by simp [be2]
  unfold tk
  rw [if_neg (by simp only; omega)]
  have e1 : (be2 x ++ t).take 2 = be2 x := List.take_left' rfl
  have e2 : (be2 x ++ t).drop 2 = t := List.drop_left' rfl
  simp only [e1, e2]
  have h1 := h.1
  have h2 := h.2
  have e3 : beN (be2 x) = x.toNat := by
    simp only [beN, be2, List.foldl_cons, List.foldl_nil, u8_nat]
    rw [Int.fdiv_eq_ediv_of_nonneg _ (by decide)]
    omega
  rw [e3, Int.toNat_of_nonneg h1]
theorem rows_gaps : ∀ (l : List (Int × Int)) (h : ∀ g ∈ l, in16 g.1 ∧ in16 g.2) (t : List UInt8), rowsR tkG l.length (l.flatMap gapB ++ t, false) = (l, (t, false))
  | [], _, t => rfl
  | g :: l, h, t => by
    have hg := h g (by simp)
    have e : (g :: l).flatMap gapB ++ t = be2 g.1 ++ (be2 g.2 ++ (l.flatMap gapB ++ t)) := by
      rw [List.flatMap_cons, gapB]
      simp only [List.append_assoc]
    rw [e, List.length_cons, rowsR, if_neg (by simp)]
    have e2 : tkG (be2 g.1 ++ (be2 g.2 ++ (l.flatMap gapB ++ t)), false) = (g, (l.flatMap gapB ++ t, false)) := by
      unfold tkG
      rw [tk_be2 hg.1]
      simp only
      rw [tk_be2 hg.2]
    rw [e2]
    simp only
    rw [rows_gaps l (fun x hx => h x (by simp [hx])) t]
theorem rows_dups : ∀ (l : List Int) (h : ∀ x ∈ l, in32 x) (t : List UInt8), rowsR (tk 4) l.length (l.flatMap be4 ++ t, false) = (l, (t, false))
  | [], _, t => rfl
  | x :: l, h, t => by
    have e : (x :: l).flatMap be4 ++ t = be4 x ++ (l.flatMap be4 ++ t) := by
      rw [List.flatMap_cons]
      simp only [List.append_assoc]
    rw [e, List.length_cons, rowsR, if_neg (by simp), tk_be4 (h x (by simp))]
    simp only
    rw [rows_dups l (fun y hy => h y (by simp [hy])) t]
theorem rows_len {α : Type} (one : Rr → α × Rr) : ∀ (n : Nat) (r : Rr), (rowsR one n r).1.length ≤ n
  | 0, r => Nat.le_refl _
  | n + 1, r => by
    rw [rowsR]
    split
    · simp
    · have := rows_len one n (one r).2
      simp only [List.length_cons]
      omega
theorem rows_all {α : Type} {one : Rr → α × Rr} {p : α → Prop} (h : ∀ r, p (one r).1) : ∀ (n : Nat) (r : Rr), ∀ x ∈ (rowsR one n r).1, p x
  | 0, r, x, hx => by cases hx
  | n + 1, r, x, hx => by
    rw [rowsR] at hx
    split at hx
    · cases hx
    · rcases List.mem_cons.1 hx with rfl | hx
      · exact h r
      · exact rows_all h n _ x hx
theorem itemsR_len (r : Rr) : (itemsR r).1.length ≤ 4000 := by
  show (parseL r.1).1.length ≤ 4000
  rcases parse_cases r.1 with ⟨h1, h2, e⟩ | ⟨h1, pre, r', _, hr, e⟩ | ⟨_, e⟩
  · rw [e]
    have := yl_len r.1 0
    simp only [List.length_map]
    omega
  · rw [e]; simp
  · rw [e]; simp
theorem rowsG_in (n : Nat) (r : Rr) : ∀ g ∈ (rowsR tkG n r).1, in16 g.1 ∧ in16 g.2 := rows_all (p := fun g : Int × Int => in16 g.1 ∧ in16 g.2) (fun r => ⟨tk2_in _, tk2_in _⟩) n r
theorem rowsD_in (n : Nat) (r : Rr) : ∀ x ∈ (rowsR (tk 4) n r).1, in32 x := rows_all (p := in32) (fun r => tk4_in _) n r
theorem rowsG_le (q r : Rr) : (rowsR tkG (tk 2 q).1.toNat r).1.length ≤ 65535 := by
  have h1 := tk2_in q
  have := rows_len tkG (tk 2 q).1.toNat r
  omega
theorem rowsD_le (q r : Rr) : (rowsR (tk 4) (tk 2 q).1.toNat r).1.length ≤ 65535 := by
  have h1 := tk2_in q
  have := rows_len (tk 4) (tk 2 q).1.toNat r
  omega
/-- What is read is in range. -/
theorem read_range (t f : Int) (r : Rr) : ChR (readR (mkC t f) r).1 ∧ (readR (mkC t f) r).1.gaps.length ≤ 65535 ∧ (readR (mkC t f) r).1.dups.length ≤ 65535 ∧ (readR (mkC t f) r).1.items.length ≤ 4000 := by
  have z32 : in32 0 := by decide
  have z16 : in16 0 := by decide
  have g0 : ∀ g ∈ ([] : List (Int × Int)), in16 g.1 ∧ in16 g.2 := fun g hg => by cases hg
  have d0 : ∀ x ∈ ([] : List Int), in32 x := fun g hg => by cases hg
  have l1 : ([] : List (Int × Int)).length ≤ 65535 := by decide
  have l2 : ([] : List Int).length ≤ 65535 := by decide
  have l3 : ([] : List Tlv.It).length ≤ 4000 := by decide
  unfold readR mkC sackR
  dsimp only
  by_cases h0 : t = 0
  · rw [if_pos h0]
    dsimp only
    exact ⟨⟨tk4_in _, z32, z32, tk4_in _, tk2_in _, tk2_in _, z16, z16, g0, d0⟩, l1, l2, l3⟩
  rw [if_neg h0]
  by_cases h1 : t = 1 ∨ t = 2
  · rw [if_pos h1]
    dsimp only
    exact ⟨⟨tk4_in _, tk4_in _, tk4_in _, z32, z16, z16, tk2_in _, tk2_in _, g0, d0⟩, l1, l2, itemsR_len _⟩
  rw [if_neg h1]
  by_cases h3 : t = 3
  · rw [if_pos h3]
    dsimp only
    exact ⟨⟨tk4_in _, z32, tk4_in _, z32, z16, z16, z16, z16, rowsG_in _ _, rowsD_in _ _⟩, rowsG_le _ _, rowsD_le _ _, l3⟩
  rw [if_neg h3]
  by_cases h4 : t = 4 ∨ t = 5 ∨ t = 6 ∨ t = 9
  · rw [if_pos h4]
    dsimp only
    exact ⟨⟨z32, z32, z32, z32, z16, z16, z16, z16, g0, d0⟩, l1, l2, itemsR_len _⟩
  rw [if_neg h4]
  by_cases h7 : t = 7
  · rw [if_pos h7]
    dsimp only
    exact ⟨⟨tk4_in _, z32, z32, z32, z16, z16, z16, z16, g0, d0⟩, l1, l2, l3⟩
  rw [if_neg h7]
  dsimp only
  exact ⟨⟨z32, z32, z32, z32, z16, z16, z16, z16, g0, d0⟩, l1, l2, l3⟩
theorem ChR.ok {c : Ch} (h : ChR c) (h1 : c.gaps.length ≤ 2 ^ 40) (h2 : c.dups.length ≤ 2 ^ 40) (h3 : c.items.length ≤ 2 ^ 20) : ChOk c := by
  refine ⟨h1, h2, h3, fun j => ?_⟩
  by_cases hj : j < c.gaps.length
  · rw [List.getD_eq_getElem?_getD, List.getElem?_eq_getElem hj]
    have := h.gaps _ (List.getElem_mem hj)
    exact ⟨this.1.1, this.1.2, this.2.1, this.2.2⟩
  · rw [List.getD_eq_getElem?_getD, List.getElem?_eq_none (by omega)]
    decide
/-- An item without all of its noughts, at the end. -/
theorem first_cut (x : Tlv.It) (h : okIt x) : firstL (hdr x ++ x.v) = (x, x.v.length + 4, 0) := by
  obtain ⟨h1, h2, h3⟩ := h
  have hb2 : b2 (hdr x ++ x.v) 2 = x.v.length + 4 := by
    show (u8 (((x.v.length + 4 : Nat) : Int).fdiv 256)).toNat * 256 + (u8 ((x.v.length + 4 : Nat) : Int)).toNat = _
    rw [u8_two _ (by omega) (by omega)]
    omega
  have hb0 : (b2 (hdr x ++ x.v) 0 : Int) = x.ty := by
    show (((u8 (x.ty.fdiv 256)).toNat * 256 + (u8 x.ty).toNat : Nat) : Int) = _
    rw [u8_two _ h1 h2]
    omega
  have hl : (hdr x ++ x.v).length = x.v.length + 4 := by simp [hdr]
  have hend : endN (hdr x ++ x.v) = x.v.length + 4 := by unfold endN; rw [hb2]; omega
  unfold firstL
  rw [hb2, hend, List.take_of_length_le (by omega), List.drop_of_length_le (by omega), if_neg (by omega), if_neg (by omega), if_neg (by omega), if_neg (by omega), if_neg (by simp), hb0]
  rfl
theorem cut_snoc (l : List Tlv.It) (x : Tlv.It) : cutB (l ++ [x]) = Tlv.bytes l ++ (hdr x ++ x.v) := by
  have e1 : Tlv.bytes (l ++ [x]) = (Tlv.bytes l ++ (hdr x ++ x.v)) ++ List.replicate (padN (x.v.length + 4)) 0 := by
    simp [Tlv.bytes, Tlv.enc, tailB]
  have e2 : lastN (l ++ [x]) = x.v.length := by
    unfold lastN
    rw [List.length_append, List.getD_eq_getElem?_getD, List.getElem?_append_right (by simp)]
    simp
  have e3 : padN (x.v.length + 4) = padN x.v.length := by unfold padN; omega
  unfold cutB
  rw [e2, e1, e3]
  exact List.take_left' (by simp only [List.length_append, List.length_replicate]; omega)
theorem yl_cut (l : List Tlv.It) (x : Tlv.It) (h : ∀ y ∈ l, okIt y) (hx : okIt x) (p : Nat) : (yl (Tlv.bytes l ++ (hdr x ++ x.v)) p).map (·.x) = l ++ [x] ∧ (yl (Tlv.bytes l ++ (hdr x ++ x.v)) p).all Tlv.okR = true := by
  have hl : (hdr x ++ x.v).length = x.v.length + 4 := by simp [hdr]
  obtain ⟨i1, i2⟩ := yl_bytes l h p
  have e := yl_app (hdr x ++ x.v) i2 (bytes_mod l)
  have hf := first_cut x hx
  have e2 : yl (hdr x ++ x.v) (p + (Tlv.bytes l).length) = [⟨p + (Tlv.bytes l).length, 0, x⟩] := by
    rw [yl_go (by omega) (by rw [hf]), hf]
    simp only
    rw [yl_nil (by rw [List.length_drop]; omega)]
  rw [e, e2, List.map_append, i1, List.all_append, i2]
  exact ⟨rfl, rfl⟩
theorem parse_cut {l : List Tlv.It} (h : (buildL l).2 = 0) : parseL (cutB l) = (l, 0, 0) := by
  rcases build_cases l with e | ⟨e, _⟩ | ⟨e, hle, hok⟩
  · rw [e] at h; cases h
  · rw [e] at h; cases h
  have hc := cut_len l
  rcases List.eq_nil_or_concat l with rfl | ⟨r, x, rfl⟩
  · have : cutB ([] : List Tlv.It) = [] := rfl
    rw [this]
    unfold parseL parseY
    rw [if_neg (by simp), yl_nil rfl]
    rfl
  · rw [List.concat_eq_append] at *
    rw [cut_snoc] at hc ⊢
    obtain ⟨i1, i2⟩ := yl_cut r x (fun y hy => hok y (by simp [hy])) (hok x (by simp)) 0
    unfold parseL parseY
    rw [if_neg (by omega), if_pos i2, i1]
end Go.Proofs.YtcdondbegnbdgaaDoor
