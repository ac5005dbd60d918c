/- Chapter 7: Build, Right, Size. -/
import Derived.Test.YtbghocipmlobnaaGreatChC
namespace Towline.Chunk
open Towline.Tlv
/-- The bytes with their number in them. -/
def sealB (v : List UInt8) : List UInt8 := (v.set 2 (u8 ((v.length : Int).fdiv 256))).set 3 (u8 v.length)
end Towline.Chunk
namespace Go.Proofs.YtbghocipmlobnaaGreat
open Go Go.RowKit Towline Towline.Tlv Towline.Chunk
set_option linter.unusedVariables false
set_option linter.unusedSimpArgs false
set_option maxRecDepth 20000
set_option maxHeartbeats 4000000
theorem lheap1 {P : Program} {f : FuncId} {args : List AVal} {i : Nat} {o o' : AObj} {post : AVal → Heap → Prop} (h : LSpec P f args [(i, o)] post) (ho : OLe o' o) : LSpec P f args [(i, o')] post := by
  have e1 : ∀ (o : AObj) id x, lookO id [(i, o)] = some x → id = i ∧ x = o := fun o id x hx => by
    simp only [lookO] at hx
    split at hx
    · rename_i hb
      exact ⟨(Nat.eq_of_beq_eq_true hb).symm, by cases hx; rfl⟩
    · cases hx
  have e2 : ∀ o : AObj, lookO i [(i, o)] = some o := fun o => by simp [lookO]
  have e : ∀ L, owned L (lko [(i, o')]) = owned L (lko [(i, o)]) := fun L => funext fun b => propext
    ⟨fun ⟨id, x, k1, k2⟩ => by obtain ⟨rfl, rfl⟩ := e1 _ _ _ k1; exact ⟨id, o, e2 o, k2⟩, fun ⟨id, x, k1, k2⟩ => by obtain ⟨rfl, rfl⟩ := e1 _ _ _ k1; exact ⟨id, o', e2 o', k2⟩⟩
  refine ⟨h.1, fun w R L vs k0 k1 k2 k3 k4 k5 k6 k7 => ?_⟩
  refine (h.2 w R L vs k0 k1 k2 (fun b => by rw [k3 b, e]) k4 (fun id x hx => ?_) (fun a b oa ob bb ha hb => ?_) (fun id x b hx => ?_)).mono ?_
  · obtain ⟨rfl, rfl⟩ := e1 _ _ _ hx
    exact (k5 _ _ (e2 o')).weaken ho
  · obtain ⟨rfl, rfl⟩ := e1 _ _ _ ha
    obtain ⟨rfl, rfl⟩ := e1 _ _ _ hb
    exact fun _ _ => rfl
  · obtain ⟨rfl, rfl⟩ := e1 _ _ _ hx
    exact k7 _ _ b (e2 o')
  · rintro e' w' ⟨v, r, hl', L', m1, m2, m3, m4⟩
    refine ⟨v, r, hl', L', m1, m2, ⟨?_, ?_, m3.inj, ?_, ?_⟩, ?_⟩
    · rw [e]; exact m3.below
    · have := m3.obj
      unfold lgood at this ⊢
      rw [e]; exact this
    · have := m3.own
      rw [e]; exact this
    · intro id x x' hx hx'
      obtain ⟨rfl, rfl⟩ := e1 _ _ _ hx
      exact m3.kept _ _ _ (e2 o) hx'
    · unfold lgood at m4 ⊢
      rw [e]; exact m4
def headB (c : Ch) : List UInt8 := [u8 c.ty, u8 c.flags, 0, 0]
theorem headB_row (c : Ch) : ∀ k, k < 4 → ([D.i .u8 (IntKind.u8.wrap c.ty)] :: [D.i .u8 (IntKind.u8.wrap c.flags)] :: [D.i .u8 0] :: [D.i .u8 0] :: replF 0 ty5.zero).getD k [] = bytesF (headB c) k := by
  intro j hj
  match j, hj with
  | 0, _ => show [D.i .u8 (IntKind.u8.wrap c.ty)] = [D.i .u8 ((u8 c.ty).toNat : Nat)]; rw [u8_wrap]
  | 1, _ => show [D.i .u8 (IntKind.u8.wrap c.flags)] = [D.i .u8 ((u8 c.flags).toNat : Nat)]; rw [u8_wrap]
  | 2, _ => rfl
  | 3, _ => rfl
theorem bytes_set (v : List UInt8) (i : Nat) (x : UInt8) (hi : i < v.length) (k : Nat) : fupd (bytesF v) i [.i .u8 (x.toNat : Nat)] k = bytesF (v.set i x) k := by
  unfold fupd bytesF
  by_cases h : k = i
  · subst h
    rw [if_pos rfl, List.getD_eq_getElem?_getD, List.getElem?_set_self hi]
    rfl
  · rw [if_neg h, List.getD_eq_getElem?_getD, List.getD_eq_getElem?_getD, List.getElem?_set_ne (fun e => h e.symm)]
theorem fupd_congr {f g : Nat → List D} (h : ∀ k, f k = g k) (i : Nat) (r : List D) (k : Nat) : fupd f i r k = fupd g i r k := by
  unfold fupd
  split
  · rfl
  · exact h k
theorem seal_row (v : List UInt8) (h : 4 ≤ v.length) (k : Nat) : fupd (fupd (bytesF v) 2 [D.i .u8 (IntKind.u8.wrap ((v.length : Int).fdiv 256))]) 3 [D.i .u8 (IntKind.u8.wrap v.length)] k = bytesF (sealB v) k := by
  rw [← u8_wrap, ← u8_wrap]
  rw [fupd_congr (fun k => bytes_set v 2 _ (by omega) k)]
  exact bytes_set _ 3 _ (by simp; omega) k
theorem noughts (n k : Nat) : bytesF (List.replicate n 0) k = [D.i .u8 0] := by
  unfold bytesF
  rw [List.getD_eq_getElem?_getD, List.getElem?_replicate]
  split <;> rfl
def goodC (c : Ch) : Bool := ((buildL c.items).2 == 0) && fitsB c && decide (c = onlyC c)
def encC (c : Ch) : List UInt8 := sealB (valB (headB c) c) ++ List.replicate (padN (valB (headB c) c).length) 0
theorem encC_len (c : Ch) : (encC c).length = (valB (headB c) c).length + padN (valB (headB c) c).length := by
  simp [encC, sealB]
theorem encC_row (c : Ch) (h : 4 ≤ (valB (headB c) c).length) (k : Nat) (hk : k < (valB (headB c) c).length + padN (valB (headB c) c).length) : fcat (fupd (fupd (bytesF (valB (headB c) c)) 2 [D.i .u8 (IntKind.u8.wrap (((valB (headB c) c).length : Int).fdiv 256))]) 3 [D.i .u8 (IntKind.u8.wrap (valB (headB c) c).length)]) (valB (headB c) c).length (fun _ => [D.i .u8 0]) k = bytesF (encC c) k := by
  have e : (valB (headB c) c).length = (sealB (valB (headB c) c)).length := by simp [sealB]
  rw [fcat_congr (fun k _ => seal_row _ h k) (fun j _ => (noughts (padN (valB (headB c) c).length) j).symm) k hk, encC]
  have := fcat_bytes (sealB (valB (headB c) c)) (List.replicate (padN (valB (headB c) c).length) 0) k (by rw [← e, List.length_replicate]; exact hk)
  rw [← e] at this
  exact this
def buildC (c : Ch) : List UInt8 × Int := if goodC c = true then (if 1400 < (encC c).length then ([], 4) else (encC c, 0)) else ([], 1)
structure ChOk (c : Ch) : Prop where
  gaps : c.gaps.length ≤ 2 ^ 40
  dups : c.dups.length ≤ 2 ^ 40
  items : c.items.length ≤ 2 ^ 20
  gap : GapsOk c.gaps
theorem good_sizes (c : Ch) (g2 : fitsB c = true) (g3 : c = onlyC c) : c.gaps.length ≤ 100 ∧ c.dups.length ≤ 100 ∧ c.text.length ≤ 1000 := by
  have eg := congrArg Ch.gaps g3
  have ed := congrArg Ch.dups g3
  have et := congrArg Ch.text g3
  by_cases h0 : c.ty = 0
  · rw [only_0 h0] at eg ed et
    simp [fitsB, textB, risesB, h0] at g2
    simp at eg ed et
    refine ⟨?_, ?_, ?_⟩ <;> first | (rw [eg]; simp; done) | (rw [ed]; simp; done) | (rw [et]; simp; done) | omega
  by_cases h1 : c.ty = 1
  · rw [only_1 h1] at eg ed et
    simp [fitsB, textB, risesB, h1] at g2
    simp at eg ed et
    refine ⟨?_, ?_, ?_⟩ <;> first | (rw [eg]; simp; done) | (rw [ed]; simp; done) | (rw [et]; simp; done) | omega
  by_cases h2 : c.ty = 2
  · rw [only_2 h2] at eg ed et
    simp [fitsB, textB, risesB, h2] at g2
    simp at eg ed et
    refine ⟨?_, ?_, ?_⟩ <;> first | (rw [eg]; simp; done) | (rw [ed]; simp; done) | (rw [et]; simp; done) | omega
  by_cases h3 : c.ty = 3
  · rw [only_3 h3] at eg ed et
    simp [fitsB, textB, risesB, h3] at g2
    simp at eg ed et
    refine ⟨?_, ?_, ?_⟩ <;> first | (rw [eg]; simp; done) | (rw [ed]; simp; done) | (rw [et]; simp; done) | omega
  by_cases h4 : c.ty = 4
  · rw [only_4 h4] at eg ed et
    simp [fitsB, textB, risesB, h4] at g2
    simp at eg ed et
    refine ⟨?_, ?_, ?_⟩ <;> first | (rw [eg]; simp; done) | (rw [ed]; simp; done) | (rw [et]; simp; done) | omega
  by_cases h5 : c.ty = 5
  · rw [only_5 h5] at eg ed et
    simp [fitsB, textB, risesB, h5] at g2
    simp at eg ed et
    refine ⟨?_, ?_, ?_⟩ <;> first | (rw [eg]; simp; done) | (rw [ed]; simp; done) | (rw [et]; simp; done) | omega
  by_cases h9 : c.ty = 9
  · rw [only_9 h9] at eg ed et
    simp [fitsB, textB, risesB, h9] at g2
    simp at eg ed et
    refine ⟨?_, ?_, ?_⟩ <;> first | (rw [eg]; simp; done) | (rw [ed]; simp; done) | (rw [et]; simp; done) | omega
  by_cases h6 : c.ty = 6
  · rw [only_6 h6] at eg ed et
    simp [fitsB, textB, risesB, h6] at g2
    simp at eg ed et
    refine ⟨?_, ?_, ?_⟩ <;> first | (rw [eg]; simp; done) | (rw [ed]; simp; done) | (rw [et]; simp; done) | omega
  by_cases h7 : c.ty = 7
  · rw [only_7 h7] at eg ed et
    simp [fitsB, textB, risesB, h7] at g2
    simp at eg ed et
    refine ⟨?_, ?_, ?_⟩ <;> first | (rw [eg]; simp; done) | (rw [ed]; simp; done) | (rw [et]; simp; done) | omega
  by_cases h8 : c.ty = 8
  · rw [only_8 h8] at eg ed et
    simp [fitsB, textB, risesB, h8] at g2
    simp at eg ed et
    refine ⟨?_, ?_, ?_⟩ <;> first | (rw [eg]; simp; done) | (rw [ed]; simp; done) | (rw [et]; simp; done) | omega
  by_cases h11 : c.ty = 11
  · rw [only_11 h11] at eg ed et
    simp [fitsB, textB, risesB, h11] at g2
    simp at eg ed et
    refine ⟨?_, ?_, ?_⟩ <;> first | (rw [eg]; simp; done) | (rw [ed]; simp; done) | (rw [et]; simp; done) | omega
  by_cases h10 : c.ty = 10
  · rw [only_10 h10] at eg ed et
    simp [fitsB, textB, risesB, h10] at g2
    simp at eg ed et
    refine ⟨?_, ?_, ?_⟩ <;> first | (rw [eg]; simp; done) | (rw [ed]; simp; done) | (rw [et]; simp; done) | omega
  by_cases h14 : c.ty = 14
  · rw [only_14 h14] at eg ed et
    simp [fitsB, textB, risesB, h14] at g2
    simp at eg ed et
    refine ⟨?_, ?_, ?_⟩ <;> first | (rw [eg]; simp; done) | (rw [ed]; simp; done) | (rw [et]; simp; done) | omega
  rw [only_other h0 h1 h2 h3 h4 h5 h9 h6 h7 h8 h11 h10 h14] at eg ed et
  simp [fitsB, textB, h0, h1, h2, h3, h4, h5, h9, h6, h7, h8, h11, h10, h14] at g2
  simp at eg ed et
  refine ⟨?_, ?_, ?_⟩ <;> first | (rw [eg]; simp; done) | (rw [ed]; simp; done) | omega
theorem valB_len (s : List UInt8) (c : Ch) (h : c.gaps.length ≤ 100 ∧ c.dups.length ≤ 100 ∧ c.text.length ≤ 1000) (hb : (Tlv.bytes c.items).length ≤ 4000) : s.length ≤ (valB s c).length ∧ (valB s c).length ≤ s.length + 10000 := by
  have h4 := cut_len c.items
  have h5 : s.length ≤ (preB s c).length ∧ (preB s c).length ≤ s.length + 2000 := by
    unfold preB
    split
    · simp [be4, be2] <;> omega
    · split
      · simp [be4, be2] <;> omega
      · split
        · rw [List.length_append, List.length_append, len32, gapB_len]
          simp [be4, be2]
          omega
        · split
          · simp [be4]
          · omega
  unfold valB
  rw [List.length_append, List.length_append]
  omega
abbrev buiT : Tys := tysX false [] [(94, [])] []
abbrev buiTOk : TysOk Tryz.prog buiT := tysXOk _ _ _ _
theorem build_spec7 (c : Ch) (h : ChOk c) : PSpec Tryz.prog 44 [cA c] (· = .tup [tvs (buildC c).1, tvi (buildC c).2]) := by
  refine PSpec.run (buiTOk) followsB Tryz.func44 (by decide) rfl Tryz.ntmps44 (Nat.le_of_ble_eq_true rfl) rfl fun w0 R0 hGw => ?_
  conv => whnf
  refine ⟨_, build_spec c.items h.items, ?_⟩
  rintro q rfl
  conv => whnf
  split <;> rename_i g1
  · have g1 : ((buildL c.items).2 == 0) = false := by
      rw [bne, Bool.not_eq_true'] at g1
      exact g1
    have e : buildC c = ([], 1) := by rw [buildC, if_neg (by simp [goodC, g1])]
    conv => whnf
    refine ⟨by kernel_rfl, ?_⟩
    conv => whnf
    rw [e]
    exact ⟨_, .refl _, rfl, rfl⟩
  have g1 : ((buildL c.items).2 == 0) = true := by
    rw [bne, Bool.not_eq_false'] at g1
    exact g1
  conv => whnf
  refine ⟨_, fits_spec c h.gaps h.gap, ?_⟩
  conv => whnf
  cases g2 : fitsB c
  · have e : buildC c = ([], 1) := by rw [buildC, if_neg (by simp [goodC, g2])]
    conv => whnf
    refine ⟨by kernel_rfl, ?_⟩
    conv => whnf
    rw [e]
    exact ⟨_, .refl _, rfl, rfl⟩
  conv => whnf
  refine ⟨_, only_spec c, ?_⟩
  conv => whnf
  refine ⟨_, same_spec7 c (onlyC c) h.gaps h.dups (Nat.le_trans h.items (by decide)), ?_⟩
  conv => whnf
  by_cases g3 : c = onlyC c
  rotate_left
  · have e : buildC c = ([], 1) := by rw [buildC, if_neg (by simp [goodC, g3])]
    rw [decide_eq_false g3]
    conv => whnf
    refine ⟨by kernel_rfl, ?_⟩
    conv => whnf
    rw [e]
    exact ⟨_, .refl _, rfl, rfl⟩
  rw [decide_eq_true g3]
  conv => whnf
  refine ⟨by kernel_rfl, ?_⟩
  conv => whnf
  obtain ⟨hb1, hb2, hb3⟩ := ok_bytes (show (buildL c.items).2 = 0 from by simpa using g1)
  have hz := good_sizes c g2 g3
  have hv := valB_len (headB c) c hz hb2
  have hc : goodC c = true := by simp [goodC, g1, g2, ← g3]
  rw [show (headB c).length = 4 from rfl] at hv
  refine ⟨_, (lheap1 (value_spec (headB c) c (by rw [show (headB c).length = 4 from rfl]; decide) hz.1 hz.2.1 h.items (by simpa using g1) (by omega)) ⟨rfl, rfl, rfl, headB_row c⟩), ?_⟩
  rintro q hq ⟨rfl, rfl⟩
  conv => whnf
  refine ⟨by first | omega | (simp only [Int.toNat_natCast]; omega) | (simp; done) | (simp; omega), ?_⟩
  conv => whnf
  refine ⟨by first | omega | (simp only [Int.toNat_natCast]; omega) | (simp; done) | (simp; omega), ?_⟩
  conv => whnf
  refine ⟨by first | omega | (simp only [Int.toNat_natCast]; omega) | (simp; done) | (simp; omega), ?_⟩
  conv => whnf
  refine ⟨by first | omega | (simp only [Int.toNat_natCast]; omega) | (simp; done) | (simp; omega), ?_⟩
  conv => whnf
  refine ⟨by first | omega | (simp only [Int.toNat_natCast]; omega) | (simp; done) | (simp; omega), ?_⟩
  conv => whnf
  refine ⟨_, pad_spec (valB (headB c) c).length (by omega), ?_⟩
  rintro q rfl
  conv => whnf
  have hpad := pad_lt (valB (headB c) c).length
  refine ⟨⟨⟨rfl, by simp only [Int.toNat_natCast]; omega, by simp only [Int.toNat_natCast, ty5]; omega⟩, ⟨by omega, by simp only [Int.toNat_natCast]; omega, by simp only [Int.toNat_natCast, ty5]; omega⟩⟩, ?_⟩
  conv => whnf
  split <;> rename_i h5
  · replace h5 := of_decide_eq_true h5
    conv => whnf
    have e : buildC c = ([], 4) := by
      rw [buildC, if_pos hc, if_pos (by rw [encC_len]; simp only [Int.toNat_natCast] at h5; omega)]
    rw [e]
    exact ⟨_, .refl _, rfl, rfl⟩
  · replace h5 := of_decide_eq_false h5
    conv => whnf
    have e : buildC c = (encC c, 0) := by
      rw [buildC, if_pos hc, if_neg (by rw [encC_len]; simp only [Int.toNat_natCast] at h5; omega)]
    refine ⟨encC c, ⟨encC_len c, by omega, fun k hk => ?_⟩, ?_⟩
    · have e0 : 0 + k = k := Nat.zero_add k
      rw [e0]
      exact encC_row c hv.1 k hk
    conv => whnf
    rw [e]
    exact ⟨_, .refl _, rfl, rfl⟩
theorem right_spec (c : Ch) (h : ChOk c) : PSpec Tryz.prog 14 [cA c] (· = tvb ((buildC c).2 == 0)) := by
  refine PSpec.run (tysOk) followsB Tryz.func14 (by decide) rfl Tryz.ntmps14 (Nat.le_of_ble_eq_true rfl) rfl fun w0 R0 hGw => ?_
  conv => whnf
  refine ⟨_, build_spec7 c h, ?_⟩
  rintro q rfl
  conv => whnf
  exact ⟨_, .refl _, rfl, rfl⟩
end Go.Proofs.YtbghocipmlobnaaGreat
