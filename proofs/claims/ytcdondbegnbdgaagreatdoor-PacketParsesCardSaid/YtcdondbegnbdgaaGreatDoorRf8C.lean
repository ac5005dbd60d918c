/- Chapter 7, the document's answer: value, shaped, Build, Right, Size: contracts. -/
import Derived.Test.YtcdondbegnbdgaaGreatDoorRf8B
import Derived.Test.YtcdondbegnbdgaaGreatDoorPkK
namespace Go.Proofs.YtcdondbegnbdgaaGreatDoor
open Go Go.RowKit Towline Towline.Tlv Towline.Chunk
set_option linter.unusedVariables false
set_option linter.unusedSimpArgs false
set_option maxRecDepth 20000
set_option maxHeartbeats 1000000
theorem val_0 {c : Ch} (g : c.ty = 0) (ho : c = onlyC c) : valB [] c = be4 c.tsn ++ be2 c.stream ++ be2 c.ssn ++ be4 c.ppid ++ c.text := by
  have hi := congrArg Ch.items ho
  rw [only_0 g] at hi
  rw [valB, preB, if_pos g, show c.items = [] from hi, cut_nil]
  simp [List.append_assoc]
theorem val_12 {c : Ch} (g : c.ty = 1 ∨ c.ty = 2) (ho : c = onlyC c) : valB [] c = be4 c.tag ++ be4 c.window ++ be2 c.outs ++ be2 c.ins ++ be4 c.tsn ++ cutB c.items := by
  have ht := congrArg Ch.text ho
  rcases g with g | g
  · rw [only_1 g] at ht
    rw [valB, preB, if_neg (by omega), if_pos (by omega), show c.text = [] from ht]
    simp [List.append_assoc]
  · rw [only_2 g] at ht
    rw [valB, preB, if_neg (by omega), if_pos (by omega), show c.text = [] from ht]
    simp [List.append_assoc]
theorem val_3 {c : Ch} (g : c.ty = 3) (ho : c = onlyC c) : valB [] c = be4 c.tsn ++ be4 c.window ++ be2 c.gaps.length ++ be2 c.dups.length ++ c.gaps.flatMap gapB ++ c.dups.flatMap be4 := by
  have ht := congrArg Ch.text ho
  have hi := congrArg Ch.items ho
  rw [only_3 g] at ht hi
  rw [valB, preB, if_neg (by omega), if_neg (by omega), if_pos g, show c.text = [] from ht, show c.items = [] from hi, cut_nil]
  simp [List.append_assoc]
theorem val_7 {c : Ch} (g : c.ty = 7) (ho : c = onlyC c) : valB [] c = be4 c.tsn := by
  have ht := congrArg Ch.text ho
  have hi := congrArg Ch.items ho
  rw [only_7 g] at ht hi
  rw [valB, preB, if_neg (by omega), if_neg (by omega), if_neg (by omega), if_pos g, show c.text = [] from ht, show c.items = [] from hi, cut_nil]
  simp
theorem val_o {c : Ch} (g0 : ¬ c.ty = 0) (g1 : ¬ c.ty = 1) (g2 : ¬ c.ty = 2) (g3 : ¬ c.ty = 3) (g7 : ¬ c.ty = 7) : valB [] c = cutB c.items ++ c.text := by
  rw [valB, preB, if_neg g0, if_neg (by omega), if_neg g3, if_neg g7]
  rfl
theorem be4_len (x : Int) : (be4 x).length = 4 := rfl
theorem be2_len (x : Int) : (be2 x).length = 2 := rfl
theorem take_flat {α : Type} [Inhabited α] (f : α → List UInt8) (l : List α) (k : Nat) (h : k < l.length) : (l.take (k + 1)).flatMap f = (l.take k).flatMap f ++ f (l.getD k default) := by
  rw [List.take_succ_eq_append_getElem h, List.flatMap_append, List.getD_eq_getElem?_getD, List.getElem?_eq_getElem h]
  simp
def p3 (c : Ch) : List UInt8 := be4 c.tsn ++ be4 c.window ++ be2 c.gaps.length ++ be2 c.dups.length
theorem p3_len (c : Ch) : (p3 c).length = 12 := rfl
theorem rvalue_spec (c : Ch) (hi : c.items.length ≤ 2 ^ 20) (hb : (buildL c.items).2 = 0) (hz : c.gaps.length ≤ 100 ∧ c.dups.length ≤ 100 ∧ c.text.length ≤ 1000) (ho : c = onlyC c) (hr : ChR c) : PSpec Tryz.prog 62 [cA c] (· = tvs (valB [] c)) := by
  obtain ⟨hb1, hb2, hb3⟩ := ok_bytes hb
  have hB := rbuild_spec c.items hi
  rw [hb1] at hB
  obtain ⟨k3, k4, k5, k6, k7, k8, k9, k10, g1a, g2a⟩ := hr
  refine PSpec.run (tysOk) followsB Tryz.func62 (by decide) rfl Tryz.ntmps62 (Nat.le_of_ble_eq_true rfl) rfl fun w0 R0 => ?_
  conv => whnf
  refine ⟨_, hB, ?_⟩
  rintro q rfl
  conv => whnf
  split <;> rename_i h1
  · have h1 : 0 < c.items.length := by simp at h1; omega
    have h2 := bytes_ge h1
    have h3 := pad_lt (lastN c.items)
    have h4 := cut_len c.items
    conv => whnf
    refine ⟨by first | omega | (simp only [Int.toNat_natCast]; omega) | (simp; done) | (simp; omega), ?_⟩
    conv => whnf
    rw [show ((c.items.length : Int) - 1).toNat = c.items.length - 1 from by omega]
    refine ⟨by first | omega | (simp only [Int.toNat_natCast]; omega) | (simp; done) | (simp; omega), ?_⟩
    conv => whnf
    refine ⟨_, rpadN_spec (lastN c.items) (by unfold lastN; have := hb3 (c.items.length - 1); omega), ?_⟩
    rintro q rfl
    conv => whnf
    refine ⟨by first | omega | (simp only [Int.toNat_natCast]; omega) | (simp; done) | (simp; omega), ?_⟩
    conv => whnf
    refine ⟨by first | omega | (simp only [Int.toNat_natCast]; omega) | (simp; done) | (simp; omega), ?_⟩
    conv => whnf
    rw [show cutS (Tlv.bytes c.items, 0).fst none (some (↑(Tlv.bytes c.items, 0).fst.length - ↑(padN (lastN c.items)))) = cutB c.items from cut_eq h1]
    split <;> rename_i g0b
    · have g0 : c.ty = 0 := by simpa using g0b
      conv => whnf
      repeat (first | (refine ⟨by first | decide | omega | (simp only [Int.toNat_natCast]; omega) | (simp only [List.length_append, be4_len, be2_len]; omega), ?_⟩; conv => whnf) | (refine ⟨_, four_spec _, ?_⟩; conv => whnf) | (refine ⟨_, two_spec _ (by first | assumption | exact ⟨by omega, by omega⟩), ?_⟩; conv => whnf))
      refine ⟨by kernel_rfl, ?_⟩
      conv => whnf
      rw [val_0 g0 ho]
      exact ⟨_, .refl _, rfl, rfl⟩
    have g0 : ¬ c.ty = 0 := by simpa using g0b
    conv => whnf
    split <;> rename_i g1b
    · have g1 : c.ty = 1 := by simpa using g1b
      conv => whnf
      try (rw [g1b]; conv => whnf)
      repeat (first | (refine ⟨by first | decide | omega | (simp only [Int.toNat_natCast]; omega) | (simp only [List.length_append, be4_len, be2_len]; omega), ?_⟩; conv => whnf) | (refine ⟨_, four_spec _, ?_⟩; conv => whnf) | (refine ⟨_, two_spec _ (by first | assumption | exact ⟨by omega, by omega⟩), ?_⟩; conv => whnf))
      refine ⟨by kernel_rfl, ?_⟩
      conv => whnf
      rw [val_12 (.inl g1) ho]
      exact ⟨_, .refl _, rfl, rfl⟩
    have g1 : ¬ c.ty = 1 := by simpa using g1b
    conv => whnf
    split <;> rename_i g2b
    · have g2 : c.ty = 2 := by simpa using g2b
      conv => whnf
      try (rw [g1b]; conv => whnf)
      try (rw [g2b]; conv => whnf)
      repeat (first | (refine ⟨by first | decide | omega | (simp only [Int.toNat_natCast]; omega) | (simp only [List.length_append, be4_len, be2_len]; omega), ?_⟩; conv => whnf) | (refine ⟨_, four_spec _, ?_⟩; conv => whnf) | (refine ⟨_, two_spec _ (by first | assumption | exact ⟨by omega, by omega⟩), ?_⟩; conv => whnf))
      refine ⟨by kernel_rfl, ?_⟩
      conv => whnf
      rw [val_12 (.inr g2) ho]
      exact ⟨_, .refl _, rfl, rfl⟩
    have g2 : ¬ c.ty = 2 := by simpa using g2b
    conv => whnf
    split <;> rename_i g3b
    · have g3 : c.ty = 3 := by simpa using g3b
      conv => whnf
      repeat (first | (refine ⟨by first | decide | omega | (simp only [Int.toNat_natCast]; omega) | (simp only [List.length_append, be4_len, be2_len]; omega), ?_⟩; conv => whnf) | (refine ⟨_, four_spec _, ?_⟩; conv => whnf) | (refine ⟨_, two_spec _ (by first | assumption | exact ⟨by omega, by omega⟩), ?_⟩; conv => whnf))
      refine ⟨by kernel_rfl, ?_⟩
      conv => whnf
      refine ALoop.introR tysOk followsB (fun k : {k // k ≤ c.gaps.length} => ([(1, .ptr 1 0), (5, tvs (p3 c ++ (c.gaps.take k.1).flatMap gapB)), (6, tvi k.1)], [(1, .box (cL c) none)])) (fun k => c.gaps.length - k.1) ⟨0, by omega⟩ ⟨.refl _, .of_eq (by simp [p3]), .refl _, OLe.refl _, trivial⟩ ?_
      rintro ⟨k, hk⟩
      dsimp only
      have hL : (p3 c ++ (c.gaps.take k).flatMap gapB).length = 12 + 4 * k := by
        rw [List.length_append, p3_len, gapB_len, List.length_take]
        omega
      conv => whnf
      split <;> rename_i q1
      · have hlt : k < c.gaps.length := by simpa using q1
        have hin := g1a (c.gaps.getD k default) (by rw [List.getD_eq_getElem?_getD, List.getElem?_eq_getElem hlt]; exact List.getElem_mem hlt)
        have hin1 : in16 (c.gaps.getD (Int.toNat k) default).1 := hin.1
        have hin2 : in16 (c.gaps.getD (Int.toNat k) default).2 := hin.2
        obtain ⟨W, hW⟩ : ∃ W, W = p3 c ++ (c.gaps.take k).flatMap gapB := ⟨_, rfl⟩
        rw [← hW] at hL ⊢
        conv => whnf
        repeat (first | (refine ⟨by first | decide | omega | (simp only [Int.toNat_natCast]; omega) | (simp only [List.length_append, be4_len, be2_len]; omega), ?_⟩; conv => whnf) | (refine ⟨_, four_spec _, ?_⟩; conv => whnf) | (refine ⟨_, two_spec _ (by first | assumption | exact ⟨by omega, by omega⟩), ?_⟩; conv => whnf))
        refine ⟨by kernel_rfl, ?_⟩
        conv => whnf
        refine ⟨by first | omega | (simp only [Int.toNat_natCast]; omega) | (simp; done) | (simp; omega), ?_⟩
        conv => whnf
        refine ⟨⟨k + 1, by omega⟩, [], by dsimp only; omega, .refl _, .of_eq ?_, .refl _, OLe.refl _, trivial⟩
        dsimp only
        rw [take_flat _ _ _ hlt, hW, gapB]
        simp only [List.append_assoc]
        rfl
      have hlt : ¬ k < c.gaps.length := by simpa using q1
      obtain rfl : k = c.gaps.length := by omega
      rw [List.take_length] at hL ⊢
      clear q1 hlt hk
      conv => whnf
      refine ALoop.introR tysOk followsB (fun k : {k // k ≤ c.dups.length} => ([(1, .ptr 1 0), (5, tvs (p3 c ++ c.gaps.flatMap gapB ++ (c.dups.take k.1).flatMap be4)), (7, tvi k.1)], [(1, .box (cL c) none)])) (fun k => c.dups.length - k.1) ⟨0, by omega⟩ ⟨.refl _, .of_eq (by simp), .refl _, OLe.refl _, trivial⟩ ?_
      rintro ⟨k, hk⟩
      dsimp only
      have hL2 : (p3 c ++ c.gaps.flatMap gapB ++ (c.dups.take k).flatMap be4).length = 12 + 4 * c.gaps.length + 4 * k := by
        rw [List.length_append, hL, len32, List.length_take]
        omega
      conv => whnf
      split <;> rename_i q1
      · have hlt : k < c.dups.length := by simpa using q1
        obtain ⟨W, hW⟩ : ∃ W, W = p3 c ++ c.gaps.flatMap gapB ++ (c.dups.take k).flatMap be4 := ⟨_, rfl⟩
        rw [← hW] at hL2 ⊢
        conv => whnf
        refine ⟨by first | omega | (simp only [Int.toNat_natCast]; omega) | (simp; done) | (simp; omega), ?_⟩
        conv => whnf
        refine ⟨_, four_spec (c.dups.getD (Int.toNat k) default), ?_⟩
        rintro q rfl
        conv => whnf
        repeat (refine ⟨by first | decide | omega | (simp only [List.length_append, be4_len, be2_len]; omega), ?_⟩; conv => whnf)
        refine ⟨⟨k + 1, by omega⟩, [], by dsimp only; omega, .refl _, .of_eq ?_, .refl _, OLe.refl _, trivial⟩
        dsimp only
        rw [take_flat _ _ _ hlt, hW]
        simp only [List.append_assoc]
        rfl
      have hlt : ¬ k < c.dups.length := by simpa using q1
      obtain rfl : k = c.dups.length := by omega
      rw [List.take_length]
      conv => whnf
      rw [show valB [] c = p3 c ++ c.gaps.flatMap gapB ++ c.dups.flatMap be4 from by rw [val_3 g3 ho, p3]]
      exact ⟨_, .refl _, rfl, rfl⟩
    have g3 : ¬ c.ty = 3 := by simpa using g3b
    conv => whnf
    split <;> rename_i g7b
    · have g7 : c.ty = 7 := by simpa using g7b
      conv => whnf
      refine ⟨_, four_spec _, ?_⟩
      rintro q rfl
      conv => whnf
      rw [val_7 g7 ho]
      exact ⟨_, .refl _, rfl, rfl⟩
    have g7 : ¬ c.ty = 7 := by simpa using g7b
    conv => whnf
    refine ⟨by (try dsimp only); omega, ?_⟩
    conv => whnf
    rw [val_o g0 g1 g2 g3 g7]
    exact ⟨_, .refl _, rfl, rfl⟩
  · have h1 : c.items = [] := by simpa using h1
    have h4 : Tlv.bytes c.items = cutB c.items := by rw [h1]; rfl
    have h4' := cut_len c.items
    conv => whnf
    rw [h4]
    split <;> rename_i g0b
    · have g0 : c.ty = 0 := by simpa using g0b
      conv => whnf
      repeat (first | (refine ⟨by first | decide | omega | (simp only [Int.toNat_natCast]; omega) | (simp only [List.length_append, be4_len, be2_len]; omega), ?_⟩; conv => whnf) | (refine ⟨_, four_spec _, ?_⟩; conv => whnf) | (refine ⟨_, two_spec _ (by first | assumption | exact ⟨by omega, by omega⟩), ?_⟩; conv => whnf))
      refine ⟨by kernel_rfl, ?_⟩
      conv => whnf
      rw [val_0 g0 ho]
      exact ⟨_, .refl _, rfl, rfl⟩
    have g0 : ¬ c.ty = 0 := by simpa using g0b
    conv => whnf
    split <;> rename_i g1b
    · have g1 : c.ty = 1 := by simpa using g1b
      conv => whnf
      try (rw [g1b]; conv => whnf)
      repeat (first | (refine ⟨by first | decide | omega | (simp only [Int.toNat_natCast]; omega) | (simp only [List.length_append, be4_len, be2_len]; omega), ?_⟩; conv => whnf) | (refine ⟨_, four_spec _, ?_⟩; conv => whnf) | (refine ⟨_, two_spec _ (by first | assumption | exact ⟨by omega, by omega⟩), ?_⟩; conv => whnf))
      refine ⟨by kernel_rfl, ?_⟩
      conv => whnf
      rw [val_12 (.inl g1) ho]
      exact ⟨_, .refl _, rfl, rfl⟩
    have g1 : ¬ c.ty = 1 := by simpa using g1b
    conv => whnf
    split <;> rename_i g2b
    · have g2 : c.ty = 2 := by simpa using g2b
      conv => whnf
      try (rw [g1b]; conv => whnf)
      try (rw [g2b]; conv => whnf)
      repeat (first | (refine ⟨by first | decide | omega | (simp only [Int.toNat_natCast]; omega) | (simp only [List.length_append, be4_len, be2_len]; omega), ?_⟩; conv => whnf) | (refine ⟨_, four_spec _, ?_⟩; conv => whnf) | (refine ⟨_, two_spec _ (by first | assumption | exact ⟨by omega, by omega⟩), ?_⟩; conv => whnf))
      refine ⟨by kernel_rfl, ?_⟩
      conv => whnf
      rw [val_12 (.inr g2) ho]
      exact ⟨_, .refl _, rfl, rfl⟩
    have g2 : ¬ c.ty = 2 := by simpa using g2b
    conv => whnf
    split <;> rename_i g3b
    · have g3 : c.ty = 3 := by simpa using g3b
      conv => whnf
      repeat (first | (refine ⟨by first | decide | omega | (simp only [Int.toNat_natCast]; omega) | (simp only [List.length_append, be4_len, be2_len]; omega), ?_⟩; conv => whnf) | (refine ⟨_, four_spec _, ?_⟩; conv => whnf) | (refine ⟨_, two_spec _ (by first | assumption | exact ⟨by omega, by omega⟩), ?_⟩; conv => whnf))
      refine ⟨by kernel_rfl, ?_⟩
      conv => whnf
      refine ALoop.introR tysOk followsB (fun k : {k // k ≤ c.gaps.length} => ([(1, .ptr 1 0), (5, tvs (p3 c ++ (c.gaps.take k.1).flatMap gapB)), (6, tvi k.1)], [(1, .box (cL c) none)])) (fun k => c.gaps.length - k.1) ⟨0, by omega⟩ ⟨.refl _, .of_eq (by simp [p3]), .refl _, OLe.refl _, trivial⟩ ?_
      rintro ⟨k, hk⟩
      dsimp only
      have hL : (p3 c ++ (c.gaps.take k).flatMap gapB).length = 12 + 4 * k := by
        rw [List.length_append, p3_len, gapB_len, List.length_take]
        omega
      conv => whnf
      split <;> rename_i q1
      · have hlt : k < c.gaps.length := by simpa using q1
        have hin := g1a (c.gaps.getD k default) (by rw [List.getD_eq_getElem?_getD, List.getElem?_eq_getElem hlt]; exact List.getElem_mem hlt)
        have hin1 : in16 (c.gaps.getD (Int.toNat k) default).1 := hin.1
        have hin2 : in16 (c.gaps.getD (Int.toNat k) default).2 := hin.2
        obtain ⟨W, hW⟩ : ∃ W, W = p3 c ++ (c.gaps.take k).flatMap gapB := ⟨_, rfl⟩
        rw [← hW] at hL ⊢
        conv => whnf
        repeat (first | (refine ⟨by first | decide | omega | (simp only [Int.toNat_natCast]; omega) | (simp only [List.length_append, be4_len, be2_len]; omega), ?_⟩; conv => whnf) | (refine ⟨_, four_spec _, ?_⟩; conv => whnf) | (refine ⟨_, two_spec _ (by first | assumption | exact ⟨by omega, by omega⟩), ?_⟩; conv => whnf))
        refine ⟨by kernel_rfl, ?_⟩
        conv => whnf
        refine ⟨by first | omega | (simp only [Int.toNat_natCast]; omega) | (simp; done) | (simp; omega), ?_⟩
        conv => whnf
        refine ⟨⟨k + 1, by omega⟩, [], by dsimp only; omega, .refl _, .of_eq ?_, .refl _, OLe.refl _, trivial⟩
        dsimp only
        rw [take_flat _ _ _ hlt, hW, gapB]
        simp only [List.append_assoc]
        rfl
      have hlt : ¬ k < c.gaps.length := by simpa using q1
      obtain rfl : k = c.gaps.length := by omega
      rw [List.take_length] at hL ⊢
      clear q1 hlt hk
      conv => whnf
      refine ALoop.introR tysOk followsB (fun k : {k // k ≤ c.dups.length} => ([(1, .ptr 1 0), (5, tvs (p3 c ++ c.gaps.flatMap gapB ++ (c.dups.take k.1).flatMap be4)), (7, tvi k.1)], [(1, .box (cL c) none)])) (fun k => c.dups.length - k.1) ⟨0, by omega⟩ ⟨.refl _, .of_eq (by simp), .refl _, OLe.refl _, trivial⟩ ?_
      rintro ⟨k, hk⟩
      dsimp only
      have hL2 : (p3 c ++ c.gaps.flatMap gapB ++ (c.dups.take k).flatMap be4).length = 12 + 4 * c.gaps.length + 4 * k := by
        rw [List.length_append, hL, len32, List.length_take]
        omega
      conv => whnf
      split <;> rename_i q1
      · have hlt : k < c.dups.length := by simpa using q1
        obtain ⟨W, hW⟩ : ∃ W, W = p3 c ++ c.gaps.flatMap gapB ++ (c.dups.take k).flatMap be4 := ⟨_, rfl⟩
        rw [← hW] at hL2 ⊢
        conv => whnf
        refine ⟨by first | omega | (simp only [Int.toNat_natCast]; omega) | (simp; done) | (simp; omega), ?_⟩
        conv => whnf
        refine ⟨_, four_spec (c.dups.getD (Int.toNat k) default), ?_⟩
        rintro q rfl
        conv => whnf
        repeat (refine ⟨by first | decide | omega | (simp only [List.length_append, be4_len, be2_len]; omega), ?_⟩; conv => whnf)
        refine ⟨⟨k + 1, by omega⟩, [], by dsimp only; omega, .refl _, .of_eq ?_, .refl _, OLe.refl _, trivial⟩
        dsimp only
        rw [take_flat _ _ _ hlt, hW]
        simp only [List.append_assoc]
        rfl
      have hlt : ¬ k < c.dups.length := by simpa using q1
      obtain rfl : k = c.dups.length := by omega
      rw [List.take_length]
      conv => whnf
      rw [show valB [] c = p3 c ++ c.gaps.flatMap gapB ++ c.dups.flatMap be4 from by rw [val_3 g3 ho, p3]]
      exact ⟨_, .refl _, rfl, rfl⟩
    have g3 : ¬ c.ty = 3 := by simpa using g3b
    conv => whnf
    split <;> rename_i g7b
    · have g7 : c.ty = 7 := by simpa using g7b
      conv => whnf
      refine ⟨_, four_spec _, ?_⟩
      rintro q rfl
      conv => whnf
      rw [val_7 g7 ho]
      exact ⟨_, .refl _, rfl, rfl⟩
    have g7 : ¬ c.ty = 7 := by simpa using g7b
    conv => whnf
    refine ⟨by (try dsimp only); omega, ?_⟩
    conv => whnf
    rw [val_o g0 g1 g2 g3 g7]
    exact ⟨_, .refl _, rfl, rfl⟩
theorem hd_row (c : Ch) : ∀ k, k < 2 → ([D.i .u8 (IntKind.u8.wrap c.ty)] :: [D.i .u8 (IntKind.u8.wrap c.flags)] :: replF 0 ty5.zero).getD (0 + k) [] = bytesF [u8 c.ty, u8 c.flags] k := by
  intro j hj
  rw [Nat.zero_add]
  match j, hj with
  | 0, _ => show [D.i .u8 (IntKind.u8.wrap c.ty)] = [D.i .u8 ((u8 c.ty).toNat : Nat)]; rw [u8_wrap]
  | 1, _ => show [D.i .u8 (IntKind.u8.wrap c.flags)] = [D.i .u8 ((u8 c.flags).toNat : Nat)]; rw [u8_wrap]
theorem cut_noughts (n : Nat) (h : n ≤ 3) : cutS ({ data := #[0, 0, 0] : ByteArray }.data.toList) none (some (n : Int)) = List.replicate n 0 := by
  match n, h with
  | 0, _ => rfl
  | 1, _ => rfl
  | 2, _ => rfl
  | 3, _ => rfl
theorem shaped_spec (c : Ch) (h : ChOk c) : PSpec Tryz.prog 61 [cA c] (· = tvb (goodC c)) := by
  refine PSpec.run (tysOk) followsB Tryz.func61 (by decide) rfl Tryz.ntmps61 (Nat.le_of_ble_eq_true rfl) rfl fun w0 R0 => ?_
  conv => whnf
  refine ⟨_, rbuild_spec c.items h.items, ?_⟩
  rintro q rfl
  conv => whnf
  refine ⟨_, ronly_spec c, ?_⟩
  conv => whnf
  refine ⟨_, rsame_spec c (onlyC c) h.gaps h.dups (Nat.le_trans h.items (by decide)), ?_⟩
  conv => whnf
  refine ⟨by kernel_rfl, ?_⟩
  conv => whnf
  refine ⟨_, rfits_spec c h.gaps h.gap, ?_⟩
  rintro q rfl
  conv => whnf
  by_cases g3 : c = onlyC c
  rotate_left
  · rw [decide_eq_false g3, show goodC c = false from by simp [goodC, g3]]
    conv => whnf
    exact ⟨_, .refl _, rfl, rfl⟩
  rw [decide_eq_true g3]
  cases g2 : fitsB c
  · rw [show goodC c = false from by simp [goodC, g2]]
    conv => whnf
    exact ⟨_, .refl _, rfl, rfl⟩
  rw [show goodC c = ((buildL c.items).2 == 0) from by simp [goodC, g2, ← g3]]
  conv => whnf
  exact ⟨_, .refl _, rfl, rfl⟩
theorem rbuild7_spec (c : Ch) (h : ChOk c) (hr : ChR c) : PSpec Tryz.prog 36 [cA c] (· = .tup [tvs (buildC c).1, tvi (buildC c).2]) := by
  refine PSpec.run (tysOk) followsB Tryz.func36 (by decide) rfl Tryz.ntmps36 (Nat.le_of_ble_eq_true rfl) rfl fun w0 R0 => ?_
  conv => whnf
  refine ⟨_, shaped_spec c h, ?_⟩
  rintro q rfl
  conv => whnf
  cases hg : goodC c
  · conv => whnf
    rw [show buildC c = ([], 1) from by rw [buildC, hg]; rfl]
    exact ⟨_, .refl _, rfl, rfl⟩
  obtain ⟨hb, hf, ho⟩ := good_parts hg
  have hz := good_sizes c hf ho
  obtain ⟨hb1, hb2, hb3⟩ := ok_bytes hb
  have hv := valB_len [] c hz hb2
  rw [List.length_nil] at hv
  obtain ⟨hen, hel⟩ := enc_parts c
  have hpad := padN_lt ((valB [] c).length + 4)
  conv => whnf
  refine ⟨_, rvalue_spec c h.items hb hz ho hr, ?_⟩
  rintro q rfl
  conv => whnf
  obtain ⟨w, hw⟩ : ∃ w, w = valB [] c := ⟨_, rfl⟩
  rw [← hw] at hv hen hel hpad ⊢
  refine ⟨by first | omega | (simp only [Int.toNat_natCast]; omega) | (simp; done) | (simp; omega), ?_⟩
  conv => whnf
  refine ⟨[u8 c.ty, u8 c.flags], ⟨rfl, by decide, hd_row c⟩, ?_⟩
  conv => whnf
  repeat (first | (refine ⟨by first | decide | omega | (simp only [Int.toNat_natCast]; omega) | (simp only [List.length_append, be4_len, be2_len, List.length_cons, List.length_nil]; omega), ?_⟩; conv => whnf) | (refine ⟨_, rpadN_spec (w.length + 4) (by omega), ?_⟩; conv => whnf) | (refine ⟨_, two_spec ((w.length : Int) + 4) ⟨by omega, by omega⟩, ?_⟩; conv => whnf))
  rw [cut_noughts (padN (w.length + 4)) (by omega)]
  have he : [u8 c.ty, u8 c.flags] ++ be2 (↑w.length + 4) ++ w ++ List.replicate (padN (w.length + 4)) 0 = encC c := by
    rw [hen, show ((w.length + 4 : Nat) : Int) = (w.length : Int) + 4 from by omega]
    simp [be2]
  refine ⟨by simp only [List.length_append, be2_len, List.length_cons, List.length_nil, List.length_replicate]; omega, ?_⟩
  rw [he]
  conv => whnf
  refine ⟨by kernel_rfl, ?_⟩
  conv => whnf
  split <;> rename_i h5
  · replace h5 := of_decide_eq_true h5
    conv => whnf
    rw [show buildC c = ([], 4) from by rw [buildC, if_pos hg, if_pos (by omega)]]
    exact ⟨_, .refl _, rfl, rfl⟩
  · replace h5 := of_decide_eq_false h5
    conv => whnf
    rw [show buildC c = (encC c, 0) from by rw [buildC, if_pos hg, if_neg (by omega)]]
    exact ⟨_, .refl _, rfl, rfl⟩
theorem rright_spec (c : Ch) (h : ChOk c) (hr : ChR c) : PSpec Tryz.prog 49 [cA c] (· = tvb ((buildC c).2 == 0)) := by
  refine PSpec.run (tysOk) followsB Tryz.func49 (by decide) rfl Tryz.ntmps49 (Nat.le_of_ble_eq_true rfl) rfl fun w0 R0 => ?_
  conv => whnf
  refine ⟨_, rbuild7_spec c h hr, ?_⟩
  rintro q rfl
  conv => whnf
  exact ⟨_, .refl _, rfl, rfl⟩
theorem rsize_spec (c : Ch) (h : ChOk c) (hr : ChR c) : PSpec Tryz.prog 60 [cA c] (· = tvi (buildC c).1.length) := by
  refine PSpec.run (tysOk) followsB Tryz.func60 (by decide) rfl Tryz.ntmps60 (Nat.le_of_ble_eq_true rfl) rfl fun w0 R0 => ?_
  conv => whnf
  refine ⟨_, rbuild7_spec c h hr, ?_⟩
  rintro q rfl
  conv => whnf
  exact ⟨_, .refl _, rfl, rfl⟩
end Go.Proofs.YtcdondbegnbdgaaGreatDoor
