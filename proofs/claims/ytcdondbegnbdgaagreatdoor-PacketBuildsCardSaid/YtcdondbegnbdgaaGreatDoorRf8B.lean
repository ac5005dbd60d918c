/- Chapter 7, the document's answer: contracts. Printed by genRf8.py. -/
import Derived.Test.YtcdondbegnbdgaaGreatDoorRf7A
import Derived.Test.YtcdondbegnbdgaaGreatDoorPkK
namespace Go.Proofs.YtcdondbegnbdgaaGreatDoor
open Go Go.RowKit Towline Towline.Tlv Towline.Chunk
set_option linter.unusedVariables false
set_option linter.unusedSimpArgs false
set_option maxRecDepth 20000
set_option maxHeartbeats 1000000
theorem rgaps_spec (l : List (Int × Int)) (ha : l.length ≤ 2 ^ 40) (hG : GapsOk l) : PSpec Tryz.prog 110 [.d (slT 2 encG l)] (· = tvb (risesB l)) := by
  refine PSpec.run (tysOk) followsB Tryz.func110 (by decide) rfl Tryz.ntmps110 (Nat.le_of_ble_eq_true rfl) rfl fun w0 R0 => ?_
  conv => whnf
  refine ALoop.introR tysOk followsB (fun k : {k // k ≤ l.length ∧ risingG (-1) l = risingG (if k = 0 then -1 else (l.getD (k - 1) default).2) (l.drop k)} => ([(0, .d (slT 2 encG l)), (3, tvi k.1)], [])) (fun k => l.length - k.1) ⟨0, by omega, rfl⟩ ⟨.refl _, .refl _, trivial⟩ ?_
  rintro ⟨k, hk, hj⟩
  dsimp only
  conv => whnf
  split <;> rename_i h2
  · have h2 : k < l.length := Int.ofNat_lt.1 (of_decide_eq_true h2)
    have hg := hG k
    rw [drop_getD l k h2, risingG] at hj
    conv => whnf
    refine ⟨by first | omega | (simp only [Int.toNat_natCast]; omega) | (simp; done) | (simp; omega), ?_⟩
    conv => whnf
    refine ⟨by first | omega | (simp only [Int.toNat_natCast]; omega) | (simp; done) | (simp; omega), ?_⟩
    conv => whnf
    split <;> rename_i h3
    · replace h3 := of_decide_eq_true h3
      conv => whnf
      refine ⟨by kernel_rfl, ?_⟩
      conv => whnf
      have e3 : (l.getD k default).1 = 0 := by
        have h3' : (l.getD k default).1 < 1 := h3
        omega
      rw [show risesB l = false from by rw [risesB, hj, e3]; simp]
      exact ⟨_, .refl _, rfl, rfl⟩
    · replace h3 := of_decide_eq_false h3
      have h3' : ¬ (l.getD k default).1 < 1 := h3
      have e3 : ((l.getD k default).1 == 0) = false := beq_eq_false_iff_ne.2 (by omega)
      conv => whnf
      refine ⟨by first | omega | (simp only [Int.toNat_natCast]; omega) | (simp; done) | (simp; omega), ?_⟩
      conv => whnf
      refine ⟨by first | omega | (simp only [Int.toNat_natCast]; omega) | (simp; done) | (simp; omega), ?_⟩
      conv => whnf
      refine ⟨by first | omega | (simp only [Int.toNat_natCast]; omega) | (simp; done) | (simp; omega), ?_⟩
      conv => whnf
      refine ⟨by first | omega | (simp only [Int.toNat_natCast]; omega) | (simp; done) | (simp; omega), ?_⟩
      conv => whnf
      split <;> rename_i h4
      · replace h4 := of_decide_eq_true h4
        have e4 : decide ((l.getD k default).2 < (l.getD k default).1) = true := decide_eq_true h4
        conv => whnf
        refine ⟨by kernel_rfl, ?_⟩
        conv => whnf
        rw [show risesB l = false from by rw [risesB, hj, e4]; simp]
        exact ⟨_, .refl _, rfl, rfl⟩
      · replace h4 := of_decide_eq_false h4
        have e4 : decide ((l.getD k default).2 < (l.getD k default).1) = false := decide_eq_false h4
        conv => whnf
        split <;> rename_i h5
        · replace h5 := of_decide_eq_true h5
          rw [if_neg (by omega)] at hj
          have hg2 := hG (k - 1)
          have ek : Int.toNat ((k : Int) - 1) = k - 1 := by omega
          conv => whnf
          have hg3 := hg2
          rw [← ek] at hg3
          repeat (refine ⟨by first | decide | omega | (simp only [Int.toNat_natCast]; omega), ?_⟩; conv => whnf)
          refine ⟨by kernel_rfl, ?_⟩
          conv => whnf
          split <;> rename_i h6
          · have h6 : (l.getD k default).1 < (l.getD (Int.toNat ((k : Int) - 1)) default).2 + 2 := of_decide_eq_true h6
            rw [ek] at h6
            conv => whnf
            rw [show risesB l = false from by rw [risesB, hj, show decide ((l.getD k default).1 < (l.getD (k - 1) default).2 + 2) = true from decide_eq_true h6]; simp]
            exact ⟨_, .refl _, rfl, rfl⟩
          · have h6 : ¬ (l.getD k default).1 < (l.getD (Int.toNat ((k : Int) - 1)) default).2 + 2 := of_decide_eq_false h6
            rw [ek] at h6
            conv => whnf
            refine ⟨by first | omega | (simp only [Int.toNat_natCast]; omega) | (simp; done) | (simp; omega), ?_⟩
            conv => whnf
            refine ⟨⟨k + 1, by omega, ?_⟩, [], by dsimp only; omega, .refl _, .refl _, trivial⟩
            rw [hj, e3, e4, show decide ((l.getD k default).1 < (l.getD (k - 1) default).2 + 2) = false from decide_eq_false h6]
            rfl
        · replace h5 := of_decide_eq_false h5
          obtain rfl : k = 0 := by omega
          conv => whnf
          refine ⟨by kernel_rfl, ?_⟩
          conv => whnf
          refine ⟨by first | omega | (simp only [Int.toNat_natCast]; omega) | (simp; done) | (simp; omega), ?_⟩
          conv => whnf
          refine ⟨⟨0 + 1, by omega, ?_⟩, [], by dsimp only; omega, .refl _, .refl _, trivial⟩
          rw [hj, e3, e4, if_pos rfl, show decide ((l.getD 0 default).1 < -1 + 2) = false from decide_eq_false (by omega)]
          rfl
  · have h2 : ¬ k < l.length := fun h => of_decide_eq_false h2 (Int.ofNat_lt.2 h)
    conv => whnf
    rw [List.drop_of_length_le (by omega)] at hj
    have e : risesB l = decide ((l.length : Int) ≤ 100) := by
      rw [risesB, hj, show ∀ x, risingG x [] = true from fun _ => rfl, Bool.true_and]
      exact decide_eq_decide.2 ⟨fun h => by omega, fun h => by omega⟩
    rw [e]
    exact ⟨_, .refl _, rfl, rfl⟩
theorem rfits_spec (c : Ch) (hg : c.gaps.length ≤ 2 ^ 40) (hG : GapsOk c.gaps) : PSpec Tryz.prog 94 [cA c] (· = tvb (fitsB c)) := by
  refine PSpec.run (tysOk) followsB Tryz.func94 (by decide) rfl Tryz.ntmps94 (Nat.le_of_ble_eq_true rfl) rfl fun w0 R0 => ?_
  conv => whnf
  split <;> rename_i g0b
  · have g0 : c.ty = 0 := by simpa using g0b
    conv => whnf
    repeat' (split <;> (conv => whnf))
    all_goals exact ⟨_, .refl _, by first | (simp [fitsB, textB, *]; done) | (simp [fitsB, textB, *]; omega), rfl⟩
  have g0 : ¬ c.ty = 0 := by simpa using g0b
  conv => whnf
  split <;> rename_i g1b
  · have g1 : c.ty = 1 := by simpa using g1b
    conv => whnf
    try (rw [g1b]; conv => whnf)
    repeat' (split <;> (conv => whnf))
    all_goals exact ⟨_, .refl _, by first | (simp [fitsB, textB, *]; done) | (simp [fitsB, textB, *]; omega), rfl⟩
  have g1 : ¬ c.ty = 1 := by simpa using g1b
  conv => whnf
  split <;> rename_i g2b
  · have g2 : c.ty = 2 := by simpa using g2b
    conv => whnf
    try (rw [g1b]; conv => whnf)
    try (rw [g2b]; conv => whnf)
    repeat' (split <;> (conv => whnf))
    all_goals exact ⟨_, .refl _, by first | (simp [fitsB, textB, *]; done) | (simp [fitsB, textB, *]; omega), rfl⟩
  have g2 : ¬ c.ty = 2 := by simpa using g2b
  conv => whnf
  split <;> rename_i g3b
  · have g3 : c.ty = 3 := by simpa using g3b
    conv => whnf
    refine ⟨_, rgaps_spec c.gaps hg hG, ?_⟩
    rintro q rfl
    conv => whnf
    repeat' (split <;> (conv => whnf))
    all_goals exact ⟨_, .refl _, by first | (simp [fitsB, textB, *]; done) | (simp [fitsB, textB, *]; omega), rfl⟩
  have g3 : ¬ c.ty = 3 := by simpa using g3b
  conv => whnf
  split <;> rename_i g4b
  · have g4 : c.ty = 4 := by simpa using g4b
    conv => whnf
    try (rw [g4b]; conv => whnf)
    split <;> rename_i h6
    · have h6' : c.items.length = 1 := by
        simp at h6
        omega
      conv => whnf
      refine ⟨by first | omega | (simp only [Int.toNat_natCast]; omega) | (simp; done) | (simp; omega), ?_⟩
      conv => whnf
      exact ⟨_, .refl _, by first | (simp [fitsB, textB, *]; done) | (simp [fitsB, textB, *]; omega), rfl⟩
    · have h6' : ¬ c.items.length = 1 := by
        simp at h6
        omega
      conv => whnf
      exact ⟨_, .refl _, by first | (simp [fitsB, textB, *]; done) | (simp [fitsB, textB, *]; omega), rfl⟩
  have g4 : ¬ c.ty = 4 := by simpa using g4b
  conv => whnf
  split <;> rename_i g5b
  · have g5 : c.ty = 5 := by simpa using g5b
    conv => whnf
    try (rw [g4b]; conv => whnf)
    try (rw [g5b]; conv => whnf)
    split <;> rename_i h6
    · have h6' : c.items.length = 1 := by
        simp at h6
        omega
      conv => whnf
      refine ⟨by first | omega | (simp only [Int.toNat_natCast]; omega) | (simp; done) | (simp; omega), ?_⟩
      conv => whnf
      exact ⟨_, .refl _, by first | (simp [fitsB, textB, *]; done) | (simp [fitsB, textB, *]; omega), rfl⟩
    · have h6' : ¬ c.items.length = 1 := by
        simp at h6
        omega
      conv => whnf
      exact ⟨_, .refl _, by first | (simp [fitsB, textB, *]; done) | (simp [fitsB, textB, *]; omega), rfl⟩
  have g5 : ¬ c.ty = 5 := by simpa using g5b
  conv => whnf
  split <;> rename_i g9b
  · have g9 : c.ty = 9 := by simpa using g9b
    conv => whnf
    repeat' (split <;> (conv => whnf))
    all_goals exact ⟨_, .refl _, by first | (simp [fitsB, textB, *]; done) | (simp [fitsB, textB, *]; omega), rfl⟩
  have g9 : ¬ c.ty = 9 := by simpa using g9b
  conv => whnf
  split <;> rename_i g10b
  · have g10 : c.ty = 10 := by simpa using g10b
    conv => whnf
    repeat' (split <;> (conv => whnf))
    all_goals exact ⟨_, .refl _, by first | (simp [fitsB, textB, *]; done) | (simp [fitsB, textB, *]; omega), rfl⟩
  have g10 : ¬ c.ty = 10 := by simpa using g10b
  conv => whnf
  split <;> rename_i g6b
  · have g6 : c.ty = 6 := by simpa using g6b
    conv => whnf
    try (rw [g6b]; conv => whnf)
    repeat' (split <;> (conv => whnf))
    all_goals exact ⟨_, .refl _, by first | (simp [fitsB, textB, *]; done) | (simp [fitsB, textB, *]; omega), rfl⟩
  have g6 : ¬ c.ty = 6 := by simpa using g6b
  conv => whnf
  split <;> rename_i g14b
  · have g14 : c.ty = 14 := by simpa using g14b
    conv => whnf
    try (rw [g6b]; conv => whnf)
    try (rw [g14b]; conv => whnf)
    repeat' (split <;> (conv => whnf))
    all_goals exact ⟨_, .refl _, by first | (simp [fitsB, textB, *]; done) | (simp [fitsB, textB, *]; omega), rfl⟩
  have g14 : ¬ c.ty = 14 := by simpa using g14b
  conv => whnf
  split <;> rename_i g7b
  · have g7 : c.ty = 7 := by simpa using g7b
    conv => whnf
    try (rw [g7b]; conv => whnf)
    repeat' (split <;> (conv => whnf))
    all_goals exact ⟨_, .refl _, by first | (simp [fitsB, textB, *]; done) | (simp [fitsB, textB, *]; omega), rfl⟩
  have g7 : ¬ c.ty = 7 := by simpa using g7b
  conv => whnf
  split <;> rename_i g8b
  · have g8 : c.ty = 8 := by simpa using g8b
    conv => whnf
    try (rw [g7b]; conv => whnf)
    try (rw [g8b]; conv => whnf)
    repeat' (split <;> (conv => whnf))
    all_goals exact ⟨_, .refl _, by first | (simp [fitsB, textB, *]; done) | (simp [fitsB, textB, *]; omega), rfl⟩
  have g8 : ¬ c.ty = 8 := by simpa using g8b
  conv => whnf
  split <;> rename_i g11b
  · have g11 : c.ty = 11 := by simpa using g11b
    conv => whnf
    try (rw [g7b]; conv => whnf)
    try (rw [g8b]; conv => whnf)
    try (rw [g11b]; conv => whnf)
    repeat' (split <;> (conv => whnf))
    all_goals exact ⟨_, .refl _, by first | (simp [fitsB, textB, *]; done) | (simp [fitsB, textB, *]; omega), rfl⟩
  have g11 : ¬ c.ty = 11 := by simpa using g11b
  conv => whnf
  have e : fitsB c = (decide (0 ≤ c.ty) && decide (c.ty ≤ 255) && decide (0 ≤ c.flags) && decide (c.flags ≤ 255) && decide ((c.text.length : Int) ≤ 1000)) := by
    rw [show decide (c.ty ≤ 255) = decide (c.ty < 256) from decide_eq_decide.2 (by omega), show decide (c.flags ≤ 255) = decide (c.flags < 256) from decide_eq_decide.2 (by omega)]
    simp only [fitsB]
    rw [if_neg g0, if_neg (by omega), if_neg g3, if_neg (by omega), if_neg g9, if_neg g10, if_neg (by omega), if_neg (by omega)]
  repeat' (split <;> (conv => whnf))
  all_goals exact ⟨_, .refl _, by rw [e]; simp [*], rfl⟩
end Go.Proofs.YtcdondbegnbdgaaGreatDoor
