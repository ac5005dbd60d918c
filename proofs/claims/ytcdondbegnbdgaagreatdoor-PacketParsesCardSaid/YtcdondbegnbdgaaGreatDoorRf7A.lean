/- Chapter 7, the document's answer: contracts. Printed by genRf7.py. -/
import Derived.Test.YtcdondbegnbdgaaGreatDoorRf6
namespace Go.Proofs.YtcdondbegnbdgaaGreatDoor
open Go Go.RowKit Towline Towline.Tlv Towline.Chunk
set_option linter.unusedVariables false
set_option linter.unusedSimpArgs false
set_option maxRecDepth 20000
set_option maxHeartbeats 1000000
theorem two_row (n : Int) (h : in16 n) : ∀ j, j < 2 → ([D.i .u8 (IntKind.u8.wrap (IntKind.i64.wrap (n.tdiv 256)))] :: [D.i .u8 (IntKind.u8.wrap n)] :: replF 0 ty5.zero).getD (0 + j) [] = bytesF (be2 n) j := by
  intro j hj
  have e1 : IntKind.i64.wrap (n.tdiv 256) = n.fdiv 256 := by
    rw [Int.tdiv_eq_ediv_of_nonneg h.1, Int.fdiv_eq_ediv_of_nonneg _ (by decide), IntWalk.i64_in _ (by omega)]
  rw [e1, Nat.zero_add]
  match j, hj with
  | 0, _ => show [D.i .u8 (IntKind.u8.wrap (n.fdiv 256))] = [D.i .u8 ((u8 (n.fdiv 256)).toNat : Nat)]; rw [u8_wrap]
  | 1, _ => show [D.i .u8 (IntKind.u8.wrap n)] = [D.i .u8 ((u8 n).toNat : Nat)]; rw [u8_wrap]
theorem four_row (n : Int) : ∀ j, j < 4 → ([D.i .u8 (IntKind.u8.wrap (shrOp .u32 n 24))] :: [D.i .u8 (IntKind.u8.wrap (shrOp .u32 n 16))] :: [D.i .u8 (IntKind.u8.wrap (shrOp .u32 n 8))] :: [D.i .u8 (IntKind.u8.wrap n)] :: replF 0 ty5.zero).getD (0 + j) [] = bytesF (be4 n) j := by
  intro j hj
  rw [Nat.zero_add]
  match j, hj with
  | 0, _ => show [D.i .u8 (IntKind.u8.wrap (n.fdiv 16777216))] = [D.i .u8 ((u8 (n.fdiv 16777216)).toNat : Nat)]; rw [u8_wrap]
  | 1, _ => show [D.i .u8 (IntKind.u8.wrap (n.fdiv 65536))] = [D.i .u8 ((u8 (n.fdiv 65536)).toNat : Nat)]; rw [u8_wrap]
  | 2, _ => show [D.i .u8 (IntKind.u8.wrap (n.fdiv 256))] = [D.i .u8 ((u8 (n.fdiv 256)).toNat : Nat)]; rw [u8_wrap]
  | 3, _ => show [D.i .u8 (IntKind.u8.wrap n)] = [D.i .u8 ((u8 n).toNat : Nat)]; rw [u8_wrap]
theorem two_spec (n : Int) (h : in16 n) : PSpec Tryz.prog 63 [tvi n] (· = tvs (be2 n)) := by
  refine PSpec.run (tysOk) followsB Tryz.func63 (by decide) rfl Tryz.ntmps63 (Nat.le_of_ble_eq_true rfl) rfl fun w0 R0 => ?_
  conv => whnf
  repeat (refine ⟨by first | decide | omega, ?_⟩; conv => whnf)
  refine ⟨be2 n, ⟨rfl, by decide, two_row n h⟩, ?_⟩
  conv => whnf
  exact ⟨_, .refl _, rfl, rfl⟩
theorem four_spec (n : Int) : PSpec Tryz.prog 95 [cv32 n] (· = tvs (be4 n)) := by
  refine PSpec.run (tysOk) followsB Tryz.func95 (by decide) rfl Tryz.ntmps95 (Nat.le_of_ble_eq_true rfl) rfl fun w0 R0 => ?_
  conv => whnf
  repeat (refine ⟨by first | decide | omega, ?_⟩; conv => whnf)
  refine ⟨be4 n, ⟨rfl, by decide, four_row n⟩, ?_⟩
  conv => whnf
  exact ⟨_, .refl _, rfl, rfl⟩
theorem ronly_spec (c : Ch) : PSpec Tryz.prog 93 [cA c] (· = cA (onlyC c)) := by
  refine PSpec.run (tysOk) followsB Tryz.func93 (by decide) rfl Tryz.ntmps93 (Nat.le_of_ble_eq_true rfl) rfl fun w0 R0 => ?_
  conv => whnf
  split <;> rename_i g0b
  · have g0 : c.ty = 0 := by simpa using g0b
    conv => whnf

    try (refine ⟨by kernel_rfl, ?_⟩; conv => whnf)
    refine ⟨cA (onlyC c), ?_, rfl, rfl⟩
    rw [only_0 g0]
    exact .agg ⟨by first | exact .refl _ | exact .of_eq (by rw [g0]) | exact .nil, by first | exact .refl _ | exact .nil, by first | exact .refl _ | exact .nil, by first | exact .refl _ | exact .nil, by first | exact .refl _ | exact .nil, by first | exact .refl _ | exact .nil, by first | exact .refl _ | exact .nil, by first | exact .refl _ | exact .nil, by first | exact .refl _ | exact .nil, by first | exact .refl _ | exact .nil, by first | exact .refl _ | exact .nil, by first | exact .refl _ | exact .nil, by first | exact .refl _ | exact .nil, by first | exact .refl _ | exact .nil, trivial⟩
  have g0 : ¬ c.ty = 0 := by simpa using g0b
  conv => whnf
  split <;> rename_i g1b
  · have g1 : c.ty = 1 := by simpa using g1b
    conv => whnf
    try (rw [g1b]; conv => whnf)
    try (refine ⟨by kernel_rfl, ?_⟩; conv => whnf)
    try (rw [g1b]; conv => whnf)
    refine ⟨cA (onlyC c), ?_, rfl, rfl⟩
    rw [only_1 g1]
    exact .agg ⟨by first | exact .refl _ | exact .of_eq (by rw [g1]) | exact .nil, by first | exact .refl _ | exact .nil, by first | exact .refl _ | exact .nil, by first | exact .refl _ | exact .nil, by first | exact .refl _ | exact .nil, by first | exact .refl _ | exact .nil, by first | exact .refl _ | exact .nil, by first | exact .refl _ | exact .nil, by first | exact .refl _ | exact .nil, by first | exact .refl _ | exact .nil, by first | exact .refl _ | exact .nil, by first | exact .refl _ | exact .nil, by first | exact .refl _ | exact .nil, by first | exact .refl _ | exact .nil, trivial⟩
  have g1 : ¬ c.ty = 1 := by simpa using g1b
  conv => whnf
  split <;> rename_i g2b
  · have g2 : c.ty = 2 := by simpa using g2b
    conv => whnf
    try (rw [g1b]; conv => whnf)
    try (rw [g2b]; conv => whnf)
    try (refine ⟨by kernel_rfl, ?_⟩; conv => whnf)
    try (rw [g1b]; conv => whnf)
    try (rw [g2b]; conv => whnf)
    refine ⟨cA (onlyC c), ?_, rfl, rfl⟩
    rw [only_2 g2]
    exact .agg ⟨by first | exact .refl _ | exact .of_eq (by rw [g2]) | exact .nil, by first | exact .refl _ | exact .nil, by first | exact .refl _ | exact .nil, by first | exact .refl _ | exact .nil, by first | exact .refl _ | exact .nil, by first | exact .refl _ | exact .nil, by first | exact .refl _ | exact .nil, by first | exact .refl _ | exact .nil, by first | exact .refl _ | exact .nil, by first | exact .refl _ | exact .nil, by first | exact .refl _ | exact .nil, by first | exact .refl _ | exact .nil, by first | exact .refl _ | exact .nil, by first | exact .refl _ | exact .nil, trivial⟩
  have g2 : ¬ c.ty = 2 := by simpa using g2b
  conv => whnf
  split <;> rename_i g3b
  · have g3 : c.ty = 3 := by simpa using g3b
    conv => whnf

    try (refine ⟨by kernel_rfl, ?_⟩; conv => whnf)
    refine ⟨cA (onlyC c), ?_, rfl, rfl⟩
    rw [only_3 g3]
    exact .agg ⟨by first | exact .refl _ | exact .of_eq (by rw [g3]) | exact .nil, by first | exact .refl _ | exact .nil, by first | exact .refl _ | exact .nil, by first | exact .refl _ | exact .nil, by first | exact .refl _ | exact .nil, by first | exact .refl _ | exact .nil, by first | exact .refl _ | exact .nil, by first | exact .refl _ | exact .nil, by first | exact .refl _ | exact .nil, by first | exact .refl _ | exact .nil, by first | exact .refl _ | exact .nil, by first | exact .refl _ | exact .nil, by first | exact .refl _ | exact .nil, by first | exact .refl _ | exact .nil, trivial⟩
  have g3 : ¬ c.ty = 3 := by simpa using g3b
  conv => whnf
  split <;> rename_i g4b
  · have g4 : c.ty = 4 := by simpa using g4b
    conv => whnf
    try (rw [g4b]; conv => whnf)
    try (refine ⟨by kernel_rfl, ?_⟩; conv => whnf)
    try (rw [g4b]; conv => whnf)
    refine ⟨cA (onlyC c), ?_, rfl, rfl⟩
    rw [only_4 g4]
    exact .agg ⟨by first | exact .refl _ | exact .of_eq (by rw [g4]) | exact .nil, by first | exact .refl _ | exact .nil, by first | exact .refl _ | exact .nil, by first | exact .refl _ | exact .nil, by first | exact .refl _ | exact .nil, by first | exact .refl _ | exact .nil, by first | exact .refl _ | exact .nil, by first | exact .refl _ | exact .nil, by first | exact .refl _ | exact .nil, by first | exact .refl _ | exact .nil, by first | exact .refl _ | exact .nil, by first | exact .refl _ | exact .nil, by first | exact .refl _ | exact .nil, by first | exact .refl _ | exact .nil, trivial⟩
  have g4 : ¬ c.ty = 4 := by simpa using g4b
  conv => whnf
  split <;> rename_i g5b
  · have g5 : c.ty = 5 := by simpa using g5b
    conv => whnf
    try (rw [g4b]; conv => whnf)
    try (rw [g5b]; conv => whnf)
    try (refine ⟨by kernel_rfl, ?_⟩; conv => whnf)
    try (rw [g4b]; conv => whnf)
    try (rw [g5b]; conv => whnf)
    refine ⟨cA (onlyC c), ?_, rfl, rfl⟩
    rw [only_5 g5]
    exact .agg ⟨by first | exact .refl _ | exact .of_eq (by rw [g5]) | exact .nil, by first | exact .refl _ | exact .nil, by first | exact .refl _ | exact .nil, by first | exact .refl _ | exact .nil, by first | exact .refl _ | exact .nil, by first | exact .refl _ | exact .nil, by first | exact .refl _ | exact .nil, by first | exact .refl _ | exact .nil, by first | exact .refl _ | exact .nil, by first | exact .refl _ | exact .nil, by first | exact .refl _ | exact .nil, by first | exact .refl _ | exact .nil, by first | exact .refl _ | exact .nil, by first | exact .refl _ | exact .nil, trivial⟩
  have g5 : ¬ c.ty = 5 := by simpa using g5b
  conv => whnf
  split <;> rename_i g9b
  · have g9 : c.ty = 9 := by simpa using g9b
    conv => whnf
    try (rw [g4b]; conv => whnf)
    try (rw [g5b]; conv => whnf)
    try (rw [g9b]; conv => whnf)
    try (refine ⟨by kernel_rfl, ?_⟩; conv => whnf)
    try (rw [g4b]; conv => whnf)
    try (rw [g5b]; conv => whnf)
    try (rw [g9b]; conv => whnf)
    refine ⟨cA (onlyC c), ?_, rfl, rfl⟩
    rw [only_9 g9]
    exact .agg ⟨by first | exact .refl _ | exact .of_eq (by rw [g9]) | exact .nil, by first | exact .refl _ | exact .nil, by first | exact .refl _ | exact .nil, by first | exact .refl _ | exact .nil, by first | exact .refl _ | exact .nil, by first | exact .refl _ | exact .nil, by first | exact .refl _ | exact .nil, by first | exact .refl _ | exact .nil, by first | exact .refl _ | exact .nil, by first | exact .refl _ | exact .nil, by first | exact .refl _ | exact .nil, by first | exact .refl _ | exact .nil, by first | exact .refl _ | exact .nil, by first | exact .refl _ | exact .nil, trivial⟩
  have g9 : ¬ c.ty = 9 := by simpa using g9b
  conv => whnf
  split <;> rename_i g6b
  · have g6 : c.ty = 6 := by simpa using g6b
    conv => whnf

    try (refine ⟨by kernel_rfl, ?_⟩; conv => whnf)
    refine ⟨cA (onlyC c), ?_, rfl, rfl⟩
    rw [only_6 g6]
    exact .agg ⟨by first | exact .refl _ | exact .of_eq (by rw [g6]) | exact .nil, by first | exact .refl _ | exact .nil, by first | exact .refl _ | exact .nil, by first | exact .refl _ | exact .nil, by first | exact .refl _ | exact .nil, by first | exact .refl _ | exact .nil, by first | exact .refl _ | exact .nil, by first | exact .refl _ | exact .nil, by first | exact .refl _ | exact .nil, by first | exact .refl _ | exact .nil, by first | exact .refl _ | exact .nil, by first | exact .refl _ | exact .nil, by first | exact .refl _ | exact .nil, by first | exact .refl _ | exact .nil, trivial⟩
  have g6 : ¬ c.ty = 6 := by simpa using g6b
  conv => whnf
  split <;> rename_i g7b
  · have g7 : c.ty = 7 := by simpa using g7b
    conv => whnf

    try (refine ⟨by kernel_rfl, ?_⟩; conv => whnf)
    refine ⟨cA (onlyC c), ?_, rfl, rfl⟩
    rw [only_7 g7]
    exact .agg ⟨by first | exact .refl _ | exact .of_eq (by rw [g7]) | exact .nil, by first | exact .refl _ | exact .nil, by first | exact .refl _ | exact .nil, by first | exact .refl _ | exact .nil, by first | exact .refl _ | exact .nil, by first | exact .refl _ | exact .nil, by first | exact .refl _ | exact .nil, by first | exact .refl _ | exact .nil, by first | exact .refl _ | exact .nil, by first | exact .refl _ | exact .nil, by first | exact .refl _ | exact .nil, by first | exact .refl _ | exact .nil, by first | exact .refl _ | exact .nil, by first | exact .refl _ | exact .nil, trivial⟩
  have g7 : ¬ c.ty = 7 := by simpa using g7b
  conv => whnf
  split <;> rename_i g8b
  · have g8 : c.ty = 8 := by simpa using g8b
    conv => whnf
    try (rw [g8b]; conv => whnf)
    try (refine ⟨by kernel_rfl, ?_⟩; conv => whnf)
    try (rw [g8b]; conv => whnf)
    refine ⟨cA (onlyC c), ?_, rfl, rfl⟩
    rw [only_8 g8]
    exact .agg ⟨by first | exact .refl _ | exact .of_eq (by rw [g8]) | exact .nil, by first | exact .refl _ | exact .nil, by first | exact .refl _ | exact .nil, by first | exact .refl _ | exact .nil, by first | exact .refl _ | exact .nil, by first | exact .refl _ | exact .nil, by first | exact .refl _ | exact .nil, by first | exact .refl _ | exact .nil, by first | exact .refl _ | exact .nil, by first | exact .refl _ | exact .nil, by first | exact .refl _ | exact .nil, by first | exact .refl _ | exact .nil, by first | exact .refl _ | exact .nil, by first | exact .refl _ | exact .nil, trivial⟩
  have g8 : ¬ c.ty = 8 := by simpa using g8b
  conv => whnf
  split <;> rename_i g11b
  · have g11 : c.ty = 11 := by simpa using g11b
    conv => whnf
    try (rw [g8b]; conv => whnf)
    try (rw [g11b]; conv => whnf)
    try (refine ⟨by kernel_rfl, ?_⟩; conv => whnf)
    try (rw [g8b]; conv => whnf)
    try (rw [g11b]; conv => whnf)
    refine ⟨cA (onlyC c), ?_, rfl, rfl⟩
    rw [only_11 g11]
    exact .agg ⟨by first | exact .refl _ | exact .of_eq (by rw [g11]) | exact .nil, by first | exact .refl _ | exact .nil, by first | exact .refl _ | exact .nil, by first | exact .refl _ | exact .nil, by first | exact .refl _ | exact .nil, by first | exact .refl _ | exact .nil, by first | exact .refl _ | exact .nil, by first | exact .refl _ | exact .nil, by first | exact .refl _ | exact .nil, by first | exact .refl _ | exact .nil, by first | exact .refl _ | exact .nil, by first | exact .refl _ | exact .nil, by first | exact .refl _ | exact .nil, by first | exact .refl _ | exact .nil, trivial⟩
  have g11 : ¬ c.ty = 11 := by simpa using g11b
  conv => whnf
  split <;> rename_i g10b
  · have g10 : c.ty = 10 := by simpa using g10b
    conv => whnf

    try (refine ⟨by kernel_rfl, ?_⟩; conv => whnf)
    refine ⟨cA (onlyC c), ?_, rfl, rfl⟩
    rw [only_10 g10]
    exact .agg ⟨by first | exact .refl _ | exact .of_eq (by rw [g10]) | exact .nil, by first | exact .refl _ | exact .nil, by first | exact .refl _ | exact .nil, by first | exact .refl _ | exact .nil, by first | exact .refl _ | exact .nil, by first | exact .refl _ | exact .nil, by first | exact .refl _ | exact .nil, by first | exact .refl _ | exact .nil, by first | exact .refl _ | exact .nil, by first | exact .refl _ | exact .nil, by first | exact .refl _ | exact .nil, by first | exact .refl _ | exact .nil, by first | exact .refl _ | exact .nil, by first | exact .refl _ | exact .nil, trivial⟩
  have g10 : ¬ c.ty = 10 := by simpa using g10b
  conv => whnf
  split <;> rename_i g14b
  · have g14 : c.ty = 14 := by simpa using g14b
    conv => whnf

    try (refine ⟨by kernel_rfl, ?_⟩; conv => whnf)
    refine ⟨cA (onlyC c), ?_, rfl, rfl⟩
    rw [only_14 g14]
    exact .agg ⟨by first | exact .refl _ | exact .of_eq (by rw [g14]) | exact .nil, by first | exact .refl _ | exact .nil, by first | exact .refl _ | exact .nil, by first | exact .refl _ | exact .nil, by first | exact .refl _ | exact .nil, by first | exact .refl _ | exact .nil, by first | exact .refl _ | exact .nil, by first | exact .refl _ | exact .nil, by first | exact .refl _ | exact .nil, by first | exact .refl _ | exact .nil, by first | exact .refl _ | exact .nil, by first | exact .refl _ | exact .nil, by first | exact .refl _ | exact .nil, by first | exact .refl _ | exact .nil, trivial⟩
  have g14 : ¬ c.ty = 14 := by simpa using g14b
  conv => whnf
  try (refine ⟨by kernel_rfl, ?_⟩; conv => whnf)
  refine ⟨cA (onlyC c), ?_, rfl, rfl⟩
  rw [only_other g0 g1 g2 g3 g4 g5 g9 g6 g7 g8 g11 g10 g14]
  exact .agg ⟨by first | exact .refl _ | exact .nil, by first | exact .refl _ | exact .nil, by first | exact .refl _ | exact .nil, by first | exact .refl _ | exact .nil, by first | exact .refl _ | exact .nil, by first | exact .refl _ | exact .nil, by first | exact .refl _ | exact .nil, by first | exact .refl _ | exact .nil, by first | exact .refl _ | exact .nil, by first | exact .refl _ | exact .nil, by first | exact .refl _ | exact .nil, by first | exact .refl _ | exact .nil, by first | exact .refl _ | exact .nil, by first | exact .refl _ | exact .nil, trivial⟩
-- (behind only)
end Go.Proofs.YtcdondbegnbdgaaGreatDoor
