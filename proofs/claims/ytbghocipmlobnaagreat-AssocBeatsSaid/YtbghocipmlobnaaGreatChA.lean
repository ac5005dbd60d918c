/- Chapter 7: chunks as plain data; the small functions. -/
import Derived.Test.YtbghocipmlobnaaGreatChP
namespace Towline.Chunk
open Towline.Tlv
structure Ch where
  ty : Int
  flags : Int
  tsn : Int
  tag : Int
  window : Int
  ppid : Int
  stream : Int
  ssn : Int
  outs : Int
  ins : Int
  gaps : List (Int × Int)
  dups : List Int
  items : List Tlv.It
  text : List UInt8
  deriving DecidableEq, Inhabited
/-- Gaps rise. -/
def risingG : Int → List (Int × Int) → Bool
  | _, [] => true
  | last, g :: r => !(decide (g.1 < last + 2) || (g.1 == 0 || decide (g.2 < g.1))) && risingG g.2 r
def risesB (l : List (Int × Int)) : Bool := risingG (-1) l && decide (l.length ≤ 100)
def onlyC (c : Ch) : Ch :=
  if c.ty = 0 then ⟨c.ty, c.flags, c.tsn, 0, 0, c.ppid, c.stream, c.ssn, 0, 0, [], [], [], c.text⟩
  else if c.ty = 1 ∨ c.ty = 2 then ⟨c.ty, 0, c.tsn, c.tag, c.window, 0, 0, 0, c.outs, c.ins, [], [], c.items, []⟩
  else if c.ty = 3 then ⟨c.ty, 0, c.tsn, 0, c.window, 0, 0, 0, 0, 0, c.gaps, c.dups, [], []⟩
  else if c.ty = 4 ∨ c.ty = 5 ∨ c.ty = 9 then ⟨c.ty, 0, 0, 0, 0, 0, 0, 0, 0, 0, [], [], c.items, []⟩
  else if c.ty = 6 then ⟨c.ty, c.flags, 0, 0, 0, 0, 0, 0, 0, 0, [], [], c.items, []⟩
  else if c.ty = 7 then ⟨c.ty, 0, c.tsn, 0, 0, 0, 0, 0, 0, 0, [], [], [], []⟩
  else if c.ty = 8 ∨ c.ty = 11 then ⟨c.ty, 0, 0, 0, 0, 0, 0, 0, 0, 0, [], [], [], []⟩
  else if c.ty = 10 then ⟨c.ty, 0, 0, 0, 0, 0, 0, 0, 0, 0, [], [], [], c.text⟩
  else if c.ty = 14 then ⟨c.ty, c.flags, 0, 0, 0, 0, 0, 0, 0, 0, [], [], [], []⟩
  else ⟨c.ty, c.flags, 0, 0, 0, 0, 0, 0, 0, 0, [], [], [], c.text⟩
end Towline.Chunk
namespace Go.Proofs.YtbghocipmlobnaaGreat
open Go Go.RowKit Towline Towline.Tlv Towline.Chunk
set_option linter.unusedVariables false
set_option linter.unusedSimpArgs false
set_option maxRecDepth 20000
set_option maxHeartbeats 4000000
def encG (g : Int × Int) : List D := [.i .u16 g.1, .i .u16 g.2]
abbrev cL (c : Ch) : List AVal := [tvi c.ty, tvi c.flags, cv32 c.tsn, cv32 c.tag, cv32 c.window, cv32 c.ppid, cv16 c.stream, cv16 c.ssn, cv16 c.outs, cv16 c.ins, .d (slT 2 encG c.gaps), .d (slT 1 enc32 c.dups), .d (slT 2 encI c.items), tvs c.text]
abbrev cA (c : Ch) : AVal := .agg (cL c)
theorem only_0 {c : Ch} (h : c.ty = 0) : onlyC c = ⟨c.ty, c.flags, c.tsn, 0, 0, c.ppid, c.stream, c.ssn, 0, 0, [], [], [], c.text⟩ := by
  simp [onlyC, h]
theorem only_1 {c : Ch} (h : c.ty = 1) : onlyC c = ⟨c.ty, 0, c.tsn, c.tag, c.window, 0, 0, 0, c.outs, c.ins, [], [], c.items, []⟩ := by
  simp [onlyC, h]
theorem only_2 {c : Ch} (h : c.ty = 2) : onlyC c = ⟨c.ty, 0, c.tsn, c.tag, c.window, 0, 0, 0, c.outs, c.ins, [], [], c.items, []⟩ := by
  simp [onlyC, h]
theorem only_3 {c : Ch} (h : c.ty = 3) : onlyC c = ⟨c.ty, 0, c.tsn, 0, c.window, 0, 0, 0, 0, 0, c.gaps, c.dups, [], []⟩ := by
  simp [onlyC, h]
theorem only_4 {c : Ch} (h : c.ty = 4) : onlyC c = ⟨c.ty, 0, 0, 0, 0, 0, 0, 0, 0, 0, [], [], c.items, []⟩ := by
  simp [onlyC, h]
theorem only_5 {c : Ch} (h : c.ty = 5) : onlyC c = ⟨c.ty, 0, 0, 0, 0, 0, 0, 0, 0, 0, [], [], c.items, []⟩ := by
  simp [onlyC, h]
theorem only_9 {c : Ch} (h : c.ty = 9) : onlyC c = ⟨c.ty, 0, 0, 0, 0, 0, 0, 0, 0, 0, [], [], c.items, []⟩ := by
  simp [onlyC, h]
theorem only_6 {c : Ch} (h : c.ty = 6) : onlyC c = ⟨c.ty, c.flags, 0, 0, 0, 0, 0, 0, 0, 0, [], [], c.items, []⟩ := by
  simp [onlyC, h]
theorem only_7 {c : Ch} (h : c.ty = 7) : onlyC c = ⟨c.ty, 0, c.tsn, 0, 0, 0, 0, 0, 0, 0, [], [], [], []⟩ := by
  simp [onlyC, h]
theorem only_8 {c : Ch} (h : c.ty = 8) : onlyC c = ⟨c.ty, 0, 0, 0, 0, 0, 0, 0, 0, 0, [], [], [], []⟩ := by
  simp [onlyC, h]
theorem only_11 {c : Ch} (h : c.ty = 11) : onlyC c = ⟨c.ty, 0, 0, 0, 0, 0, 0, 0, 0, 0, [], [], [], []⟩ := by
  simp [onlyC, h]
theorem only_10 {c : Ch} (h : c.ty = 10) : onlyC c = ⟨c.ty, 0, 0, 0, 0, 0, 0, 0, 0, 0, [], [], [], c.text⟩ := by
  simp [onlyC, h]
theorem only_14 {c : Ch} (h : c.ty = 14) : onlyC c = ⟨c.ty, c.flags, 0, 0, 0, 0, 0, 0, 0, 0, [], [], [], []⟩ := by
  simp [onlyC, h]
theorem only_other {c : Ch} (h0 : ¬ c.ty = 0) (h1 : ¬ c.ty = 1) (h2 : ¬ c.ty = 2) (h3 : ¬ c.ty = 3) (h4 : ¬ c.ty = 4) (h5 : ¬ c.ty = 5) (h9 : ¬ c.ty = 9) (h6 : ¬ c.ty = 6) (h7 : ¬ c.ty = 7) (h8 : ¬ c.ty = 8) (h11 : ¬ c.ty = 11) (h10 : ¬ c.ty = 10) (h14 : ¬ c.ty = 14) : onlyC c = ⟨c.ty, c.flags, 0, 0, 0, 0, 0, 0, 0, 0, [], [], [], c.text⟩ := by
  simp [onlyC, h0, h1, h2, h3, h4, h5, h9, h6, h7, h8, h11, h10, h14]
theorem only_spec (c : Ch) : PSpec Tryz.prog 93 [cA c] (· = cA (onlyC c)) := by
  refine PSpec.run (tysOk) followsB Tryz.func93 (by decide) rfl Tryz.ntmps93 (Nat.le_of_ble_eq_true rfl) rfl fun w0 R0 hGw => ?_
  conv => whnf
  split <;> rename_i g0b
  · have g0 : c.ty = 0 := by simpa using g0b
    conv => whnf

    try (refine ⟨by kernel_rfl, ?_⟩; conv => whnf)
    refine ⟨cA (onlyC c), ?_, rfl, rfl⟩
    rw [only_0 g0]
    exact .agg ⟨by first | exact .refl _ | exact .nil, by first | exact .refl _ | exact .nil, by first | exact .refl _ | exact .nil, by first | exact .refl _ | exact .nil, by first | exact .refl _ | exact .nil, by first | exact .refl _ | exact .nil, by first | exact .refl _ | exact .nil, by first | exact .refl _ | exact .nil, by first | exact .refl _ | exact .nil, by first | exact .refl _ | exact .nil, by first | exact .refl _ | exact .nil, by first | exact .refl _ | exact .nil, by first | exact .refl _ | exact .nil, by first | exact .refl _ | exact .nil, trivial⟩
  have g0 : ¬ c.ty = 0 := by simpa using g0b
  conv => whnf
  split <;> rename_i g1b
  · have g1 : c.ty = 1 := by simpa using g1b
    conv => whnf
    try (rw [g1b]; conv => whnf)
    try (refine ⟨by kernel_rfl, ?_⟩; conv => whnf)
    try (rw [g1b]; conv => whnf)
    refine ⟨cA (onlyC c), ?_, rfl, rfl⟩
    rw [only_1 g1]
    exact .agg ⟨by first | exact .refl _ | exact .nil, by first | exact .refl _ | exact .nil, by first | exact .refl _ | exact .nil, by first | exact .refl _ | exact .nil, by first | exact .refl _ | exact .nil, by first | exact .refl _ | exact .nil, by first | exact .refl _ | exact .nil, by first | exact .refl _ | exact .nil, by first | exact .refl _ | exact .nil, by first | exact .refl _ | exact .nil, by first | exact .refl _ | exact .nil, by first | exact .refl _ | exact .nil, by first | exact .refl _ | exact .nil, by first | exact .refl _ | exact .nil, trivial⟩
  have g1 : ¬ c.ty = 1 := by simpa using g1b
  conv => whnf
  split <;> rename_i g2b
  · have g2 : c.ty = 2 := by simpa using g2b
    conv => whnf
    try (rw [g1b]; conv => whnf)
    try (rw [g2b]; conv => whnf)
    try (refine ⟨by kernel_rfl, ?_⟩; conv => whnf)
    try (rw [g1b]; conv => whnf)
    try (rw [g2b]; conv => whnf)
    refine ⟨cA (onlyC c), ?_, rfl, rfl⟩
    rw [only_2 g2]
    exact .agg ⟨by first | exact .refl _ | exact .nil, by first | exact .refl _ | exact .nil, by first | exact .refl _ | exact .nil, by first | exact .refl _ | exact .nil, by first | exact .refl _ | exact .nil, by first | exact .refl _ | exact .nil, by first | exact .refl _ | exact .nil, by first | exact .refl _ | exact .nil, by first | exact .refl _ | exact .nil, by first | exact .refl _ | exact .nil, by first | exact .refl _ | exact .nil, by first | exact .refl _ | exact .nil, by first | exact .refl _ | exact .nil, by first | exact .refl _ | exact .nil, trivial⟩
  have g2 : ¬ c.ty = 2 := by simpa using g2b
  conv => whnf
  split <;> rename_i g3b
  · have g3 : c.ty = 3 := by simpa using g3b
    conv => whnf

    try (refine ⟨by kernel_rfl, ?_⟩; conv => whnf)
    refine ⟨cA (onlyC c), ?_, rfl, rfl⟩
    rw [only_3 g3]
    exact .agg ⟨by first | exact .refl _ | exact .nil, by first | exact .refl _ | exact .nil, by first | exact .refl _ | exact .nil, by first | exact .refl _ | exact .nil, by first | exact .refl _ | exact .nil, by first | exact .refl _ | exact .nil, by first | exact .refl _ | exact .nil, by first | exact .refl _ | exact .nil, by first | exact .refl _ | exact .nil, by first | exact .refl _ | exact .nil, by first | exact .refl _ | exact .nil, by first | exact .refl _ | exact .nil, by first | exact .refl _ | exact .nil, by first | exact .refl _ | exact .nil, trivial⟩
  have g3 : ¬ c.ty = 3 := by simpa using g3b
  conv => whnf
  split <;> rename_i g4b
  · have g4 : c.ty = 4 := by simpa using g4b
    conv => whnf
    try (rw [g4b]; conv => whnf)
    try (refine ⟨by kernel_rfl, ?_⟩; conv => whnf)
    try (rw [g4b]; conv => whnf)
    refine ⟨cA (onlyC c), ?_, rfl, rfl⟩
    rw [only_4 g4]
    exact .agg ⟨by first | exact .refl _ | exact .nil, by first | exact .refl _ | exact .nil, by first | exact .refl _ | exact .nil, by first | exact .refl _ | exact .nil, by first | exact .refl _ | exact .nil, by first | exact .refl _ | exact .nil, by first | exact .refl _ | exact .nil, by first | exact .refl _ | exact .nil, by first | exact .refl _ | exact .nil, by first | exact .refl _ | exact .nil, by first | exact .refl _ | exact .nil, by first | exact .refl _ | exact .nil, by first | exact .refl _ | exact .nil, by first | exact .refl _ | exact .nil, trivial⟩
  have g4 : ¬ c.ty = 4 := by simpa using g4b
  conv => whnf
  split <;> rename_i g5b
  · have g5 : c.ty = 5 := by simpa using g5b
    conv => whnf
    try (rw [g4b]; conv => whnf)
    try (rw [g5b]; conv => whnf)
    try (refine ⟨by kernel_rfl, ?_⟩; conv => whnf)
    try (rw [g4b]; conv => whnf)
    try (rw [g5b]; conv => whnf)
    refine ⟨cA (onlyC c), ?_, rfl, rfl⟩
    rw [only_5 g5]
    exact .agg ⟨by first | exact .refl _ | exact .nil, by first | exact .refl _ | exact .nil, by first | exact .refl _ | exact .nil, by first | exact .refl _ | exact .nil, by first | exact .refl _ | exact .nil, by first | exact .refl _ | exact .nil, by first | exact .refl _ | exact .nil, by first | exact .refl _ | exact .nil, by first | exact .refl _ | exact .nil, by first | exact .refl _ | exact .nil, by first | exact .refl _ | exact .nil, by first | exact .refl _ | exact .nil, by first | exact .refl _ | exact .nil, by first | exact .refl _ | exact .nil, trivial⟩
  have g5 : ¬ c.ty = 5 := by simpa using g5b
  conv => whnf
  split <;> rename_i g9b
  · have g9 : c.ty = 9 := by simpa using g9b
    conv => whnf
    try (rw [g4b]; conv => whnf)
    try (rw [g5b]; conv => whnf)
    try (rw [g9b]; conv => whnf)
    try (refine ⟨by kernel_rfl, ?_⟩; conv => whnf)
    try (rw [g4b]; conv => whnf)
    try (rw [g5b]; conv => whnf)
    try (rw [g9b]; conv => whnf)
    refine ⟨cA (onlyC c), ?_, rfl, rfl⟩
    rw [only_9 g9]
    exact .agg ⟨by first | exact .refl _ | exact .nil, by first | exact .refl _ | exact .nil, by first | exact .refl _ | exact .nil, by first | exact .refl _ | exact .nil, by first | exact .refl _ | exact .nil, by first | exact .refl _ | exact .nil, by first | exact .refl _ | exact .nil, by first | exact .refl _ | exact .nil, by first | exact .refl _ | exact .nil, by first | exact .refl _ | exact .nil, by first | exact .refl _ | exact .nil, by first | exact .refl _ | exact .nil, by first | exact .refl _ | exact .nil, by first | exact .refl _ | exact .nil, trivial⟩
  have g9 : ¬ c.ty = 9 := by simpa using g9b
  conv => whnf
  split <;> rename_i g6b
  · have g6 : c.ty = 6 := by simpa using g6b
    conv => whnf

    try (refine ⟨by kernel_rfl, ?_⟩; conv => whnf)
    refine ⟨cA (onlyC c), ?_, rfl, rfl⟩
    rw [only_6 g6]
    exact .agg ⟨by first | exact .refl _ | exact .nil, by first | exact .refl _ | exact .nil, by first | exact .refl _ | exact .nil, by first | exact .refl _ | exact .nil, by first | exact .refl _ | exact .nil, by first | exact .refl _ | exact .nil, by first | exact .refl _ | exact .nil, by first | exact .refl _ | exact .nil, by first | exact .refl _ | exact .nil, by first | exact .refl _ | exact .nil, by first | exact .refl _ | exact .nil, by first | exact .refl _ | exact .nil, by first | exact .refl _ | exact .nil, by first | exact .refl _ | exact .nil, trivial⟩
  have g6 : ¬ c.ty = 6 := by simpa using g6b
  conv => whnf
  split <;> rename_i g7b
  · have g7 : c.ty = 7 := by simpa using g7b
    conv => whnf

    try (refine ⟨by kernel_rfl, ?_⟩; conv => whnf)
    refine ⟨cA (onlyC c), ?_, rfl, rfl⟩
    rw [only_7 g7]
    exact .agg ⟨by first | exact .refl _ | exact .nil, by first | exact .refl _ | exact .nil, by first | exact .refl _ | exact .nil, by first | exact .refl _ | exact .nil, by first | exact .refl _ | exact .nil, by first | exact .refl _ | exact .nil, by first | exact .refl _ | exact .nil, by first | exact .refl _ | exact .nil, by first | exact .refl _ | exact .nil, by first | exact .refl _ | exact .nil, by first | exact .refl _ | exact .nil, by first | exact .refl _ | exact .nil, by first | exact .refl _ | exact .nil, by first | exact .refl _ | exact .nil, trivial⟩
  have g7 : ¬ c.ty = 7 := by simpa using g7b
  conv => whnf
  split <;> rename_i g8b
  · have g8 : c.ty = 8 := by simpa using g8b
    conv => whnf
    try (rw [g8b]; conv => whnf)
    try (refine ⟨by kernel_rfl, ?_⟩; conv => whnf)
    try (rw [g8b]; conv => whnf)
    refine ⟨cA (onlyC c), ?_, rfl, rfl⟩
    rw [only_8 g8]
    exact .agg ⟨by first | exact .refl _ | exact .nil, by first | exact .refl _ | exact .nil, by first | exact .refl _ | exact .nil, by first | exact .refl _ | exact .nil, by first | exact .refl _ | exact .nil, by first | exact .refl _ | exact .nil, by first | exact .refl _ | exact .nil, by first | exact .refl _ | exact .nil, by first | exact .refl _ | exact .nil, by first | exact .refl _ | exact .nil, by first | exact .refl _ | exact .nil, by first | exact .refl _ | exact .nil, by first | exact .refl _ | exact .nil, by first | exact .refl _ | exact .nil, trivial⟩
  have g8 : ¬ c.ty = 8 := by simpa using g8b
  conv => whnf
  split <;> rename_i g11b
  · have g11 : c.ty = 11 := by simpa using g11b
    conv => whnf
    try (rw [g8b]; conv => whnf)
    try (rw [g11b]; conv => whnf)
    try (refine ⟨by kernel_rfl, ?_⟩; conv => whnf)
    try (rw [g8b]; conv => whnf)
    try (rw [g11b]; conv => whnf)
    refine ⟨cA (onlyC c), ?_, rfl, rfl⟩
    rw [only_11 g11]
    exact .agg ⟨by first | exact .refl _ | exact .nil, by first | exact .refl _ | exact .nil, by first | exact .refl _ | exact .nil, by first | exact .refl _ | exact .nil, by first | exact .refl _ | exact .nil, by first | exact .refl _ | exact .nil, by first | exact .refl _ | exact .nil, by first | exact .refl _ | exact .nil, by first | exact .refl _ | exact .nil, by first | exact .refl _ | exact .nil, by first | exact .refl _ | exact .nil, by first | exact .refl _ | exact .nil, by first | exact .refl _ | exact .nil, by first | exact .refl _ | exact .nil, trivial⟩
  have g11 : ¬ c.ty = 11 := by simpa using g11b
  conv => whnf
  split <;> rename_i g10b
  · have g10 : c.ty = 10 := by simpa using g10b
    conv => whnf

    try (refine ⟨by kernel_rfl, ?_⟩; conv => whnf)
    refine ⟨cA (onlyC c), ?_, rfl, rfl⟩
    rw [only_10 g10]
    exact .agg ⟨by first | exact .refl _ | exact .nil, by first | exact .refl _ | exact .nil, by first | exact .refl _ | exact .nil, by first | exact .refl _ | exact .nil, by first | exact .refl _ | exact .nil, by first | exact .refl _ | exact .nil, by first | exact .refl _ | exact .nil, by first | exact .refl _ | exact .nil, by first | exact .refl _ | exact .nil, by first | exact .refl _ | exact .nil, by first | exact .refl _ | exact .nil, by first | exact .refl _ | exact .nil, by first | exact .refl _ | exact .nil, by first | exact .refl _ | exact .nil, trivial⟩
  have g10 : ¬ c.ty = 10 := by simpa using g10b
  conv => whnf
  split <;> rename_i g14b
  · have g14 : c.ty = 14 := by simpa using g14b
    conv => whnf

    try (refine ⟨by kernel_rfl, ?_⟩; conv => whnf)
    refine ⟨cA (onlyC c), ?_, rfl, rfl⟩
    rw [only_14 g14]
    exact .agg ⟨by first | exact .refl _ | exact .nil, by first | exact .refl _ | exact .nil, by first | exact .refl _ | exact .nil, by first | exact .refl _ | exact .nil, by first | exact .refl _ | exact .nil, by first | exact .refl _ | exact .nil, by first | exact .refl _ | exact .nil, by first | exact .refl _ | exact .nil, by first | exact .refl _ | exact .nil, by first | exact .refl _ | exact .nil, by first | exact .refl _ | exact .nil, by first | exact .refl _ | exact .nil, by first | exact .refl _ | exact .nil, by first | exact .refl _ | exact .nil, trivial⟩
  have g14 : ¬ c.ty = 14 := by simpa using g14b
  conv => whnf
  try (refine ⟨by kernel_rfl, ?_⟩; conv => whnf)
  refine ⟨cA (onlyC c), ?_, rfl, rfl⟩
  rw [only_other g0 g1 g2 g3 g4 g5 g9 g6 g7 g8 g11 g10 g14]
  exact .agg ⟨by first | exact .refl _ | exact .nil, by first | exact .refl _ | exact .nil, by first | exact .refl _ | exact .nil, by first | exact .refl _ | exact .nil, by first | exact .refl _ | exact .nil, by first | exact .refl _ | exact .nil, by first | exact .refl _ | exact .nil, by first | exact .refl _ | exact .nil, by first | exact .refl _ | exact .nil, by first | exact .refl _ | exact .nil, by first | exact .refl _ | exact .nil, by first | exact .refl _ | exact .nil, by first | exact .refl _ | exact .nil, by first | exact .refl _ | exact .nil, trivial⟩
-- (behind only)
end Go.Proofs.YtbghocipmlobnaaGreat
