/- Chapter 19: an association is opened, sends, and is adopted: contracts. -/
import Derived.Test.YtbghocipmlobnaaGreatAsB
namespace Go.Proofs.YtbghocipmlobnaaGreat
open Go Go.RowKit Towline Towline.Hand
set_option linter.unusedVariables false
set_option linter.unusedSimpArgs false
set_option maxRecDepth 20000
set_option maxHeartbeats 4000000
theorem grow_spec : PSpec Tryz.prog 76 [nilA, vi 0] (· = nilA) := by
  refine PSpec.run (tysOk) followsB Tryz.func76 (by decide) rfl Tryz.ntmps76 (Nat.le_of_ble_eq_true rfl) rfl fun w0 R0 hGw => ?_
  conv => whnf
  refine ⟨by first | omega | decide +kernel, ?_⟩
  conv => whnf
  refine ⟨by first | omega | decide +kernel, ?_⟩
  conv => whnf
  exact ⟨_, .refl _, rfl, rfl⟩
theorem concat_spec : PSpec Tryz.prog 34 [.d (.sl 1 2 fun _ => [nilD])] (fun r => ∃ f, r = .d (.sl 14 0 f)) := by
  refine PSpec.run (tysOk) followsB Tryz.func34 (by decide) rfl Tryz.ntmps34 (Nat.le_of_ble_eq_true rfl) rfl fun w0 R0 hGw => ?_
  conv => whnf
  refine ALoop.rounds (tysOk) followsB 3 ?_
  conv => whnf
  refine ⟨by first | omega | decide +kernel, ?_⟩
  conv => whnf
  refine ⟨by first | omega | decide +kernel, ?_⟩
  conv => whnf
  refine ⟨by first | omega | decide +kernel, ?_⟩
  conv => whnf
  refine ⟨by first | omega | decide +kernel, ?_⟩
  conv => whnf
  refine ⟨by first | omega | decide +kernel, ?_⟩
  conv => whnf
  refine ⟨by first | omega | decide +kernel, ?_⟩
  conv => whnf
  refine ⟨_, grow_spec, ?_⟩
  rintro q rfl
  conv => whnf
  refine ALoop.rounds (tysOk) followsB 3 ?_
  conv => whnf
  refine ⟨by first | omega | decide +kernel, ?_⟩
  conv => whnf
  refine ⟨⟨by omega, by simp only [ty41]; omega⟩, ?_⟩
  conv => whnf
  refine ⟨by first | omega | decide +kernel, ?_⟩
  conv => whnf
  refine ⟨by first | omega | decide +kernel, ?_⟩
  conv => whnf
  refine ⟨⟨by omega, by omega, by simp only [ty41]; omega⟩, ?_⟩
  conv => whnf
  refine ⟨by first | omega | decide +kernel, ?_⟩
  conv => whnf
  refine ⟨by first | omega | decide +kernel, ?_⟩
  conv => whnf
  exact ⟨_, .refl _, ⟨_, rfl⟩, rfl⟩
theorem flushI_spec (h : H) (sn : D) (xc gc : Int) (qn : D) (win : Int) (hs : h.st = 1) : LSpec Tryz.prog 9 [.ptr Z0 0, vi 0] (asI h sn xc gc qn win) (fun r hl => r = nilA ∧ hl = asI h sn xc gc qn win) := by
  obtain ⟨st, tr, du, ot, pt, ou, pu, mi, wi, os_, is_, co⟩ := h
  dsimp only at hs
  subst hs
  refine LSpec.run ((tysXOk false [37] lentAs [3000000000 + 41])) followsB Tryz.func9 (by decide) rfl Tryz.ntmps9 (Nat.le_of_ble_eq_true rfl) rfl rfl fun w0 R0 Lo hGw => ?_
  conv => whnf
  refine ⟨by first | omega | decide +kernel, ?_⟩
  conv => whnf
  refine ⟨by first | omega | decide +kernel, ?_⟩
  conv => whnf
  refine ⟨_, (tell_spec _ sn xc gc qn win nilD nilD _ _), ?_⟩
  rintro q rfl
  conv => whnf
  refine ⟨_, _, .refl _, ?_, rfl, rfl⟩
  exact ⟨OLe.refl _, OLe.refl _, OLe.refl _, trivial⟩
theorem flushII_spec (h : H) (sn : D) (xc gc : Int) (qn : D) (win : Int) (c : K) (hs : h.st = 1) : LSpec Tryz.prog 9 [.ptr Z0 0, vi 0] (asII h sn xc gc qn win c) (fun r hl => r = .rsl Z1 2 0 1 ∧ hl = [(Z0, .box (asL h sn xc gc qn win nilA nilA (.rsl Z2 1 0 1) (.rsl Z3 1 0 1))), (Z1, outO c), (Z2, row0), (Z3, row0)]) := by
  obtain ⟨st, tr, du, ot, pt, ou, pu, mi, wi, os_, is_, co⟩ := h
  dsimp only at hs
  subst hs
  refine LSpec.run ((tysXOk false [37] lentAs [3000000000 + 41])) followsB Tryz.func9 (by decide) rfl Tryz.ntmps9 (Nat.le_of_ble_eq_true rfl) rfl rfl fun w0 R0 Lo hGw => ?_
  conv => whnf
  refine ⟨by first | omega | decide +kernel, ?_⟩
  conv => whnf
  refine ⟨by first | omega | decide +kernel, ?_⟩
  conv => whnf
  refine ⟨by first | omega | decide +kernel, ?_⟩
  conv => whnf
  refine ⟨_, (tell_spec _ sn xc gc qn win _ nilD _ _), ?_⟩
  rintro q rfl
  conv => whnf
  refine ⟨_, _, .refl _, ?_, rfl, rfl⟩
  exact ⟨OLe.refl _, OLe.refl _, OLe.refl _, OLe.refl _, trivial⟩
theorem flushIV_spec (h : H) (sn : D) (xc gc : Int) (qn : D) (win : Int) (c : K) (hs : h.st = 3) : LSpec Tryz.prog 9 [.ptr Z0 0, vi 0] (asIV h sn xc gc qn win c) (fun r hl => r = .rsl Z1 2 0 1 ∧ hl = [(Z0, .box (asL h sn xc gc qn win nilA (.rsl Z2 2 0 1) (.rsl Z3 1 0 1) (.rsl Z4 1 0 1))), (Z1, outO c), (Z2, noteO), (Z3, row0), (Z4, row0)]) := by
  obtain ⟨st, tr, du, ot, pt, ou, pu, mi, wi, os_, is_, co⟩ := h
  dsimp only at hs
  subst hs
  refine LSpec.run ((tysXOk false [37] lentAs [3000000000 + 41])) followsB Tryz.func9 (by decide) rfl Tryz.ntmps9 (Nat.le_of_ble_eq_true rfl) rfl rfl fun w0 R0 Lo hGw => ?_
  conv => whnf
  refine ⟨by first | omega | decide +kernel, ?_⟩
  conv => whnf
  refine ⟨by first | omega | decide +kernel, ?_⟩
  conv => whnf
  refine ⟨by first | omega | decide +kernel, ?_⟩
  conv => whnf
  refine ⟨by first | omega | decide +kernel, ?_⟩
  conv => whnf
  refine ⟨_, (tell_spec _ sn xc gc qn win _ _ _ _), ?_⟩
  rintro q rfl
  conv => whnf
  refine ⟨by first | omega | decide +kernel, ?_⟩
  conv => whnf
  refine ⟨by first | omega | decide +kernel, ?_⟩
  conv => whnf
  refine ⟨by first | omega | decide +kernel, ?_⟩
  conv => whnf
  refine ⟨_, (thereA_spec _ sn xc gc qn win nilD _ _ _), ?_⟩
  rintro q rfl
  conv => whnf
  refine ⟨by first | omega | decide +kernel, ?_⟩
  conv => whnf
  refine ⟨by first | omega | decide +kernel, ?_⟩
  conv => whnf
  refine ⟨by first | omega | decide +kernel, ?_⟩
  conv => whnf
  refine ⟨_, (again_spec _ sn xc gc qn win nilD _ _ _), ?_⟩
  rintro q rfl
  conv => whnf
  refine ⟨by first | omega | decide +kernel, ?_⟩
  conv => whnf
  refine ⟨by first | omega | decide +kernel, ?_⟩
  conv => whnf
  refine ⟨by first | omega | decide +kernel, ?_⟩
  conv => whnf
  refine ⟨_, (fresh_spec _ sn xc gc qn win nilD _ _ _), ?_⟩
  rintro q rfl
  conv => whnf
  refine ⟨by first | omega | decide +kernel, ?_⟩
  conv => whnf
  refine ⟨_, concat_spec.argsC ⟨.sl rfl fun k hk => by rcases (show k = 0 ∨ k = 1 by omega) with rfl | rfl <;> rfl, trivial⟩, ?_⟩
  rintro q ⟨f, rfl⟩
  conv => whnf
  refine ⟨_, _, .refl _, ?_, rfl, rfl⟩
  exact ⟨OLe.refl _, OLe.refl _, OLe.refl _, OLe.refl _, OLe.refl _, trivial⟩
/-- A cookie's numbers are such. -/
structure TypS (s : S) : Prop where
  o : 0 ≤ s.outs ∧ s.outs < 65536
  i : 0 ≤ s.ins ∧ s.ins < 65536
  p : 0 ≤ s.ourPort ∧ s.ourPort < 65536
  q : 0 ≤ s.peerPort ∧ s.peerPort < 65536
/-- Is a cookie to be taken? -/
def fits (s : S) (tag : Int) : Bool := rightB s && decide (s.outs ≤ 16) && decide (s.ins ≤ 16) && decide (s.ourTag = tag)
def adopted (h : H) (s : S) : H := ⟨3, 0, 0, s.ourTag, s.peerTag, h.ourTsn, s.peerTsn, h.mine, s.window, s.outs, s.ins, []⟩
end Go.Proofs.YtbghocipmlobnaaGreat
