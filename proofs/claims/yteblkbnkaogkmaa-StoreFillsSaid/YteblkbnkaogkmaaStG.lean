/- The examples of the chapter; the laws. -/
import Derived.Test.YteblkbnkaogkmaaStF
namespace Go.Proofs.Yteblkbnkaogkmaa
open Go Towline Towline.Store
set_option linter.unusedVariables false
set_option maxRecDepth 20000
set_option maxHeartbeats 2000000
def msg1 : Msg := ⟨0, 0, 0, false, [97, 98, 99, 100, 101], 0⟩
def msg2 : Msg := ⟨0, 0, 0, false, [120], 0⟩
theorem take1 : PSpec Try.prog 11 [stA [msg1, msg2] 0 [0], vi 3] (· = .tup [stA [msg1, msg2] 3 [0], pcA ⟨0, true, false, false, 0, 0, 0, [97, 98, 99]⟩, vi 0, vb true]) :=
  take_spec msg1 [msg2] 0 [0] 3 (by decide) (by decide) (by decide) (by decide) (by decide) (by decide)
theorem take2 : PSpec Try.prog 11 [stA [msg1, msg2] 3 [0], vi 3] (· = .tup [stA [msg2] 0 [1], pcA ⟨0, false, true, false, 0, 0, 0, [100, 101]⟩, vi 0, vb true]) :=
  take_spec msg1 [msg2] 3 [0] 3 (by decide) (by decide) (by decide) (by decide) (by decide) (by decide)
theorem take3 : PSpec Try.prog 11 [stA [msg2] 0 [1], vi 3] (· = .tup [stA [] 0 [2], pcA ⟨0, true, true, false, 0, 1, 0, [120]⟩, vi 0, vb true]) :=
  take_spec msg2 [] 0 [1] 3 (by decide) (by decide) (by decide) (by decide) (by decide) (by decide)
theorem shown_spec : PSpec Try.prog 8 [] (· = vb true) := by
  refine PSpec.run tysOk follows Try.func8 (by decide) rfl Try.ntmps8 (Nat.le_of_ble_eq_true rfl) rfl fun w0 R0 => ?_
  conv => whnf
  refine ⟨_, new_ok 1 (by omega) (by omega), ?_⟩
  rintro q rfl
  conv => whnf
  refine ⟨_, push_spec [] 0 (List.replicate 1 0) msg1 (by decide) (by decide) (by decide) (by decide) (by decide), ?_⟩
  rintro q rfl
  conv => whnf
  refine ⟨_, push_spec [msg1] 0 (List.replicate 1 0) msg2 (by decide) (by decide) (by decide) (by decide) (by decide), ?_⟩
  rintro q rfl
  conv => whnf
  refine ⟨_, take1, ?_⟩
  rintro q rfl
  conv => whnf
  refine ⟨_, take2, ?_⟩
  rintro q rfl
  conv => whnf
  refine ⟨_, take3, ?_⟩
  rintro q rfl
  conv => whnf
  exact ⟨_, .refl _, rfl, rfl⟩
end Go.Proofs.Yteblkbnkaogkmaa
