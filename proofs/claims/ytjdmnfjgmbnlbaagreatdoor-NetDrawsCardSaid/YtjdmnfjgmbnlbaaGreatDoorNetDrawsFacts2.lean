/-
  The same facts, together.
  Conditions: none.
-/
import Derived.Test.YtjdmnfjgmbnlbaaGreatDoorNetDrawsFacts
namespace Go.Proofs.YtjdmnfjgmbnlbaaGreatDoor.netDraws
open Go
set_option linter.unusedVariables false
set_option maxRecDepth 100000
theorem closed : joinedFacts Tryz.prog 4 Tryz.f4 Rows.netDrawsSpec Rows.netDrawsRow = true := by unfold joinedFacts; exact (band (band (band (band (band (band (band (band (band (band (band (band (band (band (band (band (band (band (band (band (band (band (band (band (band (band (band (band (band (band (band fact0 fact1) fact2) fact3) fact4) fact5) fact6) fact7) fact8) fact9) fact10) fact11) fact12) fact13) fact14) fact15) fact16) fact17) fact18) fact19) fact20) fact21) fact22) fact23) fact24) fact25) fact26) fact27) fact28) fact29) fact30) fact31)
theorem inst : Tryz.f4.isInstance Tryz.prog Rows.netDrawsRow.origin Rows.netDrawsRow.targs := of_decide_eq_true (by kernel_rfl)
theorem wrapped : Tryz.f4.isWrapper Tryz.prog Rows.netDrawsRow.wrapper Rows.netDrawsRow.mainSum := by unfold Func.isWrapper; first | (rw [if_pos (by decide +kernel)]; kernel_rfl) | (rw [if_neg (by decide +kernel)]; exact ⟨rfl, rfl⟩)
theorem named : Tryz.prog.funcNamed Rows.netDrawsRow.func = some 4 := by kernel_rfl
theorem wfText : Rows.netDrawsRow.wfByText (OpenSpec.ofChange Rows.netDrawsSpec) = true := by kernel_rfl
theorem mainF : Tryz.prog.mainIs = some (true, "afb3c45fa8ae2ae8eccb5985a837409474033678232fb758807f9337aeb54ee9".toList) := by kernel_rfl
theorem looksF : false = Tryz.prog.looks [] := by kernel_rfl
theorem standF : ([9, 41, 9].all fun u => !Tryz.prog.wantsStandIn u) = true := by kernel_rfl
theorem goesF : false = Rows.netDrawsRow.goesBy Tryz.prog := by kernel_rfl
theorem namedF : Tryz.prog.funcNamed "towline/towlinelaw21.NetDraws" = some 4 := by kernel_rfl
end Go.Proofs.YtjdmnfjgmbnlbaaGreatDoor.netDraws
