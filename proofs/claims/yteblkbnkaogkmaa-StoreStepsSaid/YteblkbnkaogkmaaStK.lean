/- The law of steps, of whatever it is handed. -/
import Derived.Test.YteblkbnkaogkmaaStJ
namespace Go.Proofs.Yteblkbnkaogkmaa
open Go Go.RowKit Go.ChangeShapes Go.WideShapes Towline Towline.Store
set_option linter.unusedVariables false
set_option maxRecDepth 20000
set_option maxHeartbeats 2000000
theorem storeSteps_of {l0 l1 l2 : List D} (h0 : wt tys 8 27 l0) (h1 : wt tys 8 34 l1) (h2 : wt tys 8 3 l2) :
    PSpec Try.prog 6 [asV true l0, asV true l1, asV false l2] (· = vb true) := by
  obtain ⟨ms, a, nx, k1, k2, k3, k4, k5, k6, k7⟩ := wt_store (n := 4) h0
  obtain ⟨m, m1, m2, m3, m4, m5⟩ := wt_msgA (n := 6) h1
  obtain ⟨l2, e2⟩ : ∃ d, l2 = [d] := by
    obtain ⟨x, hx, _⟩ := h2
    exact ⟨_, hx⟩
  subst e2
  obtain ⟨n, rfl, n1, n2⟩ := wt_int (n := 7) h2
  rw [m5]
  exact (steps_spec ms a nx m n k1 k3 (fun m hm => (k2 m hm).1) m1).argsC ⟨k7, .refl _, .refl _, trivial⟩
end Go.Proofs.Yteblkbnkaogkmaa
