/- Chapter 19: AssocBeats: its arguments. -/
import Derived.Test.YtbghocipmlobnaaGreatAbK
namespace Go.Proofs.YtbghocipmlobnaaGreat
open Go Go.RowKit Towline Towline.Hand Towline.Ab
set_option linter.unusedVariables false
set_option linter.unusedSimpArgs false
set_option maxRecDepth 20000
set_option maxHeartbeats 4000000
theorem assocBeats_of {l0 l1 l2 : List D} (h0 : wt tys 8 22 l0) (h1 : wt tys 8 9 l1) (h2 : wt tys 8 4 l2) : PSpec Tryz.prog 3 [asV false l0, asV false l1, asV false l2] (· = .d (.b true)) := by
  obtain ⟨x, hx, _⟩ := h0
  obtain ⟨s, hs, _⟩ := h1
  obtain ⟨b, hb⟩ := h2
  subst hx
  subst hs
  subst hb
  exact beats_spec x s b
end Go.Proofs.YtbghocipmlobnaaGreat
