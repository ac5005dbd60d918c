/- Chapter 7: the statements, at any arguments of their types. -/
import Derived.Test.YtbojiemjgiacbaaDoorChM
namespace Go.Proofs.YtbojiemjgiacbaaDoor
open Go Go.RowKit Towline Towline.Tlv Towline.Chunk
set_option linter.unusedVariables false
set_option linter.unusedSimpArgs false
theorem chunkAgain_of {l0 : List D} (h0 : wt tys 8 9 l0) : PSpec Tryd.prog 3 [asV false l0] (· = tvb true) := by
  obtain ⟨d0, rfl⟩ : ∃ d, l0 = [d] := by obtain ⟨x, hx, _⟩ := h0; exact ⟨_, hx⟩
  obtain ⟨x, rfl, _⟩ := wt_str (n := 7) h0
  exact again_spec x
theorem chunkHeads_of {l0 : List D} (h0 : wt tys 8 29 l0) : PSpec Tryd.prog 5 [asV true l0] (· = tvb true) := by
  obtain ⟨c, h1, h2⟩ := wt_chunk (n := 4) h0
  exact (heads_spec c h2).argsC ⟨h1, trivial⟩
theorem chunkBack_of {l0 l1 : List D} (h0 : wt tys 8 29 l0) (h1 : wt tys 8 9 l1) : PSpec Tryd.prog 7 [asV true l0, asV false l1] (· = tvb true) := by
  obtain ⟨d1, rfl⟩ : ∃ d, l1 = [d] := by obtain ⟨x, hx, _⟩ := h1; exact ⟨_, hx⟩
  obtain ⟨x, rfl, _⟩ := wt_str (n := 7) h1
  obtain ⟨c, h2, h3⟩ := wt_chunk (n := 4) h0
  exact (back7_spec c h3 x).argsC ⟨h2, .refl _, trivial⟩
theorem chunkRows_of {l0 : List D} (h0 : wt tys 8 38 l0) : PSpec Tryd.prog 4 [asV false l0] (· = tvb true) := by
  obtain ⟨d0, rfl⟩ : ∃ d, l0 = [d] := by obtain ⟨m, f, hx, _⟩ := h0; exact ⟨_, hx⟩
  obtain ⟨l, _, h1, h2⟩ := wt_chunks (n := 3) h0
  exact (rows7_spec l h2).argsC ⟨h1.av, trivial⟩
end Go.Proofs.YtbojiemjgiacbaaDoor
