/- Chapter 8: packets of any kind as arguments; two statements, at any arguments of their types. -/
import Derived.Test.YtcdondbegnbdgaaDoorPkL
namespace Go.Proofs.YtcdondbegnbdgaaDoor
open Go Go.RowKit Towline Towline.Tlv Towline.Chunk Towline.Packet
set_option linter.unusedVariables false
set_option linter.unusedSimpArgs false
set_option maxRecDepth 20000
theorem wt_pk {n : Nat} {l : List D} (h : wt tys (n + 6) 30 l) : ∃ p : Pk, DLeL l (encP p) ∧ in16 p.from_ ∧ in16 p.to_ ∧ in32 p.tag ∧ ∀ c ∈ p.chunks, ChR c := by
  obtain ⟨h0, h1, h2, h3, h4, _⟩ := h
  match l, h0 with
  | [a1, a2, a3, a4], _ =>
    obtain ⟨x1, rfl, k1⟩ := wt_u16 h1
    obtain ⟨x2, rfl, k2⟩ := wt_u16 h2
    obtain ⟨x3, rfl, k3⟩ := wt_u32 h3
    obtain ⟨x4, _, e4, g4⟩ := wt_chunks h4
    exact ⟨⟨x1, x2, x3, x4⟩, ⟨.refl _, .refl _, .refl _, e4, trivial⟩, k1, k2, k3, g4⟩
theorem wt_packet {n : Nat} {l : List D} (h : wt tys (n + 6) 30 l) : ∃ p : Pk, (asV true l).le (pA p) ∧ in16 p.from_ ∧ in16 p.to_ ∧ in32 p.tag ∧ ∀ c ∈ p.chunks, ChR c := by
  obtain ⟨p, h1, h2⟩ := wt_pk h
  exact ⟨p, .agg h1.agg, h2⟩
theorem one_of {n : Nat} {t : Nat} {l : List D} {x : D} (h : l = [x]) : ∃ d, l = [d] := ⟨x, h⟩
theorem packetHeads_of {l0 : List D} (h0 : wt tys 8 30 l0) : PSpec Tryd.prog 5 [asV true l0] (· = tvb true) := by
  obtain ⟨p, h1, h2⟩ := wt_packet (n := 2) h0
  exact (heads8_spec p h2).argsC ⟨h1, trivial⟩
theorem packetSorts_of {l0 l1 l2 l3 : List D} (h0 : wt tys 8 22 l0) (h1 : wt tys 8 22 l1) (h2 : wt tys 8 23 l2) (h3 : wt tys 8 24 l3) : PSpec Tryd.prog 3 [asV false l0, asV false l1, asV false l2, asV false l3] (· = tvb true) := by
  obtain ⟨d0, rfl⟩ : ∃ d, l0 = [d] := by obtain ⟨x, hx, _⟩ := h0; exact ⟨_, hx⟩
  obtain ⟨d1, rfl⟩ : ∃ d, l1 = [d] := by obtain ⟨x, hx, _⟩ := h1; exact ⟨_, hx⟩
  obtain ⟨d2, rfl⟩ : ∃ d, l2 = [d] := by obtain ⟨x, hx, _⟩ := h2; exact ⟨_, hx⟩
  obtain ⟨d3, rfl⟩ : ∃ d, l3 = [d] := by obtain ⟨m, f, hx, _⟩ := h3; exact ⟨_, hx⟩
  obtain ⟨x0, rfl, _⟩ := wt_u16 (n := 7) h0
  obtain ⟨x1, rfl, _⟩ := wt_u16 (n := 7) h1
  obtain ⟨x2, rfl, _⟩ := wt_u32 (n := 7) h2
  obtain ⟨l, _, e3, h4⟩ := wt_chunks (n := 3) h3
  exact (sorts8_spec x0 x1 x2 l h4).argsC ⟨.refl _, .refl _, .refl _, e3.av, trivial⟩
end Go.Proofs.YtcdondbegnbdgaaDoor
