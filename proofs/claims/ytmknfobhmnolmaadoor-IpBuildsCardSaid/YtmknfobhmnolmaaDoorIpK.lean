/- Chapter 5: headers of any kind as arguments; two statements. -/
import Derived.Test.YtmknfobhmnolmaaDoorIpJ
namespace Go.Proofs.YtmknfobhmnolmaaDoor
open Go Go.RowKit Towline Towline.Ip
set_option linter.unusedVariables false
set_option linter.unusedSimpArgs false
set_option maxRecDepth 20000
theorem wt_hd {n : Nat} {l : List D} (h : wt tys (n + 2) 29 l) : ∃ x : Hd, l = encH x := by
  obtain ⟨h0, h1, h2, h3, h4, h5, _⟩ := h
  match l, h0 with
  | [a1, a2, a3, a4, a5], _ =>
    obtain ⟨x1, hx1, _⟩ := h1
    obtain ⟨x2, hx2, _⟩ := h2
    obtain ⟨x3, hx3, _⟩ := h3
    obtain ⟨x4, hx4, _⟩ := h4
    obtain ⟨x5, hx5, _⟩ := h5
    refine ⟨⟨x1, x2, x3, x4, x5⟩, ?_⟩
    simp at hx1 hx2 hx3 hx4 hx5
    simp [encH, hx1, hx2, hx3, hx4, hx5]
theorem ipBack_of {l0 l1 : List D} (h0 : wt tys 8 29 l0) (h1 : wt tys 8 9 l1) : PSpec Tryd.prog 5 [asV true l0, asV false l1] (· = tvb true) := by
  obtain ⟨h, rfl⟩ := wt_hd (n := 6) h0
  obtain ⟨x1, hx1, _⟩ := h1
  subst hx1
  exact back5_spec h x1
theorem ipTurns_of {l0 l1 l2 l3 : List D} (h0 : wt tys 8 29 l0) (h1 : wt tys 8 9 l1) (h2 : wt tys 8 3 l2) (h3 : wt tys 8 5 l3) : PSpec Tryd.prog 6 [asV true l0, asV false l1, asV false l2, asV false l3] (· = tvb true) := by
  obtain ⟨h, rfl⟩ := wt_hd (n := 6) h0
  obtain ⟨x1, hx1, _⟩ := h1
  obtain ⟨x2, hx2, _⟩ := h2
  obtain ⟨x3, hx3, hw⟩ := h3
  have := bounds_u8 hw
  have e : (((UInt8.ofNat x3.toNat).toNat : Nat) : Int) = x3 := by
    rw [UInt8.toNat_ofNat']
    omega
  have hs := turns5_spec h x1 x2 (UInt8.ofNat x3.toNat)
  rw [e] at hs
  subst hx1 hx2 hx3
  exact hs
end Go.Proofs.YtmknfobhmnolmaaDoor
