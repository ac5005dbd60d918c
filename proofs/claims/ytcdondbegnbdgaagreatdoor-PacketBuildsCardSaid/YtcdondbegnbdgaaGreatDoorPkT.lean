/- Chapter 8: PacketBuilds: contract, at any arguments of their types. -/
import Derived.Test.YtcdondbegnbdgaaGreatDoorPkR
namespace Go.Proofs.YtcdondbegnbdgaaGreatDoor
open Go Go.RowKit Towline Towline.Tlv Towline.Chunk Towline.Packet
set_option linter.unusedVariables false
set_option linter.unusedSimpArgs false
set_option maxRecDepth 20000
set_option maxHeartbeats 1000000
theorem builds8_spec (p : Pk) (hr : in16 p.from_ ∧ in16 p.to_ ∧ in32 p.tag ∧ ∀ c ∈ p.chunks, ChR c) (kind : Int) : PSpec Tryz.prog 4 [pA p, tvi kind] (· = tvb true) := by
  refine PSpec.run (tysOk) followsB Tryz.func4 (by decide) rfl Tryz.ntmps4 (Nat.le_of_ble_eq_true rfl) rfl fun w0 R0 => ?_
  conv => whnf
  refine ⟨_, shown8_spec, ?_⟩
  rintro q rfl
  conv => whnf
  refine ⟨_, small8_spec p.chunks, ?_⟩
  rintro q ⟨b, rfl, hb⟩
  cases b
  · conv => whnf
    exact ⟨_, .refl _, rfl, rfl⟩
  obtain ⟨hl, hc⟩ := hb rfl
  have hk : ∀ c ∈ p.chunks, ChOk c := fun c h => ChOk.ofL (hr.2.2.2 c h) (hc c h)
  have hkr : ∀ c ∈ p.chunks, ChOk c ∧ ChR c := fun c h => ⟨hk c h, hr.2.2.2 c h⟩
  have hrf := ref8_spec p (by omega) fun c h => Nat.le_trans (hc c h).1 (by decide)
  have hbs := build8_spec p hk (by omega)
  have hbr := rbuild8_spec p ⟨hr.1, hr.2.1, hr.2.2.1⟩ hkr (by omega)
  have hR := right8_spec p hk (by omega)
  have hRr := rright8_spec p hkr (by omega)
  conv => whnf
  refine ⟨_, hbs, ?_⟩
  rintro q rfl
  conv => whnf
  refine ⟨_, hrf, ?_⟩
  rintro q rfl
  conv => whnf
  refine ⟨_, hbr, ?_⟩
  rintro q rfl
  conv => whnf
  rw [beq_self_eq_true]
  conv => whnf
  rw [beq_self_eq_true]
  conv => whnf
  refine ⟨_, hR, ?_⟩
  conv => whnf
  refine ⟨_, hrf, ?_⟩
  conv => whnf
  refine ⟨_, hRr, ?_⟩
  conv => whnf
  rw [beq_self_eq_true]
  conv => whnf
  refine ⟨_, alone_spec kind, ?_⟩
  conv => whnf
  refine ⟨_, ralone_spec kind, ?_⟩
  conv => whnf
  refine ⟨by kernel_rfl, ?_⟩
  conv => whnf
  rw [beq_self_eq_true]
  exact ⟨_, .refl _, rfl, rfl⟩
theorem wt_pk {n : Nat} {l : List D} (h : wt tys (n + 6) 27 l) : ∃ p : Pk, DLeL l (encP p) ∧ in16 p.from_ ∧ in16 p.to_ ∧ in32 p.tag ∧ ∀ c ∈ p.chunks, ChR c := by
  obtain ⟨h0, h1, h2, h3, h4, _⟩ := h
  match l, h0 with
  | [a1, a2, a3, a4], _ =>
    obtain ⟨x1, rfl, k1⟩ := wt_u16 h1
    obtain ⟨x2, rfl, k2⟩ := wt_u16 h2
    obtain ⟨x3, rfl, k3⟩ := wt_u32 h3
    obtain ⟨x4, _, e4, g4⟩ := wt_chunks h4
    exact ⟨⟨x1, x2, x3, x4⟩, ⟨.refl _, .refl _, .refl _, e4, trivial⟩, k1, k2, k3, g4⟩
theorem wt_packet {n : Nat} {l : List D} (h : wt tys (n + 6) 27 l) : ∃ p : Pk, (asV true l).le (pA p) ∧ in16 p.from_ ∧ in16 p.to_ ∧ in32 p.tag ∧ ∀ c ∈ p.chunks, ChR c := by
  obtain ⟨p, h1, h2⟩ := wt_pk h
  exact ⟨p, .agg h1.agg, h2⟩
theorem packetBuilds_of {l0 l1 : List D} (h0 : wt tys 8 27 l0) (h1 : wt tys 8 3 l1) : PSpec Tryz.prog 4 [asV true l0, asV false l1] (· = tvb true) := by
  obtain ⟨d1, rfl⟩ : ∃ d, l1 = [d] := by obtain ⟨x, hx, _⟩ := h1; exact ⟨_, hx⟩
  obtain ⟨x1, rfl, _⟩ := wt_int (n := 7) h1
  obtain ⟨p, h1, h2⟩ := wt_packet (n := 2) h0
  exact (builds8_spec p h2 x1).argsC ⟨h1, .refl _, trivial⟩
end Go.Proofs.YtcdondbegnbdgaaGreatDoor
