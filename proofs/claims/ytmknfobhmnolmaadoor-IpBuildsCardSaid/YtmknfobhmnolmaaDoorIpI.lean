/- Chapter 5: Parse: contract. -/
import Derived.Test.YtmknfobhmnolmaaDoorIpH
namespace Go.Proofs.YtmknfobhmnolmaaDoor
open Go Go.RowKit Towline Towline.Ip
set_option linter.unusedVariables false
set_option linter.unusedSimpArgs false
set_option maxRecDepth 20000
set_option maxHeartbeats 4000000
theorem shr4u (n : Nat) : shrOp .u8 (n : Int) 4 = ((n / 16 : Nat) : Int) := by
  unfold shrOp
  simp
  rw [show ((2 : Int) ^ min 4 IntKind.u8.bits) = 16 from by decide, Int.fdiv_eq_ediv_of_nonneg _ (by decide)]
theorem parse5_spec (d : List UInt8) (hd : d.length ≤ 2 ^ 30) : PSpec Tryd.prog 16 [tvs d] (· = tupP (parseH d)) := by
  refine PSpec.run (tysOk) followsB Tryd.func16 (by decide) rfl Tryd.ntmps16 (Nat.le_of_ble_eq_true rfl) rfl fun w0 R0 hG => ?_
  conv => whnf
  by_cases h0 : d.length = 0
  · have : d = [] := List.eq_nil_of_length_eq_zero h0
    subst this
    conv => whnf
    exact ⟨_, .refl _, rfl, rfl⟩
  rw [show (d == ({ data := #[] } : ByteArray).data.toList) = false from beq_eq_false_iff_ne.2 fun e => h0 (by rw [e]; rfl)]
  conv => whnf
  refine ⟨by first | omega | (simp only [Int.toNat_natCast]; omega) | (simp; done) | (simp; omega), ?_⟩
  conv => whnf
  refine ⟨by first | omega | (simp only [Int.toNat_natCast]; omega) | (simp; done) | (simp; omega), ?_⟩
  conv => whnf
  rw [shr4u]
  have p4 := parse45_spec d hd
  have p6 := parse65_spec d hd
  by_cases g4 : at8 d 0 / 16 = 4
  · rw [show parse4 d = parseH d from by unfold parseH; rw [if_neg h0, if_pos g4]] at p4
    rw [show ((((d.getD (Int.toNat 0) 0).toNat / 16 : Nat) : Int) == 4) = true from beq_iff_eq.2 (by show ((at8 d 0 / 16 : Nat) : Int) = 4; omega)]
    conv => whnf
    refine ⟨_, p4, ?_⟩
    rintro q rfl
    conv => whnf
    exact ⟨_, .refl _, rfl, rfl⟩
  rw [show ((((d.getD (Int.toNat 0) 0).toNat / 16 : Nat) : Int) == 4) = false from beq_eq_false_iff_ne.2 (by show ((at8 d 0 / 16 : Nat) : Int) ≠ 4; omega)]
  conv => whnf
  by_cases g6 : at8 d 0 / 16 = 6
  · rw [show parse6 d = parseH d from by unfold parseH; rw [if_neg h0, if_neg g4, if_pos g6]] at p6
    rw [show ((((d.getD (Int.toNat 0) 0).toNat / 16 : Nat) : Int) == 6) = true from beq_iff_eq.2 (by show ((at8 d 0 / 16 : Nat) : Int) = 6; omega)]
    conv => whnf
    refine ⟨_, p6, ?_⟩
    rintro q rfl
    conv => whnf
    exact ⟨_, .refl _, rfl, rfl⟩
  rw [show ((((d.getD (Int.toNat 0) 0).toNat / 16 : Nat) : Int) == 6) = false from beq_eq_false_iff_ne.2 (by show ((at8 d 0 / 16 : Nat) : Int) ≠ 6; omega)]
  conv => whnf
  rw [show parseH d = (nilHd, [], 2) from by unfold parseH; rw [if_neg h0, if_neg g4, if_neg g6]]
  exact ⟨_, .refl _, rfl, rfl⟩
end Go.Proofs.YtmknfobhmnolmaaDoor
