/- Chapter 6: the first item; what is done with a type; contracts. -/
import Derived.Test.YtcdondbegnbdgaaDoorTlvD
namespace Go.Proofs.YtcdondbegnbdgaaDoor
open Go Go.RowKit Towline Towline.Tlv
set_option linter.unusedVariables false
set_option linter.unusedSimpArgs false
set_option maxRecDepth 20000
set_option maxHeartbeats 4000000
theorem trim_spec (t : List UInt8) (h : t.length ≤ 2 ^ 62) : PSpec Tryd.prog 44 [tvs t, tvs [0]] (· = tvs (Lib.trimB t 0)) := by
  refine ⟨⟨_, _, Tryd.func44, by decide, rfl⟩, fun w R vs hR hz ha => ?_⟩
  have h0 := repA_s (ha 0 _ rfl)
  have h1 := repA_s (ha 1 _ rfl)
  obtain ⟨v0, v1, rfl⟩ : ∃ v0 v1, vs = #[v0, v1] := by
    obtain ⟨l⟩ := vs
    match l, hz with
    | [x, y], _ => exact ⟨x, y, rfl⟩
  have h0 : v0 = .string ⟨t.toArray⟩ := h0
  have h1 : v1 = .string ⟨[0].toArray⟩ := h1
  subst h0; subst h1
  refine (Tryd.strings_Trim_one ⟨t.toArray⟩ 0 (by decide) w (by show t.toArray.size ≤ _; simp; omega)).mono ?_
  rintro e w' ⟨rfl, hb⟩
  refine ⟨_, tvs (Lib.trimB t 0), rfl, rfl, ?_, rfl, .d (.s _)⟩
  rcases hb with rfl | rfl
  · exact Below.refl _ _
  · exact (Below.refl _ _).drew
theorem or256 (a b : UInt8) : bitsOp .or .i64 (shlOp .i64 (a.toNat : Int) 8) b.toNat = ((a.toNat * 256 + b.toNat : Nat) : Int) := by
  have ha := UInt8.toNat_lt a
  have hb := UInt8.toNat_lt b
  have e0 : shlOp .i64 (a.toNat : Int) 8 = ((a.toNat * 256 : Nat) : Int) := by
    show IntKind.i64.wrap ((a.toNat : Int) * 2 ^ min (Int.toNat 8) IntKind.i64.bits) = _
    rw [show ((2 : Int) ^ min (Int.toNat 8) IntKind.i64.bits) = 256 from by decide, IntWalk.i64_in _ (by omega)]
    omega
  rw [e0]
  unfold bitsOp
  simp only
  have h1 : (BitVec.ofInt IntKind.i64.bits ((a.toNat * 256 : Nat) : Int) ||| BitVec.ofInt IntKind.i64.bits (b.toNat : Int)).toNat = a.toNat * 256 + b.toNat := by
    rw [BitVec.toNat_or, BitVec.toNat_ofInt, BitVec.toNat_ofInt]
    have e4 : ((2 ^ IntKind.i64.bits : Nat) : Int) = 18446744073709551616 := by decide
    rw [e4]
    have e5 : (((a.toNat * 256 : Nat) : Int) % 18446744073709551616).toNat = a.toNat * 256 := by omega
    have e6 : (((b.toNat : Nat) : Int) % 18446744073709551616).toNat = b.toNat := by omega
    rw [e5, e6]
    have := Nat.shiftLeft_add_eq_or_of_lt (i := 8) (show b.toNat < 2 ^ 8 from hb) a.toNat
    rw [Nat.shiftLeft_eq] at this
    exact this.symm
  rw [h1]
  exact IntWalk.i64_in _ (by omega)
theorem first_spec (s : List UInt8) (h : s.length ≤ 2 ^ 40) : PSpec Tryd.prog 91 [tvs s] (· = .tup [iA (firstL s).1, tvi (firstL s).2.1, tvi (firstL s).2.2]) := by
  refine PSpec.run (tysOk) followsB Tryd.func91 (by decide) rfl Tryd.ntmps91 (Nat.le_of_ble_eq_true rfl) rfl fun w0 R0 => ?_
  conv => whnf
  split <;> rename_i g1
  · have g1 : s.length < 4 := by
      have := of_decide_eq_true g1
      omega
    conv => whnf
    rw [show firstL s = (⟨0, []⟩, 0, 3) from by unfold firstL; rw [if_pos g1]]
    exact ⟨_, .refl _, rfl, rfl⟩
  have g1 : ¬ s.length < 4 := by
    have := of_decide_eq_false g1
    omega
  have q2 := UInt8.toNat_lt (s.getD (Int.toNat 2) 0)
  have q3 := UInt8.toNat_lt (s.getD (Int.toNat 3) 0)
  conv => whnf
  repeat (refine ⟨by first | decide | omega | (simp only [shlOp]; omega), ?_⟩; conv => whnf)
  refine ⟨by kernel_rfl, ?_⟩
  conv => whnf
  rw [or256]
  rw [show (s.getD (Int.toNat 2) 0).toNat * 256 + (s.getD (Int.toNat 3) 0).toNat = b2 s 2 from rfl]
  have hb2 : b2 s 2 < 65536 := by
    show (s.getD (Int.toNat 2) 0).toNat * 256 + (s.getD (Int.toNat 3) 0).toNat < 65536
    omega
  conv => whnf
  split <;> rename_i g2
  · have g2 : b2 s 2 < 4 := by
      have := of_decide_eq_true g2
      omega
    conv => whnf
    rw [show firstL s = (⟨0, []⟩, 0, 2) from by unfold firstL; rw [if_neg g1, if_pos g2]]
    exact ⟨_, .refl _, rfl, rfl⟩
  have g2 : ¬ b2 s 2 < 4 := by
    have := of_decide_eq_false g2
    omega
  conv => whnf
  split <;> rename_i g3
  · have g3 : s.length < b2 s 2 := by
      have := of_decide_eq_true g3
      omega
    conv => whnf
    rw [show firstL s = (⟨0, []⟩, 0, 3) from by unfold firstL; rw [if_neg g1, if_neg g2, if_pos g3]]
    exact ⟨_, .refl _, rfl, rfl⟩
  have g3 : ¬ s.length < b2 s 2 := by
    have := of_decide_eq_false g3
    omega
  conv => whnf
  refine ⟨by first | omega | (simp only [Int.toNat_natCast]; omega) | (simp; done) | (simp; omega), ?_⟩
  conv => whnf
  split <;> rename_i g4
  · have g4 : 1404 < b2 s 2 := by
      have := of_decide_eq_true g4
      omega
    conv => whnf
    rw [show firstL s = (⟨0, []⟩, 0, 4) from by unfold firstL; rw [if_neg g1, if_neg g2, if_neg g3, if_pos g4]]
    exact ⟨_, .refl _, rfl, rfl⟩
  have g4 : ¬ 1404 < b2 s 2 := by
    have := of_decide_eq_false g4
    omega
  conv => whnf
  refine ⟨_, pad_spec (b2 s 2) (by omega), ?_⟩
  rintro q rfl
  conv => whnf
  have hpad : padN (b2 s 2) < 4 := Nat.mod_lt _ (by decide)
  have hend : (endN s : Int) = min ((b2 s 2 : Int) + padN (b2 s 2)) s.length := by unfold endN; omega
  repeat (refine ⟨by first | decide | omega, ?_⟩; conv => whnf)
  have hcut : cutS s (some ↑(b2 s 2)) (some (min (↑(b2 s 2) + ↑(padN (b2 s 2))) ↑s.length)) = (s.take (endN s)).drop (b2 s 2) := by
    rw [← hend]
    rfl
  rw [hcut]
  have ht := trim_all ((s.take (endN s)).drop (b2 s 2))
  refine ⟨_, trim_spec ((s.take (endN s)).drop (b2 s 2)) (by rw [List.length_drop, List.length_take]; omega), ?_⟩
  rintro q rfl
  conv => whnf
  by_cases g5 : ((s.take (endN s)).drop (b2 s 2)).any (· != 0) = true
  · rw [show (Lib.trimB ((s.take (endN s)).drop (b2 s 2)) 0 != { data := #[] : ByteArray }.data.toList) = true from by
      rw [bne_iff_ne]
      intro e
      have h1 := ht.1 e
      rw [List.any_eq_true] at g5
      obtain ⟨x, hx, hx2⟩ := g5
      rw [h1 x hx] at hx2
      cases hx2]
    conv => whnf
    rw [show firstL s = (⟨0, []⟩, 0, 2) from by unfold firstL; rw [if_neg g1, if_neg g2, if_neg g3, if_neg g4, if_pos g5]]
    exact ⟨_, .refl _, rfl, rfl⟩
  rw [show (Lib.trimB ((s.take (endN s)).drop (b2 s 2)) 0 != { data := #[] : ByteArray }.data.toList) = false from by
    rw [bne_eq_false_iff_eq]
    refine ht.2 fun x hx => ?_
    rw [Bool.not_eq_true, List.any_eq_false] at g5
    simpa using g5 x hx]
  conv => whnf
  have q0 := UInt8.toNat_lt (s.getD (Int.toNat 0) 0)
  have q1 := UInt8.toNat_lt (s.getD (Int.toNat 1) 0)
  repeat (refine ⟨by first | decide | omega | (simp only [shlOp]; omega), ?_⟩; conv => whnf)
  refine ⟨by kernel_rfl, ?_⟩
  conv => whnf
  rw [or256]
  rw [show firstL s = (⟨b2 s 0, (s.take (b2 s 2)).drop 4⟩, endN s, 0) from by unfold firstL; rw [if_neg g1, if_neg g2, if_neg g3, if_neg g4, if_neg g5]]
  refine ⟨_, ?_, rfl, rfl⟩
  exact .tup ⟨.agg ⟨.of_eq rfl, .of_eq rfl, trivial⟩, .of_eq (by rw [hend]), .refl _, trivial⟩
end Go.Proofs.YtcdondbegnbdgaaDoor
