/- Chapter 6: the document's answer, and what the statements are made of: contracts. -/
import Derived.Test.YtbgimjkaecfjfaaDoorTlvI
import Derived.Test.YtbgimjkaecfjfaaDoorTlvG
namespace Go.Proofs.YtbgimjkaecfjfaaDoor
open Go Go.RowKit Towline Towline.Tlv
set_option linter.unusedVariables false
set_option linter.unusedSimpArgs false
set_option maxRecDepth 20000
set_option maxHeartbeats 4000000
def padI (n : Int) : Int := if n < 0 then 0 else padN n.toNat
theorem padI_nat (n : Nat) : padI n = padN n := by
  unfold padI
  rw [if_neg (by omega), Int.toNat_natCast]
theorem and3' (n : Nat) (h : n < 2 ^ 63) : bitsOp .and .i64 (0 - n) 3 = padN n := by
  unfold bitsOp
  simp only
  have h1 : (BitVec.ofInt IntKind.i64.bits (0 - (n : Int)) &&& BitVec.ofInt IntKind.i64.bits 3).toNat = padN n := by
    rw [BitVec.toNat_and]
    have e3 : (BitVec.ofInt IntKind.i64.bits 3).toNat = 2 ^ 2 - 1 := by decide
    rw [e3, Nat.and_two_pow_sub_one_eq_mod]
    rw [BitVec.toNat_ofInt]
    have e4 : ((2 ^ IntKind.i64.bits : Nat) : Int) = 18446744073709551616 := by decide
    rw [e4]
    unfold padN
    omega
  rw [h1]
  have : padN n < 4 := Nat.mod_lt _ (by decide)
  exact IntWalk.i64_in _ (by omega)
theorem padI_spec (n : Int) (h : n < 2 ^ 63) : PSpec Tryd.prog 17 [tvi n] (· = tvi (padI n)) := by
  refine PSpec.run (tysOk) followsB Tryd.func17 (by decide) rfl Tryd.ntmps17 (Nat.le_of_ble_eq_true rfl) rfl fun w0 R0 => ?_
  conv => whnf
  refine ⟨by first | omega | (simp only [Int.toNat_natCast]; omega) | (simp; done) | (simp; omega), ?_⟩
  conv => whnf
  have e : max n 0 = (n.toNat : Int) := by omega
  rw [e, and3' n.toNat (by omega)]
  have e2 : padI n = padN n.toNat := by
    unfold padI
    split
    · rename_i h
      rw [show n.toNat = 0 from by omega]
      rfl
    · rfl
  rw [e2]
  exact ⟨_, .refl _, rfl, rfl⟩
theorem tmod_nat (m k : Nat) : ((m : Int).tmod (k : Int)) = ((m % k : Nat) : Int) := by
  rw [Int.tmod_eq_emod_of_nonneg (by omega)]
  omega
theorem rpad_spec (n : Int) (h : n < 2 ^ 63) : PSpec Tryd.prog 23 [tvi n] (· = tvi (padI n)) := by
  refine PSpec.run (tysOk) followsB Tryd.func23 (by decide) rfl Tryd.ntmps23 (Nat.le_of_ble_eq_true rfl) rfl fun w0 R0 => ?_
  conv => whnf
  split <;> rename_i g
  · replace g := of_decide_eq_true g
    try simp only [Int.toNat_natCast] at g
    conv => whnf
    rw [show padI n = 0 from if_pos g]
    exact ⟨_, .refl _, rfl, rfl⟩
  · replace g := of_decide_eq_false g
    try simp only [Int.toNat_natCast] at g
    obtain ⟨m, rfl⟩ : ∃ m : Nat, n = m := ⟨n.toNat, by omega⟩
    rw [padI_nat]
    conv => whnf
    rw [show ((m : Int).tmod 4) = ((m % 4 : Nat) : Int) from tmod_nat m 4]
    repeat (refine ⟨by first | decide | omega, ?_⟩; conv => whnf)
    rw [show (4 - ((m % 4 : Nat) : Int)) = ((4 - m % 4 : Nat) : Int) from by omega, show ((4 - m % 4 : Nat) : Int).tmod 4 = _ from tmod_nat _ 4]
    exact ⟨_, .refl _, rfl, rfl⟩
theorem noughts_spec (n : Nat) (h : n ≤ 3) : PSpec Tryd.prog 25 [tvi n] (· = tvs (List.replicate n 0)) := by
  refine PSpec.run (tysOk) followsB Tryd.func25 (by decide) rfl Tryd.ntmps25 (Nat.le_of_ble_eq_true rfl) rfl fun w0 R0 => ?_
  conv => whnf
  refine ⟨⟨by omega, show (n : Int) ≤ 3 from by omega⟩, ?_⟩
  conv => whnf
  have e : cutS ({ data := #[0, 0, 0] : ByteArray }.data.toList) none (some (n : Int)) = List.replicate n 0 := by
    match n, h with
    | 0, _ => rfl
    | 1, _ => rfl
    | 2, _ => rfl
    | 3, _ => rfl
  rw [e]
  exact ⟨_, .refl _, rfl, rfl⟩
def rbadTy (x : Tlv.It) : Bool := badTy x
theorem find1_spec (x : Tlv.It) (kind : Int) : PSpec Tryd.prog 34 [iA x, .eptr 1 1 (fun _ => [.i .i64 kind]) 0 0] (· = tvb (x.ty == kind)) := by
  refine PSpec.run (tysOk) followsB Tryd.func34 (by decide) rfl Tryd.ntmps34 (Nat.le_of_ble_eq_true rfl) rfl fun w0 R0 => ?_
  conv => whnf
  exact ⟨_, .refl _, rfl, rfl⟩
theorem indexC_spec (g n1 : Nat) (f1 : Nat → List D) (keep : Tlv.It → Bool) (l : List Tlv.It) (h4 : l.length ≤ 2 ^ 40)
    (hk : ∀ m, PSpec Tryd.prog g [iA m, .eptr n1 1 f1 0 0] (· = tvb (keep m))) :
    PSpec Tryd.prog 33 [.d (slT 2 encI l), .fn g [.eptr n1 1 f1 0 0]] (· = tvi (if l.findIdx keep < l.length then l.findIdx keep else -1)) := by
  refine PSpec.run (tysOk) followsB Tryd.func33 (by decide) rfl Tryd.ntmps33 (Nat.le_of_ble_eq_true rfl) rfl fun w0 R0 => ?_
  conv => whnf
  refine ALoop.introR tysOk followsB (fun k : {k // k ≤ l.length ∧ ∀ j, j < k → keep (l.getD j default) = false} => ([(0, .d (slT 2 encI l)), (1, .fn g [.eptr n1 1 f1 0 0]), (7, tvi l.length), (8, tvi k.1)], [])) (fun k => l.length - k.1) ⟨0, by omega, fun j hj => by omega⟩ ?_ ?_
  · exact ⟨.refl _, .refl _, .refl _, .refl _, trivial⟩
  · rintro ⟨k, hk1, hk2⟩
    dsimp only
    conv => whnf
    split <;> rename_i h1
    · have hlt : k < l.length := by simpa using h1
      conv => whnf
      refine ⟨by first | omega | (simp only [Int.toNat_natCast]; omega) | (simp; done) | (simp; omega), ?_⟩
      conv => whnf
      refine ⟨_, hk (l.getD k default), ?_⟩
      rintro q rfl
      conv => whnf
      split <;> rename_i h2
      · have h2 : keep (l.getD k default) = true := h2
        conv => whnf
        rw [findIdx_is hlt h2 hk2, if_pos hlt]
        exact ⟨_, .refl _, rfl, rfl⟩
      · have h2 : keep (l.getD k default) = false := h2
        conv => whnf
        refine ⟨by first | omega | (simp only [Int.toNat_natCast]; omega) | (simp; done) | (simp; omega), ?_⟩
        conv => whnf
        refine ⟨⟨k + 1, by omega, fun j hj => ?_⟩, [], by dsimp only; omega, .refl _, .refl _, .refl _, .refl _, trivial⟩
        rcases Nat.lt_or_eq_of_le (show j ≤ k from by omega) with h | rfl
        · exact hk2 j h
        · exact h2
    · have hlt : ¬ k < l.length := by simpa using h1
      obtain rfl : k = l.length := by omega
      conv => whnf
      rw [if_neg (findIdx_no hk2)]
      exact ⟨_, .refl _, rfl, rfl⟩
theorem find_spec (l : List Tlv.It) (kind : Int) (h4 : l.length ≤ 2 ^ 40) : PSpec Tryd.prog 19 [.d (slT 2 encI l), tvi kind] (· = .tup [tvs (findL l kind).1, tvb (findL l kind).2]) := by
  refine PSpec.run (tysOk) followsB Tryd.func19 (by decide) rfl Tryd.ntmps19 (Nat.le_of_ble_eq_true rfl) rfl fun w0 R0 => ?_
  conv => whnf
  refine ⟨_, indexC_spec _ _ _ (fun x => x.ty == kind) l h4 fun m => find1_spec m kind, ?_⟩
  rintro q rfl
  conv => whnf
  by_cases hn : l.findIdx (fun x => x.ty == kind) < l.length
  · rw [if_pos hn]
    rw [show findL l kind = ((l.getD (l.findIdx (fun x => x.ty == kind)) default).v, true) from if_pos hn]
    split <;> rename_i h1
    · replace h1 := of_decide_eq_true h1
      try simp only [Int.toNat_natCast] at h1
      omega
    · conv => whnf
      refine ⟨by first | omega | (simp only [Int.toNat_natCast]; omega) | (simp; done) | (simp; omega), ?_⟩
      conv => whnf
      exact ⟨_, .refl _, rfl, rfl⟩
  · rw [if_neg hn]
    rw [show findL l kind = ([], false) from if_neg hn]
    conv => whnf
    exact ⟨_, .refl _, rfl, rfl⟩
theorem rfind_spec (l : List Tlv.It) (kind : Int) (h4 : l.length ≤ 2 ^ 40) : PSpec Tryd.prog 21 [.d (slT 2 encI l), tvi kind] (· = .tup [tvs (findL l kind).1, tvb (findL l kind).2]) := by
  refine PSpec.run (tysOk) followsB Tryd.func21 (by decide) rfl Tryd.ntmps21 (Nat.le_of_ble_eq_true rfl) rfl fun w0 R0 => ?_
  conv => whnf
  refine ALoop.introR tysOk followsB (fun k : {k // k ≤ l.length ∧ ∀ j, j < k → ((l.getD j default).ty == kind) = false} => ([(0, .d (slT 2 encI l)), (1, tvi kind), (6, tvi k.1)], [])) (fun k => l.length - k.1) ⟨0, by omega, fun j hj => by omega⟩ ?_ ?_
  · exact ⟨.refl _, .refl _, .refl _, trivial⟩
  · rintro ⟨k, hk1, hk2⟩
    dsimp only
    conv => whnf
    split <;> rename_i h1
    · have hlt : k < l.length := by simpa using h1
      conv => whnf
      refine ⟨by first | omega | (simp only [Int.toNat_natCast]; omega) | (simp; done) | (simp; omega), ?_⟩
      conv => whnf
      split <;> rename_i h2
      · have h2 : ((l.getD k default).ty == kind) = true := h2
        conv => whnf
        refine ⟨by first | omega | (simp only [Int.toNat_natCast]; omega) | (simp; done) | (simp; omega), ?_⟩
        conv => whnf
        rw [show findL l kind = ((l.getD k default).v, true) from by unfold findL; rw [findIdx_is hlt h2 hk2, if_pos hlt]]
        exact ⟨_, .refl _, rfl, rfl⟩
      · have h2 : ((l.getD k default).ty == kind) = false := h2
        conv => whnf
        refine ⟨by first | omega | (simp only [Int.toNat_natCast]; omega) | (simp; done) | (simp; omega), ?_⟩
        conv => whnf
        refine ⟨⟨k + 1, by omega, fun j hj => ?_⟩, [], by dsimp only; omega, .refl _, .refl _, .refl _, trivial⟩
        rcases Nat.lt_or_eq_of_le (show j ≤ k from by omega) with h | rfl
        · exact hk2 j h
        · exact h2
    · have hlt : ¬ k < l.length := by simpa using h1
      obtain rfl : k = l.length := by omega
      conv => whnf
      rw [show findL l kind = ([], false) from if_neg (findIdx_no hk2)]
      exact ⟨_, .refl _, rfl, rfl⟩
theorem ract_spec (n : Int) : PSpec Tryd.prog 22 [tvi n] (· = .tup [tvb (actB n).1, tvb (actB n).2]) := by
  refine PSpec.run (tysOk) followsB Tryd.func22 (by decide) rfl Tryd.ntmps22 (Nat.le_of_ble_eq_true rfl) rfl fun w0 R0 => ?_
  conv => whnf
  split <;> rename_i g1
  · have g1 := of_decide_eq_true g1
    conv => whnf
    rw [show actB n = (false, false) from by unfold actB; rw [if_pos (.inl g1)]]
    exact ⟨_, .refl _, rfl, rfl⟩
  have g1 := of_decide_eq_false g1
  conv => whnf
  split <;> rename_i g2
  · have g2 := of_decide_eq_true g2
    conv => whnf
    rw [show actB n = (false, false) from by unfold actB; rw [if_pos (.inr g2)]]
    exact ⟨_, .refl _, rfl, rfl⟩
  have g2 := of_decide_eq_false g2
  conv => whnf
  repeat (refine ⟨by first | decide | omega, ?_⟩; conv => whnf)
  rw [show actB n = (decide (32768 ≤ n), decide (n / 16384 % 2 = 1)) from by unfold actB; rw [if_neg (by omega)]]
  obtain ⟨m, rfl⟩ : ∃ m : Nat, n = m := ⟨n.toNat, by omega⟩
  have e1 : IntKind.i64.wrap ((m : Int).tdiv 16384) = ((m / 16384 : Nat) : Int) := by
    rw [Int.tdiv_eq_ediv_of_nonneg (by omega), IntWalk.i64_in _ (by omega)]
    omega
  rw [e1, show (2 : Int) = ((2 : Nat) : Int) from rfl, tmod_nat]
  refine ⟨_, .refl _, ?_, rfl⟩
  congr 2
end Go.Proofs.YtbgimjkaecfjfaaDoor
