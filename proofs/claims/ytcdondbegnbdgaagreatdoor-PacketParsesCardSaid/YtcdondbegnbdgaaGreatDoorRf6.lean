/- Chapter 6, the document's answer, for the chapters above it: contracts. Printed by genRf6.py. -/
import Derived.Test.YtcdondbegnbdgaaGreatDoorChF
import Derived.Test.YtcdondbegnbdgaaGreatDoorTlvI
namespace Go.Proofs.YtcdondbegnbdgaaGreatDoor
open Go Go.RowKit Towline Towline.Tlv Towline.Chunk
set_option linter.unusedVariables false
set_option linter.unusedSimpArgs false
set_option maxRecDepth 20000
set_option maxHeartbeats 4000000
def padI (n : Int) : Int := if n < 0 then 0 else padN n.toNat
theorem padI_nat (n : Nat) : padI n = padN n := by
  unfold padI
  rw [if_neg (by omega), Int.toNat_natCast]
theorem and3' (n : Nat) (h : n < 2 ^ 63) : bitsOp .and .i64 (0 - n) 3 = padN n := by
  unfold bitsOp
  simp only
  have h1 : (BitVec.ofInt IntKind.i64.bits (0 - (n : Int)) &&& BitVec.ofInt IntKind.i64.bits 3).toNat = padN n := by
    rw [BitVec.toNat_and]
    have e3 : (BitVec.ofInt IntKind.i64.bits 3).toNat = 2 ^ 2 - 1 := by decide
    rw [e3, Nat.and_two_pow_sub_one_eq_mod]
    rw [BitVec.toNat_ofInt]
    have e4 : ((2 ^ IntKind.i64.bits : Nat) : Int) = 18446744073709551616 := by decide
    rw [e4]
    unfold padN
    omega
  rw [h1]
  have : padN n < 4 := Nat.mod_lt _ (by decide)
  exact IntWalk.i64_in _ (by omega)
theorem tmod_nat (m k : Nat) : ((m : Int).tmod (k : Int)) = ((m % k : Nat) : Int) := by
  rw [Int.tmod_eq_emod_of_nonneg (by omega)]
  omega
theorem rpad_spec (n : Int) (h : n < 2 ^ 63) : PSpec Tryz.prog 50 [tvi n] (· = tvi (padI n)) := by
  refine PSpec.run (tysOk) followsB Tryz.func50 (by decide) rfl Tryz.ntmps50 (Nat.le_of_ble_eq_true rfl) rfl fun w0 R0 => ?_
  conv => whnf
  split <;> rename_i g
  · replace g := of_decide_eq_true g
    try simp only [Int.toNat_natCast] at g
    conv => whnf
    rw [show padI n = 0 from if_pos g]
    exact ⟨_, .refl _, rfl, rfl⟩
  · replace g := of_decide_eq_false g
    try simp only [Int.toNat_natCast] at g
    obtain ⟨m, rfl⟩ : ∃ m : Nat, n = m := ⟨n.toNat, by omega⟩
    rw [padI_nat]
    conv => whnf
    rw [show ((m : Int).tmod 4) = ((m % 4 : Nat) : Int) from tmod_nat m 4]
    repeat (refine ⟨by first | decide | omega, ?_⟩; conv => whnf)
    rw [show (4 - ((m % 4 : Nat) : Int)) = ((4 - m % 4 : Nat) : Int) from by omega, show ((4 - m % 4 : Nat) : Int).tmod 4 = _ from tmod_nat _ 4]
    exact ⟨_, .refl _, rfl, rfl⟩
theorem noughts_spec (n : Nat) (h : n ≤ 3) : PSpec Tryz.prog 109 [tvi n] (· = tvs (List.replicate n 0)) := by
  refine PSpec.run (tysOk) followsB Tryz.func109 (by decide) rfl Tryz.ntmps109 (Nat.le_of_ble_eq_true rfl) rfl fun w0 R0 => ?_
  conv => whnf
  refine ⟨⟨by omega, show (n : Int) ≤ 3 from by omega⟩, ?_⟩
  conv => whnf
  have e : cutS ({ data := #[0, 0, 0] : ByteArray }.data.toList) none (some (n : Int)) = List.replicate n 0 := by
    match n, h with
    | 0, _ => rfl
    | 1, _ => rfl
    | 2, _ => rfl
    | 3, _ => rfl
  rw [e]
  exact ⟨_, .refl _, rfl, rfl⟩
theorem rhdr_row (x : Tlv.It) (h0 : 0 ≤ x.ty ∧ x.ty ≤ 65535) (hv : x.v.length ≤ 1400) : ∀ j, j < 4 → ([D.i .u8 (IntKind.u8.wrap (IntKind.i64.wrap (x.ty.tdiv 256)))] :: [D.i .u8 (IntKind.u8.wrap x.ty)] :: [D.i .u8 (IntKind.u8.wrap (IntKind.i64.wrap ((x.v.length + 4 : Int).tdiv 256)))] :: [D.i .u8 (IntKind.u8.wrap (x.v.length + 4))] :: replF 0 ty5.zero).getD (0 + j) [] = bytesF (hdr x) j := by
  intro j hj
  have e1 : IntKind.i64.wrap (x.ty.tdiv 256) = x.ty.fdiv 256 := by
    rw [Int.tdiv_eq_ediv_of_nonneg h0.1, Int.fdiv_eq_ediv_of_nonneg _ (by decide), IntWalk.i64_in _ (by omega)]
  have e2 : IntKind.i64.wrap ((x.v.length + 4 : Int).tdiv 256) = ((x.v.length + 4 : Nat) : Int).fdiv 256 := by
    rw [Int.tdiv_eq_ediv_of_nonneg (by omega), Int.fdiv_eq_ediv_of_nonneg _ (by decide), IntWalk.i64_in _ (by omega)]
    rfl
  rw [e1, e2, Nat.zero_add]
  match j, hj with
  | 0, _ => show [D.i .u8 (IntKind.u8.wrap (x.ty.fdiv 256))] = [D.i .u8 ((u8 (x.ty.fdiv 256)).toNat : Nat)]; rw [u8_wrap]
  | 1, _ => show [D.i .u8 (IntKind.u8.wrap x.ty)] = [D.i .u8 ((u8 x.ty).toNat : Nat)]; rw [u8_wrap]
  | 2, _ => show [D.i .u8 (IntKind.u8.wrap (((x.v.length + 4 : Nat) : Int).fdiv 256))] = [D.i .u8 ((u8 (((x.v.length + 4 : Nat) : Int).fdiv 256)).toNat : Nat)]; rw [u8_wrap]
  | 3, _ => show [D.i .u8 (IntKind.u8.wrap (x.v.length + 4 : Int))] = [D.i .u8 ((u8 ((x.v.length + 4 : Nat) : Int)).toNat : Nat)]; rw [u8_wrap]; rfl
theorem pad4 (n : Nat) : padN (n + 4) = padN n := by unfold padN; omega
/-- The noughts behind an item, as the document cuts them out. -/
theorem cut_pad (s : List UInt8) (k : Nat) (hk : k ≤ s.length) (hn : b2 (s.drop k) 2 ≤ (s.drop k).length) (m : Nat) (hm : m = min (padN (b2 (s.drop k) 2)) (s.length - k - b2 (s.drop k) 2)) :
    ((s.take (k + b2 (s.drop k) 2 + m)).drop (k + b2 (s.drop k) 2) != List.replicate m 0) = (((s.drop k).take (endN (s.drop k))).drop (b2 (s.drop k) 2)).any (· != 0) ∧ endN (s.drop k) = b2 (s.drop k) 2 + m := by
  have hd : (s.drop k).length = s.length - k := List.length_drop
  have he : endN (s.drop k) = b2 (s.drop k) 2 + m := by
    unfold endN
    omega
  refine ⟨?_, he⟩
  have e1 : (s.take (k + b2 (s.drop k) 2 + m)).drop (k + b2 (s.drop k) 2) = (s.drop (k + b2 (s.drop k) 2)).take m := by
    rw [List.drop_take]
    congr 1
    omega
  have e2 : ((s.drop k).take (endN (s.drop k))).drop (b2 (s.drop k) 2) = (s.drop (k + b2 (s.drop k) 2)).take m := by
    rw [List.drop_take, List.drop_drop, he]
    congr 1
    omega
  rw [e1, e2]
  have hl : ((s.drop (k + b2 (s.drop k) 2)).take m).length = m := by
    rw [List.length_take, List.length_drop]
    omega
  rw [Bool.eq_iff_iff, bne_iff_ne, List.any_eq_true, ne_eq, List.eq_replicate_iff]
  constructor
  · intro h
    by_cases hx : ∃ x ∈ (s.drop (k + b2 (s.drop k) 2)).take m, (x != 0) = true
    · exact hx
    · exact absurd ⟨hl, fun x hx2 => Decidable.byContradiction fun hx3 => hx ⟨x, hx2, by simpa using hx3⟩⟩ h
  · rintro ⟨x, hx, hx2⟩ ⟨_, h⟩
    rw [h x hx] at hx2
    cases hx2
theorem rpadN_spec (n : Nat) (h : n < 2 ^ 62) : PSpec Tryz.prog 50 [tvi n] (· = tvi (padN n)) := by
  rw [← padI_nat]
  exact rpad_spec n (by omega)
theorem rbuild_spec (l : List Tlv.It) (h4 : l.length ≤ 2 ^ 20) : PSpec Tryz.prog 92 [.d (slT 2 encI l)] (· = .tup [tvs (buildL l).1, tvi (buildL l).2]) := by
  refine PSpec.run (tysOk) followsB Tryz.func92 (by decide) rfl Tryz.ntmps92 (Nat.le_of_ble_eq_true rfl) rfl fun w0 R0 => ?_
  conv => whnf
  refine ALoop.introR tysOk followsB (fun k : {k // k ≤ l.length ∧ ∀ j, j < k → badTy (l.getD j default) = false} => ([(0, .d (slT 2 encI l)), (4, tvi k.1)], [])) (fun k => l.length - k.1) ⟨0, by omega, fun j hj => by omega⟩ ?_ ?_
  · exact ⟨.refl _, .refl _, trivial⟩
  rintro ⟨k, hk, hall⟩
  dsimp only
  conv => whnf
  split <;> rename_i h1
  · have hlt : k < l.length := by simpa using h1
    conv => whnf
    refine ⟨by first | omega | (simp only [Int.toNat_natCast]; omega) | (simp; done) | (simp; omega), ?_⟩
    conv => whnf
    have ep : ∀ b : Bool, b = badTy (l.getD k default) → b = true → buildL l = ([], 1) := fun b hb hb2 => by
      unfold buildL
      rw [if_pos (any_true hlt (by rw [← hb, hb2]))]
    split <;> rename_i g1
    · conv => whnf
      rw [ep true (by show true = (decide ((l.getD k default).ty < 0) || decide (65535 < (l.getD k default).ty)); rw [show decide ((l.getD k default).ty < 0) = true from g1]; rfl) rfl]
      exact ⟨_, .refl _, rfl, rfl⟩
    · conv => whnf
      refine ⟨by first | omega | (simp only [Int.toNat_natCast]; omega) | (simp; done) | (simp; omega), ?_⟩
      conv => whnf
      split <;> rename_i g2
      · conv => whnf
        rw [ep true (by show true = (decide ((l.getD k default).ty < 0) || decide (65535 < (l.getD k default).ty)); rw [show decide (65535 < (l.getD k default).ty) = true from g2, Bool.or_true]) rfl]
        exact ⟨_, .refl _, rfl, rfl⟩
      · have g3 : badTy (l.getD k default) = false := by
          show (decide ((l.getD k default).ty < 0) || decide (65535 < (l.getD k default).ty)) = false
          rw [show decide ((l.getD k default).ty < 0) = false from g1, show decide (65535 < (l.getD k default).ty) = false from g2]
          rfl
        conv => whnf
        refine ⟨by first | omega | (simp only [Int.toNat_natCast]; omega) | (simp; done) | (simp; omega), ?_⟩
        conv => whnf
        refine ⟨⟨k + 1, by omega, fun j hj => ?_⟩, [], by dsimp only; omega, .refl _, .refl _, trivial⟩
        rcases Nat.lt_or_eq_of_le (show j ≤ k from by omega) with h | rfl
        · exact hall j h
        · exact g3
  · have hlt : ¬ k < l.length := by simpa using h1
    obtain rfl : k = l.length := by omega
    conv => whnf
    have h0 : l.any badTy = false := any_false hall
    refine ALoop.introR tysOk followsB (fun k : {k // k ≤ l.length ∧ ∀ j, j < k → longV (l.getD j default) = false} => ([(0, .d (slT 2 encI l)), (5, tvs (Tlv.bytes (l.take k.1))), (6, tvi k.1)], [])) (fun k => l.length - k.1) ⟨0, by omega, fun j hj => by omega⟩ ?_ ?_
    · exact ⟨.refl _, .refl _, .refl _, trivial⟩
    rintro ⟨k, hk1, hk2⟩
    dsimp only
    conv => whnf
    split <;> rename_i h1
    · have hlt : k < l.length := by simpa using h1
      conv => whnf
      refine ⟨by first | omega | (simp only [Int.toNat_natCast]; omega) | (simp; done) | (simp; omega), ?_⟩
      conv => whnf
      split <;> rename_i h2
      · conv => whnf
        rw [show buildL l = ([], 4) from by unfold buildL; rw [if_neg (by simp [h0]), if_pos (any_true hlt (decide_eq_true (Int.ofNat_lt.1 (of_decide_eq_true h2))))]]
        exact ⟨_, .refl _, rfl, rfl⟩
      · have h3 : longV (l.getD k default) = false := decide_eq_false (fun h => of_decide_eq_false h2 (Int.ofNat_lt.2 h))
        have hv : (l.getD k default).v.length ≤ 1400 := by
          have h : ¬ 1400 < (l.getD k default).v.length := of_decide_eq_false h3
          omega
        have hb := bytes_len l k (by omega) hk2
        have hpad : padN (l.getD k default).v.length < 4 := Nat.mod_lt _ (by decide)
        have hty : badTy (l.getD k default) = false := hall k hlt
        obtain ⟨a, ea⟩ : ∃ a, a = l.getD k default := ⟨_, rfl⟩
        have ht0 : 0 ≤ a.ty ∧ a.ty ≤ 65535 := by
          rw [← ea] at hty
          simp only [badTy, Bool.or_eq_false_iff, decide_eq_false_iff_not] at hty
          omega
        conv => whnf
        rw [show (l.getD (Int.toNat k) default) = a from ea.symm]
        rw [← ea] at hv hpad
        repeat (refine ⟨by first | decide | omega | (simp; omega), ?_⟩; conv => whnf)
        subst ea
        refine ⟨hdr (l.getD k default), ⟨rfl, by omega, rhdr_row (l.getD k default) ht0 hv⟩, ?_⟩
        conv => whnf
        refine ⟨by show _ + 4 ≤ _; omega, ?_⟩
        conv => whnf
        refine ⟨by rw [List.length_append]; show _ + 4 + _ ≤ _; omega, ?_⟩
        conv => whnf
        refine ⟨_, rpadN_spec (l.getD k default).v.length (by omega), ?_⟩
        conv => whnf
        refine ⟨_, noughts_spec (padN (l.getD k default).v.length) (by omega), ?_⟩
        conv => whnf
        refine ⟨by rw [List.length_append, List.length_append, List.length_replicate]; show _ + 4 + _ + _ ≤ _; omega, ?_⟩
        conv => whnf
        refine ⟨by kernel_rfl, ?_⟩
        conv => whnf
        refine ⟨by first | omega | (simp only [Int.toNat_natCast]; omega) | (simp; done) | (simp; omega), ?_⟩
        conv => whnf
        refine ⟨⟨k + 1, by omega, fun j hj => ?_⟩, [], by dsimp only; omega, .refl _, .of_eq ?_, .refl _, trivial⟩
        · rcases Nat.lt_or_eq_of_le (show j ≤ k from by omega) with h | rfl
          · exact hk2 j h
          · exact h3
        · dsimp only
          rw [bytes_take l k hlt, Tlv.enc, tailB, pad4]
          simp only [List.append_assoc]
    · have hlt : ¬ k < l.length := by simpa using h1
      obtain rfl : k = l.length := by omega
      have hlong : l.any longV = false := any_false fun j hj => hk2 j (by omega)
      rw [List.take_length]
      conv => whnf
      split <;> rename_i h5
      · replace h5 := of_decide_eq_true h5
        try simp only [Int.toNat_natCast] at h5
        conv => whnf
        rw [show buildL l = ([], 4) from by unfold buildL; rw [if_neg (by simp [h0]), if_neg (by simp [hlong]), if_pos (by omega)]]
        exact ⟨_, .refl _, rfl, rfl⟩
      · replace h5 := of_decide_eq_false h5
        try simp only [Int.toNat_natCast] at h5
        conv => whnf
        rw [show buildL l = (Tlv.bytes l, 0) from by unfold buildL; rw [if_neg (by simp [h0]), if_neg (by simp [hlong]), if_neg (by omega)]]
        exact ⟨_, .refl _, rfl, rfl⟩
end Go.Proofs.YtcdondbegnbdgaaGreatDoor
