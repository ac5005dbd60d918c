/- Chapter 7: the reader: contracts. -/
import Derived.Test.YtcdondbegnbdgaaDoorChF
import Derived.Test.YtcdondbegnbdgaaDoorTlvI
namespace Go.Proofs.YtcdondbegnbdgaaDoor
open Go Go.RowKit Towline Towline.Tlv Towline.Chunk
set_option linter.unusedVariables false
set_option linter.unusedSimpArgs false
set_option maxRecDepth 20000
set_option maxHeartbeats 4000000
abbrev rB (r : Rr) : AObj := .box [tvs r.1, tvb r.2] none
theorem or256u (n : Nat) (c : UInt8) (h : n < 16777216) : bitsOp .or .u32 (shlOp .u32 (n : Int) 8) (IntKind.u32.wrap (c.toNat : Int)) = ((n * 256 + c.toNat : Nat) : Int) := by
  have hc := UInt8.toNat_lt c
  have w : ∀ m : Nat, m < 4294967296 → IntKind.u32.wrap (m : Int) = m := fun m hm => by
    simp [IntKind.wrap, IntKind.signed, IntKind.bits]
    omega
  have e0 : shlOp .u32 (n : Int) 8 = ((n * 256 : Nat) : Int) := by
    show IntKind.u32.wrap ((n : Int) * 2 ^ min (Int.toNat 8) IntKind.u32.bits) = _
    rw [show ((2 : Int) ^ min (Int.toNat 8) IntKind.u32.bits) = 256 from by decide, show ((n : Int) * 256) = ((n * 256 : Nat) : Int) from by omega, w _ (by omega)]
  rw [e0, w _ (by omega)]
  unfold bitsOp
  simp only
  have h1 : (BitVec.ofInt IntKind.u32.bits ((n * 256 : Nat) : Int) ||| BitVec.ofInt IntKind.u32.bits (c.toNat : Int)).toNat = n * 256 + c.toNat := by
    rw [BitVec.toNat_or, BitVec.toNat_ofInt, BitVec.toNat_ofInt]
    have e4 : ((2 ^ IntKind.u32.bits : Nat) : Int) = 4294967296 := by decide
    rw [e4]
    have e5 : (((n * 256 : Nat) : Int) % 4294967296).toNat = n * 256 := by omega
    have e6 : (((c.toNat : Nat) : Int) % 4294967296).toNat = c.toNat := by omega
    rw [e5, e6]
    have := Nat.shiftLeft_add_eq_or_of_lt (i := 8) (show c.toNat < 2 ^ 8 from hc) n
    rw [Nat.shiftLeft_eq] at this
    exact this.symm
  rw [h1]
  exact w _ (by omega)
theorem beN_take (l : List UInt8) (k : Nat) (h : k < l.length) : beN (l.take (k + 1)) = beN (l.take k) * 256 + (l.getD k 0).toNat := by
  unfold beN
  rw [List.take_add_one, List.foldl_append, List.getElem?_eq_getElem h, List.getD_eq_getElem?_getD, List.getElem?_eq_getElem h]
  rfl
theorem take_spec (k : Nat) (hk : k ≤ 4) (r : Rr) (hl : r.1.length ≤ 2 ^ 40) : LSpec Tryd.prog 59 [.ptr E0 0, tvi k] [(E0, rB r)] (fun q hl => q = cv32 (tk k r).1 ∧ hl = [(E0, rB (tk k r).2)]) := by
  refine LSpec.run (tysOk) followsB Tryd.func59 (by decide) rfl Tryd.ntmps59 (Nat.le_of_ble_eq_true rfl) rfl rfl fun w0 R0 Lo => ?_
  conv => whnf
  split <;> rename_i g1
  · replace g1 := of_decide_eq_true g1
    try simp only [Int.toNat_natCast] at g1
    conv => whnf
    rw [show tk k r = (0, ([], true)) from by unfold tk; rw [if_pos (by omega)]]
    refine ⟨_, _, .refl _, ?_, rfl, rfl⟩
    exact ⟨OLe.refl _, trivial⟩
  replace g1 := of_decide_eq_false g1
  try simp only [Int.toNat_natCast] at g1
  have hlen : r.1.length ≥ k := by omega
  have htl : (r.1.take k).length = k := by rw [List.length_take]; omega
  have hcut : cutS r.1 none (some (k : Int)) = r.1.take k := by
    simp [cutS]
  conv => whnf
  refine ⟨by first | omega | (simp only [Int.toNat_natCast]; omega) | (simp; done) | (simp; omega), ?_⟩
  conv => whnf
  rw [hcut]
  refine ⟨by first | omega | (simp only [Int.toNat_natCast]; omega) | (simp; done) | (simp; omega), ?_⟩
  conv => whnf
  refine ALoop.introR tysOk followsB (fun j : {j // j ≤ k} => ([(0, .ptr E0 0), (1, tvi k), (5, cv32 (beN ((r.1.take k).take j.1) : Nat)), (27, .d (.sl 1 (r.1.take k).length (bytesF (r.1.take k)))), (28, tvi (r.1.take k).length), (29, tvi j.1)], [(E0, rB r)])) (fun j => k - j.1) ⟨0, by omega⟩ ?_ ?_
  · exact ⟨.refl _, .refl _, .refl _, .refl _, .refl _, .refl _, OLe.refl _, trivial⟩
  rintro ⟨j, hj⟩
  dsimp only
  conv => whnf
  split <;> rename_i h1
  · have hlt : j < (r.1.take k).length := by simpa using h1
    conv => whnf
    refine ⟨by first | omega | (simp only [Int.toNat_natCast]; omega) | (simp; done) | (simp; omega), ?_⟩
    conv => whnf
    have hb := beN_lt ((r.1.take k).take j) 0
    have hjl : ((r.1.take k).take j).length = j := by rw [List.length_take]; omega
    rw [hjl] at hb
    have hb2 : beN ((r.1.take k).take j) < 16777216 := by
      have h3 : 256 ^ j ≤ 256 ^ 3 := Nat.pow_le_pow_right (by decide) (by omega)
      have h4 : (256 : Nat) ^ 3 = 16777216 := by decide
      unfold beN
      omega
    refine ⟨by first | omega | (simp only [Int.toNat_natCast]; omega) | (simp; done) | (simp; omega), ?_⟩
    conv => whnf
    rw [or256u _ _ hb2]
    refine ⟨by first | omega | (simp only [Int.toNat_natCast]; omega) | (simp; done) | (simp; omega), ?_⟩
    conv => whnf
    refine ⟨⟨j + 1, by omega⟩, [], by dsimp only; omega, .refl _, .refl _, .of_eq ?_, .refl _, .refl _, .refl _, OLe.refl _, trivial⟩
    dsimp only
    rw [beN_take _ j hlt]
    rfl
  · have hlt : ¬ j < (r.1.take k).length := by simpa using h1
    obtain rfl : j = k := by omega
    conv => whnf
    refine ⟨by first | omega | (simp only [Int.toNat_natCast]; omega) | (simp; done) | (simp; omega), ?_⟩
    conv => whnf
    rw [List.take_of_length_le (show (r.1.take j).length ≤ j from by omega)]
    rw [show tk j r = (((beN (r.1.take j) : Nat) : Int), (r.1.drop j, r.2)) from by unfold tk; rw [if_neg (by omega)]]
    refine ⟨_, _, .refl _, ?_, rfl, rfl⟩
    exact ⟨OLe.refl _, trivial⟩
theorem rest_spec (r : Rr) : LSpec Tryd.prog 60 [.ptr E0 0] [(E0, rB r)] (fun q hl => q = tvs r.1 ∧ hl = [(E0, rB ([], r.2))]) := by
  refine LSpec.run (tysOk) followsB Tryd.func60 (by decide) rfl Tryd.ntmps60 (Nat.le_of_ble_eq_true rfl) rfl rfl fun w0 R0 Lo => ?_
  conv => whnf
  refine ⟨_, _, .refl _, ?_, rfl, rfl⟩
  exact ⟨OLe.refl _, trivial⟩
theorem itemsR_spec (r : Rr) : LSpec Tryd.prog 61 [.ptr E0 0] [(E0, rB r)] (fun q hl => q = .d (slT 2 encI (itemsR r).1) ∧ hl = [(E0, rB (itemsR r).2)]) := by
  obtain ⟨l, b⟩ := r
  refine LSpec.run (tysOk) followsB Tryd.func61 (by decide) rfl Tryd.ntmps61 (Nat.le_of_ble_eq_true rfl) rfl rfl fun w0 R0 Lo => ?_
  conv => whnf
  refine ⟨_, parse_spec l, ?_⟩
  rintro q rfl
  conv => whnf
  cases b
  · conv => whnf
    refine ⟨_, _, .refl _, ?_, rfl, rfl⟩
    exact ⟨OLe.refl _, trivial⟩
  · conv => whnf
    refine ⟨_, _, .refl _, ?_, rfl, rfl⟩
    exact ⟨OLe.refl _, trivial⟩
end Go.Proofs.YtcdondbegnbdgaaDoor
