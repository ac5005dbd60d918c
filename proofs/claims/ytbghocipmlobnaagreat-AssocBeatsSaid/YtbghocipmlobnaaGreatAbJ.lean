/- Chapter 19: the answers to heartbeats: contracts. -/
import Derived.Test.YtbghocipmlobnaaGreatAbI
namespace Go.Proofs.YtbghocipmlobnaaGreat
open Go Go.RowKit Towline Towline.Hand Towline.Ab
set_option linter.unusedVariables false
set_option linter.unusedSimpArgs false
set_option maxRecDepth 20000
set_option maxHeartbeats 4000000
/-- The answer to a heartbeat. -/
abbrev cHa : K := ⟨5, 0, 0, 0, 0, 0, 0, 0, 0, 0, []⟩
abbrev itV1 (v : List UInt8) : D := slT 2 encIt [⟨1, v⟩]
theorem wrap32n (n : Nat) (h : n < 4294967296) : IntKind.u32.wrap (n : Int) = n := by
  simp [IntKind.wrap, IntKind.signed, IntKind.bits]; omega
theorem or_add32 (q b k : Nat) (hb : b < 2 ^ k) (h : q * 2 ^ k + b < 4294967296) : bitsOp .or .u32 ((q * 2 ^ k : Nat) : Int) (b : Int) = ((q * 2 ^ k + b : Nat) : Int) := by
  unfold bitsOp
  simp only
  have h1 : (BitVec.ofInt IntKind.u32.bits ((q * 2 ^ k : Nat) : Int) ||| BitVec.ofInt IntKind.u32.bits (b : Int)).toNat = q * 2 ^ k + b := by
    rw [BitVec.toNat_or, BitVec.toNat_ofInt, BitVec.toNat_ofInt]
    have e4 : ((2 ^ IntKind.u32.bits : Nat) : Int) = 4294967296 := by decide
    rw [e4]
    have e5 : (((q * 2 ^ k : Nat) : Int) % 4294967296).toNat = q * 2 ^ k := by
      generalize q * 2 ^ k = m at *
      omega
    have e6 : ((b : Int) % 4294967296).toNat = b := by
      generalize q * 2 ^ k = m at *
      omega
    rw [e5, e6]
    have := Nat.shiftLeft_add_eq_or_of_lt (i := k) hb q
    rw [Nat.shiftLeft_eq] at this
    exact this.symm
  rw [h1]
  exact wrap32n _ h
theorem shl32 (a : UInt8) (k : Nat) (hk : k ≤ 24) : shlOp .u32 (IntKind.u32.wrap (a.toNat : Int)) (k : Int) = ((a.toNat * 2 ^ k : Nat) : Int) := by
  have ha := UInt8.toNat_lt a
  have h2 : a.toNat * 2 ^ k < 4294967296 := by
    have h3 : 2 ^ k ≤ 2 ^ 24 := Nat.pow_le_pow_right (by decide) hk
    have h4 : a.toNat * 2 ^ k ≤ 255 * 2 ^ 24 := Nat.mul_le_mul (by omega) h3
    omega
  rw [wrap32n _ (by omega)]
  show IntKind.u32.wrap ((a.toNat : Int) * 2 ^ min (Int.toNat k) IntKind.u32.bits) = _
  rw [show min (Int.toNat k) IntKind.u32.bits = k from by simp [IntKind.bits]; omega]
  rw [show ((a.toNat : Int) * 2 ^ k) = ((a.toNat * 2 ^ k : Nat) : Int) from by simp, wrap32n _ h2]
theorem or4n (a b c d : UInt8) : bitsOp .or .u32 (bitsOp .or .u32 (bitsOp .or .u32 (shlOp .u32 (IntKind.u32.wrap (a.toNat : Int)) 24) (shlOp .u32 (IntKind.u32.wrap (b.toNat : Int)) 16)) (shlOp .u32 (IntKind.u32.wrap (c.toNat : Int)) 8)) (IntKind.u32.wrap (d.toNat : Int)) = ((a.toNat * 16777216 + b.toNat * 65536 + c.toNat * 256 + d.toNat : Nat) : Int) := by
  have ha := UInt8.toNat_lt a
  have hb := UInt8.toNat_lt b
  have hc := UInt8.toNat_lt c
  have hd := UInt8.toNat_lt d
  rw [show (24 : Int) = ((24 : Nat) : Int) from rfl, show (16 : Int) = ((16 : Nat) : Int) from rfl, show (8 : Int) = ((8 : Nat) : Int) from rfl, shl32 a 24 (by decide), shl32 b 16 (by decide), shl32 c 8 (by decide), wrap32n d.toNat (by omega)]
  rw [or_add32 a.toNat (b.toNat * 2 ^ 16) 24 (by omega) (by omega)]
  rw [show a.toNat * 2 ^ 24 + b.toNat * 2 ^ 16 = (a.toNat * 256 + b.toNat) * 2 ^ 16 from by omega, or_add32 _ (c.toNat * 2 ^ 8) 16 (by omega) (by omega)]
  rw [show (a.toNat * 256 + b.toNat) * 2 ^ 16 + c.toNat * 2 ^ 8 = ((a.toNat * 256 + b.toNat) * 256 + c.toNat) * 2 ^ 8 from by omega, or_add32 _ d.toNat 8 (by omega) (by omega)]
theorem shr32 (n : Int) (k : Nat) (hk : k ≤ 32) : shrOp .u32 n k = n / (2 ^ k : Nat) := by
  unfold shrOp
  rw [show min (Int.toNat k) IntKind.u32.bits = k from by simp [IntKind.bits]; omega, Int.fdiv_eq_ediv_of_nonneg _ (by exact_mod_cast Nat.zero_le _)]
  simp
theorem or_back (n : Int) (h : 0 ≤ n ∧ n < 4294967296) : bitsOp .or .u32 (bitsOp .or .u32 (bitsOp .or .u32 (shlOp .u32 (IntKind.u32.wrap ((Tlv.u8 (shrOp .u32 n 24)).toNat : Int)) 24) (shlOp .u32 (IntKind.u32.wrap ((Tlv.u8 (shrOp .u32 n 16)).toNat : Int)) 16)) (shlOp .u32 (IntKind.u32.wrap ((Tlv.u8 (shrOp .u32 n 8)).toNat : Int)) 8)) (IntKind.u32.wrap ((Tlv.u8 n).toNat : Int)) = n := by
  rw [or4n]
  have e : ∀ m, ((Tlv.u8 m).toNat : Int) = m % 256 := fun m => by rw [Tlv.u8_wrap]; simp [IntKind.wrap, IntKind.signed, IntKind.bits]
  have h1 : shrOp .u32 n 24 = n / 16777216 := shr32 n 24 (by decide)
  have h2 : shrOp .u32 n 16 = n / 65536 := shr32 n 16 (by decide)
  have h3 : shrOp .u32 n 8 = n / 256 := shr32 n 8 (by decide)
  have e1 := e (shrOp .u32 n 24)
  have e2 := e (shrOp .u32 n 16)
  have e3 := e (shrOp .u32 n 8)
  have e4 := e n
  rw [h1] at e1 ⊢
  rw [h2] at e2 ⊢
  rw [h3] at e3 ⊢
  omega
theorem list5 {v : List UInt8} (h : v.length = 5) : ∃ a b c d e, v = [a, b, c, d, e] := by
  match v, h with
  | [a, b, c, d, e], _ => exact ⟨a, b, c, d, e, rfl⟩
theorem beatenY_spec (h : H) (p q : Pth) (xc gc : Int) (x y nn : Int) (hx : 0 ≤ nn ∧ nn < 4294967296) : LSpec Tryz.prog 19 [.ptr Z0 0, .agg (kIL cHa (itV1 (infoB 1 nn))), vi 31500] (bsIII h p (beatP qB nn 31000) sN xc gc sN x y) (fun r hl => r = .tup [] ∧ hl = bsIII h p (goodP (ackP (beatP qB nn 31000))) sN xc gc sN x y) := by
  refine LSpec.run (tysBOk) followsB Tryz.func19 (by decide) rfl Tryz.ntmps19 (Nat.le_of_ble_eq_true rfl) rfl rfl fun w0 R0 Lo hGw => ?_
  conv => whnf
  refine ⟨by first | omega | (simp only [Int.toNat_natCast]; omega) | (simp; done) | (simp; omega), ?_⟩
  conv => whnf
  refine ⟨by simp [infoB], ?_⟩
  conv => whnf
  refine ⟨by first | omega | (simp only [Int.toNat_natCast]; omega) | (simp; done) | (simp; omega), ?_⟩
  conv => whnf
  refine ⟨by simp [infoB], ?_⟩
  conv => whnf
  refine ⟨by first | omega | (simp only [Int.toNat_natCast]; omega) | (simp; done) | (simp; omega), ?_⟩
  conv => whnf
  refine ⟨by simp [infoB], ?_⟩
  conv => whnf
  refine ⟨by first | omega | (simp only [Int.toNat_natCast]; omega) | (simp; done) | (simp; omega), ?_⟩
  conv => whnf
  refine ⟨by simp [infoB], ?_⟩
  conv => whnf
  refine ⟨by kernel_rfl, ?_⟩
  conv => whnf
  refine ⟨by simp [infoB], ?_⟩
  conv => whnf
  refine ⟨by show _ ≤ ((1 : Nat) : Int) ∧ ((1 : Nat) : Int) ≤ _; omega, ?_⟩
  conv => whnf
  refine ⟨by show _ ≤ ((1 : Nat) : Int) ∧ ((1 : Nat) : Int) < _; omega, ?_⟩
  conv => whnf
  refine ⟨_, ackY_spec p (beatP qB nn 31000) _ 31500 ⟨rfl, rfl, rfl, rfl⟩ rfl rfl (or_back nn hx).symm rfl, ?_⟩
  rintro q rfl
  conv => whnf
  refine ⟨_, _, .refl _, ?_, rfl, rfl⟩
  exact ⟨OLe.refl _, OLe.refl _, OLe.refl _, OLe.refl _, trivial⟩
theorem beatenN_spec (h : H) (p q : Pth) (xc gc : Int) (x y : Int) (v : List UInt8) (hp : p.sent = 0) (hq : q.sent = 0) : LSpec Tryz.prog 19 [.ptr Z0 0, .agg (kIL cHa (itV1 v)), vi 0] (bsIII h p q sN xc gc sN x y) (fun r hl => r = .tup [] ∧ hl = bsIII h p q sN xc gc sN x y) := by
  refine LSpec.run (tysBOk) followsB Tryz.func19 (by decide) rfl Tryz.ntmps19 (Nat.le_of_ble_eq_true rfl) rfl rfl fun w0 R0 Lo hGw => ?_
  conv => whnf
  refine ⟨by first | omega | (simp only [Int.toNat_natCast]; omega) | (simp; done) | (simp; omega), ?_⟩
  conv => whnf
  split <;> rename_i g
  · conv => whnf
    refine ⟨_, _, .refl _, ?_, rfl, rfl⟩
    exact ⟨OLe.refl _, OLe.refl _, OLe.refl _, OLe.refl _, trivial⟩
  · have g2 : v.length = 5 := by
      have : (v.length : Int) = 5 := by simpa using g
      omega
    obtain ⟨a, b, c, d, e, rfl⟩ := list5 g2
    conv => whnf
    refine ⟨by simp, ?_⟩
    conv => whnf
    refine ⟨by first | omega | (simp only [Int.toNat_natCast]; omega) | (simp; done) | (simp; omega), ?_⟩
    conv => whnf
    refine ⟨by simp, ?_⟩
    conv => whnf
    refine ⟨by first | omega | (simp only [Int.toNat_natCast]; omega) | (simp; done) | (simp; omega), ?_⟩
    conv => whnf
    refine ⟨by simp, ?_⟩
    conv => whnf
    refine ⟨by first | omega | (simp only [Int.toNat_natCast]; omega) | (simp; done) | (simp; omega), ?_⟩
    conv => whnf
    refine ⟨by simp, ?_⟩
    conv => whnf
    refine ⟨by kernel_rfl, ?_⟩
    conv => whnf
    refine ⟨by simp, ?_⟩
    conv => whnf
    refine ⟨by show _ ≤ (a.toNat : Int) ∧ (a.toNat : Int) ≤ _; have := UInt8.toNat_lt a; omega, ?_⟩
    conv => whnf
    split <;> rename_i g3
    · conv => whnf
      refine ⟨_, _, .refl _, ?_, rfl, rfl⟩
      exact ⟨OLe.refl _, OLe.refl _, OLe.refl _, OLe.refl _, trivial⟩
    · have g4 : a.toNat < 2 := by
        have := of_decide_eq_false g3
        have : ¬ (2 : Int) ≤ (a.toNat : Int) := this
        omega
      have ha : a = 0 ∨ a = 1 := by
        rcases (show a.toNat = 0 ∨ a.toNat = 1 by omega) with h0 | h0
        · exact .inl (UInt8.toNat_inj.1 h0)
        · exact .inr (UInt8.toNat_inj.1 h0)
      rcases ha with rfl | rfl
      · conv => whnf
        refine ⟨by show _ ≤ ((0 : Nat) : Int) ∧ ((0 : Nat) : Int) < _; omega, ?_⟩
        conv => whnf
        refine ⟨_, ackN_spec p q 0 (.inl rfl) _ 0 (by omega) (by omega), ?_⟩
        rintro q rfl
        conv => whnf
        refine ⟨_, _, .refl _, ?_, rfl, rfl⟩
        exact ⟨OLe.refl _, OLe.refl _, OLe.refl _, OLe.refl _, trivial⟩
      · conv => whnf
        refine ⟨by show _ ≤ ((1 : Nat) : Int) ∧ ((1 : Nat) : Int) < _; omega, ?_⟩
        conv => whnf
        refine ⟨_, ackN_spec p q 1 (.inr rfl) _ 0 (by omega) (by omega), ?_⟩
        rintro q rfl
        conv => whnf
        refine ⟨_, _, .refl _, ?_, rfl, rfl⟩
        exact ⟨OLe.refl _, OLe.refl _, OLe.refl _, OLe.refl _, trivial⟩
theorem rightHaC (v : List UInt8) : PSpec Tryz.prog 14 [.agg (kIL cHa (itV1 v))] (· = vb ((buildC (chOf cHa [⟨1, v⟩])).2 == 0)) :=
  (right_spec (chOf cHa [⟨1, v⟩]) (chOf_ok _ _ (by show 1 ≤ 2 ^ 20; decide))).argsC ⟨.agg ⟨.refl _, .refl _, .refl _, .refl _, .refl _, .refl _, .refl _, .refl _, .refl _, .refl _, .nil, .nil, .sl rfl fun k hk => by cases k0 hk; rfl, .refl _, trivial⟩, trivial⟩
/-- An answer that is not right changes nothing. -/
theorem takeBad_spec (v : List UInt8) : LSpec Tryz.prog 6 [.ptr Z0 0, .agg (kIL cHa (itV1 v)), vi 1, vi 0] (bsIII h3A pB qB sN 4294967289 999 sN 0 0) (fun r hl => r = .tup [] ∧ hl = bsIII h3A pB qB sN 4294967289 999 sN 0 0) := by
  refine LSpec.run (tysBOk) followsB Tryz.func6 (by decide) rfl Tryz.ntmps6 (Nat.le_of_ble_eq_true rfl) rfl rfl fun w0 R0 Lo hGw => ?_
  conv => whnf
  refine ⟨by first | omega | decide +kernel, ?_⟩
  conv => whnf
  refine ⟨by first | omega | decide +kernel, ?_⟩
  conv => whnf
  refine ⟨by first | omega | decide +kernel, ?_⟩
  conv => whnf
  refine ⟨_, (closedB_spec h3A pB qB sN 4294967289 999 sN nilD _ _ _), ?_⟩
  rintro q rfl
  conv => whnf
  refine ⟨_, (rightHaC v), ?_⟩
  conv => whnf
  generalize ((buildC (chOf cHa [⟨1, v⟩])).2 == 0) = b
  rintro q rfl
  cases b
  · conv => whnf
    refine ⟨_, _, .refl _, ?_, rfl, rfl⟩
    exact ⟨OLe.refl _, OLe.refl _, OLe.refl _, OLe.refl _, trivial⟩
  · conv => whnf
    refine ⟨by first | omega | decide +kernel, ?_⟩
    conv => whnf
    refine ⟨by first | omega | decide +kernel, ?_⟩
    conv => whnf
    refine ⟨_, (LSpec.heapC (beatenN_spec h3A pB qB 4294967289 999 0 0 v rfl rfl) ⟨rfl, OLe.refl _, rfl, OLe.refl _, rfl, OLe.refl _, rfl, ⟨rfl, rfl, rfl, fun k hk => by rcases k2 hk with rfl | rfl <;> rfl⟩, trivial⟩), ?_⟩
    rintro q hq ⟨rfl, rfl⟩
    conv => whnf
    refine ⟨_, _, .refl _, ?_, rfl, rfl⟩
    exact ⟨OLe.refl _, OLe.refl _, OLe.refl _, OLe.refl _, trivial⟩
/-- The right one does. -/
theorem takeGood_spec (p : Pth) (nn : Int) (hx : 0 ≤ nn ∧ nn < 4294967296) (hr : ((buildC (chOf cHa [⟨1, infoB 1 nn⟩])).2 == 0) = true) : LSpec Tryz.prog 6 [.ptr Z0 0, .agg (kIL cHa (itV1 (infoB 1 nn))), vi 1, vi 31500] (bsIII h3A p (beatP qB nn 31000) sN 4294967289 999 sN 0 0) (fun r hl => r = .tup [] ∧ hl = bsIII h3A p (goodP (ackP (beatP qB nn 31000))) sN 4294967289 999 sN 0 31500) := by
  refine LSpec.run (tysBOk) followsB Tryz.func6 (by decide) rfl Tryz.ntmps6 (Nat.le_of_ble_eq_true rfl) rfl rfl fun w0 R0 Lo hGw => ?_
  conv => whnf
  refine ⟨by first | omega | decide +kernel, ?_⟩
  conv => whnf
  refine ⟨by first | omega | decide +kernel, ?_⟩
  conv => whnf
  refine ⟨by first | omega | decide +kernel, ?_⟩
  conv => whnf
  refine ⟨_, (closedB_spec h3A p (beatP qB nn 31000) sN 4294967289 999 sN nilD _ _ _), ?_⟩
  rintro q rfl
  conv => whnf
  have hc := rightHaC (infoB 1 nn)
  rw [hr] at hc
  refine ⟨_, hc, ?_⟩
  rintro q rfl
  conv => whnf
  refine ⟨by first | omega | decide +kernel, ?_⟩
  conv => whnf
  refine ⟨by first | omega | decide +kernel, ?_⟩
  conv => whnf
  refine ⟨_, (LSpec.heapC (beatenY_spec h3A p qB 4294967289 999 0 31500 nn hx) ⟨rfl, OLe.refl _, rfl, OLe.refl _, rfl, OLe.refl _, rfl, ⟨rfl, rfl, rfl, fun k hk => by rcases k2 hk with rfl | rfl <;> rfl⟩, trivial⟩), ?_⟩
  rintro q hq ⟨rfl, rfl⟩
  conv => whnf
  refine ⟨_, _, .refl _, ?_, rfl, rfl⟩
  exact ⟨OLe.refl _, OLe.refl _, OLe.refl _, OLe.refl _, trivial⟩
end Go.Proofs.YtbghocipmlobnaaGreat
