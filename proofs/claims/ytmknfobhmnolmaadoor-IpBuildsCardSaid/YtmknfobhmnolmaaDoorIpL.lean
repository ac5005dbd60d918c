/- Chapter 5: the document's answer: contracts. -/
import Derived.Test.YtmknfobhmnolmaaDoorIpK
namespace Go.Proofs.YtmknfobhmnolmaaDoor
open Go Go.RowKit Towline Towline.Ip
set_option linter.unusedVariables false
set_option linter.unusedSimpArgs false
set_option maxRecDepth 20000
set_option maxHeartbeats 4000000
theorem as5_spec (h : Hd) : PSpec Tryd.prog 12 [hA h] (· = hA h) := by
  refine PSpec.run (tysOk) followsB Tryd.func12 (by decide) rfl Tryd.ntmps12 (Nat.le_of_ble_eq_true rfl) rfl fun w0 R0 hG => ?_
  conv => whnf
  exact ⟨_, .refl _, rfl, rfl⟩
theorem one5_spec (n : Nat) : PSpec Tryd.prog 20 [tvi n] (· = tvs [UInt8.ofNat n]) := by
  refine PSpec.run (tysOk) followsB Tryd.func20 (by decide) rfl Tryd.ntmps20 (Nat.le_of_ble_eq_true rfl) rfl fun w0 R0 hG => ?_
  conv => whnf
  refine ⟨[UInt8.ofNat n], ⟨rfl, by omega, fun k hk => ?_⟩, ?_⟩
  · obtain rfl : k = 0 := by omega
    show [D.i .u8 (IntKind.u8.wrap (n : Int))] = [D.i .u8 ((UInt8.ofNat n).toNat : Nat)]
    rw [wrap8]
  conv => whnf
  exact ⟨_, .refl _, rfl, rfl⟩
theorem div256 (n : Nat) (h : n < 2 ^ 62) : IntKind.i64.wrap ((n : Int).tdiv 256) = ((n / 256 : Nat) : Int) := by
  rw [Int.tdiv_eq_ediv_of_nonneg (by omega)]
  simp [IntKind.wrap, IntKind.signed, IntKind.bits]
  omega
theorem two5_spec (n : Nat) (hn : n < 2 ^ 40) : PSpec Tryd.prog 19 [tvi n] (· = tvs (b2 n)) := by
  refine PSpec.run (tysOk) followsB Tryd.func19 (by decide) rfl Tryd.ntmps19 (Nat.le_of_ble_eq_true rfl) rfl fun w0 R0 hG => ?_
  conv => whnf
  refine ⟨by first | omega | decide +kernel, ?_⟩
  conv => whnf
  rw [div256 n (by omega)]
  refine ⟨b2 n, ⟨rfl, by omega, fun k hk => ?_⟩, ?_⟩
  · have hk2 : k = 0 ∨ k = 1 := by omega
    rcases hk2 with rfl | rfl
    · show [D.i .u8 (IntKind.u8.wrap ((n / 256 : Nat) : Int))] = [D.i .u8 ((UInt8.ofNat (n / 256)).toNat : Nat)]
      rw [wrap8]
    · show [D.i .u8 (IntKind.u8.wrap ((n : Nat) : Int))] = [D.i .u8 ((UInt8.ofNat n).toNat : Nat)]
      rw [wrap8]
  conv => whnf
  exact ⟨_, .refl _, rfl, rfl⟩
theorem rright5_spec (h : Hd) : PSpec Tryd.prog 14 [hA h] (· = tvb (rightH h)) := by
  have fin : ∀ b : Bool, (b = true ↔ OkH h) → b = rightH h := fun b hb => by
    unfold rightH
    by_cases hk : OkH h
    · rw [hb.2 hk, decide_eq_true hk]
    · rw [decide_eq_false hk]
      cases b with
      | false => rfl
      | true => exact absurd (hb.1 rfl) hk
  refine PSpec.run (tysOk) followsB Tryd.func14 (by decide) rfl Tryd.ntmps14 (Nat.le_of_ble_eq_true rfl) rfl fun w0 R0 hG => ?_
  conv => whnf
  repeat' first
    | exact ⟨_, .refl _, congrArg tvb (fin _ (by simp only [beq_iff_eq, beq_eq_false_iff_ne, decide_eq_true_eq, decide_eq_false_iff_not, ne_eq, OkH, Bool.false_eq_true, false_iff] at *; omega)), rfl⟩
    | (split <;> conv => whnf)
theorem rcheck5_spec (s : List UInt8) (hs : s.length ≤ 2 ^ 30) : PSpec Tryd.prog 15 [tvs s] (· = .d (.i .u16 (c16 s))) := by
  refine PSpec.run (tysOk) followsB Tryd.func15 (by decide) rfl Tryd.ntmps15 (Nat.le_of_ble_eq_true rfl) rfl fun w0 R0 hG => ?_
  conv => whnf
  refine ALoop.intro tysOk followsB (fun j : {j : Nat // (j % 2 = 0 ∧ j ≤ s.length) ∨ j = s.length + 1 ∧ j % 2 = 0} => ([(0, tvs s), (3, tvi (sumB true (s.take j.1) : Nat)), (4, tvi j.1)], [])) (fun j => s.length + 1 - j.1) ⟨0, .inl ⟨rfl, by omega⟩⟩ ?_ ?_
  · exact ⟨.refl _, .refl _, .refl _, trivial⟩
  rintro ⟨j, hj⟩
  dsimp only
  conv => whnf
  split <;> rename_i h1
  · have hlt : j < s.length := by have := of_decide_eq_true h1; omega
    have hp : j % 2 = 0 := by omega
    have hb := sumB_le (s.take j) true
    rw [List.length_take] at hb
    have hc := UInt8.toNat_lt (s.getD j 0)
    have hsum := sum_take s j hlt
    rw [if_pos hp] at hsum
    conv => whnf
    refine ⟨by first | omega | (simp only [Int.toNat_natCast]; omega) | (simp; done) | (simp; omega), ?_⟩
    conv => whnf
    rw [show s.getD ((j : Int)).toNat 0 = s.getD j 0 from by rw [Int.toNat_natCast]]
    refine ⟨by first | omega | (simp only [Int.toNat_natCast]; omega) | (simp; done) | (simp; omega), ?_⟩
    conv => whnf
    refine ⟨by first | omega | (simp only [Int.toNat_natCast]; omega) | (simp; done) | (simp; omega), ?_⟩
    conv => whnf
    refine ⟨by first | omega | (simp only [Int.toNat_natCast]; omega) | (simp; done) | (simp; omega), ?_⟩
    conv => whnf
    refine ⟨by first | omega | (simp only [Int.toNat_natCast]; omega) | (simp; done) | (simp; omega), ?_⟩
    conv => whnf
    by_cases h2 : j + 1 < s.length
    · have hc2 := UInt8.toNat_lt (s.getD (j + 1) 0)
      have hsum2 := sum_take s (j + 1) h2
      rw [if_neg (by omega)] at hsum2
      rw [show decide ((j : Int) + 1 < (s.length : Int)) = true from decide_eq_true (by omega)]
      conv => whnf
      refine ⟨by first | omega | (simp only [Int.toNat_natCast]; omega) | (simp; done) | (simp; omega), ?_⟩
      conv => whnf
      refine ⟨by first | omega | (simp only [Int.toNat_natCast]; omega) | (simp; done) | (simp; omega), ?_⟩
      conv => whnf
      rw [show s.getD ((j : Int) + 1).toNat 0 = s.getD (j + 1) 0 from by congr 1]
      refine ⟨by first | omega | (simp only [Int.toNat_natCast]; omega) | (simp; done) | (simp; omega), ?_⟩
      conv => whnf
      refine ⟨by first | omega | (simp only [Int.toNat_natCast]; omega) | (simp; done) | (simp; omega), ?_⟩
      conv => whnf
      refine ⟨by first | omega | (simp only [Int.toNat_natCast]; omega) | (simp; done) | (simp; omega), ?_⟩
      conv => whnf
      refine ⟨⟨j + 2, by omega⟩, by dsimp only; omega, .refl _, .of_eq ?_, .of_eq ?_, trivial⟩
      · dsimp only
        rw [hsum2, hsum, Int.natCast_add, Int.natCast_add, Int.natCast_mul]
        rfl
      · rfl
    · rw [show decide ((j : Int) + 1 < (s.length : Int)) = false from decide_eq_false (by omega)]
      conv => whnf
      refine ⟨by first | omega | (simp only [Int.toNat_natCast]; omega) | (simp; done) | (simp; omega), ?_⟩
      conv => whnf
      refine ⟨⟨j + 2, by omega⟩, by dsimp only; omega, .refl _, .of_eq ?_, .of_eq ?_, trivial⟩
      · dsimp only
        rw [show s.take (j + 2) = s.take (j + 1) from by rw [List.take_of_length_le (by omega), List.take_of_length_le (by omega)], hsum, Int.natCast_add, Int.natCast_mul]
        rfl
      · rfl
  · have hlt : ¬ j < s.length := by have := of_decide_eq_false h1; omega
    rw [List.take_of_length_le (show s.length ≤ j by omega)]
    have hS := sumB_le s true
    conv => whnf
    refine ALoop.intro tysOk followsB (fun n : {n : Nat // n ≤ 2 ^ 50 ∧ fold16 n = fold16 (sumB true s)} => ([(3, tvi n.1)], [])) (fun n => n.1) ⟨sumB true s, by omega, rfl⟩ ?_ ?_
    · exact ⟨.refl _, trivial⟩
    rintro ⟨n, hn, hf⟩
    dsimp only
    conv => whnf
    split <;> rename_i h2
    · have hlt : 65536 ≤ n := by have := of_decide_eq_true h2; omega
      conv => whnf
      refine ⟨by first | omega | decide +kernel, ?_⟩
      conv => whnf
      refine ⟨by first | omega | decide +kernel, ?_⟩
      conv => whnf
      rw [show IntKind.i64.wrap ((n : Int).tdiv 65536) = ((n / 65536 : Nat) : Int) from by
        rw [Int.tdiv_eq_ediv_of_nonneg (by omega)]
        simp [IntKind.wrap, IntKind.signed, IntKind.bits]
        omega]
      rw [show ((n : Int).tmod 65536) = ((n % 65536 : Nat) : Int) from by rw [Int.tmod_eq_emod_of_nonneg (by omega)]; omega]
      refine ⟨by first | omega | (simp only [Int.toNat_natCast]; omega) | (simp; done) | (simp; omega), ?_⟩
      conv => whnf
      refine ⟨⟨n % 65536 + n / 65536, by omega, (fold16_step hlt).trans hf⟩, by dsimp only; omega, .of_eq ?_, trivial⟩
      dsimp only
      rw [Int.natCast_add]
    · have hlt : n < 65536 := by have := of_decide_eq_false h2; omega
      rw [fold16_small hlt] at hf
      subst hf
      conv => whnf
      refine ⟨by first | omega | (simp only [Int.toNat_natCast]; omega) | (simp; done) | (simp; omega), ?_⟩
      conv => whnf
      refine ⟨_, .refl _, ?_, rfl⟩
      unfold c16
      rw [show IntKind.u16.wrap (65535 - (fold16 (sumB true s) : Int)) = ((65535 - fold16 (sumB true s) : Nat) : Int) from by
        simp [IntKind.wrap, IntKind.signed, IntKind.bits]
        omega]
end Go.Proofs.YtmknfobhmnolmaaDoor
