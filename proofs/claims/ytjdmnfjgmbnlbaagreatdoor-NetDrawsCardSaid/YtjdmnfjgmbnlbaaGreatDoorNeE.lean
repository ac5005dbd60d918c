/- Chapter 21: the statements' head. -/
import Derived.Test.YtjdmnfjgmbnlbaaGreatDoorNeD
namespace Go.Proofs.YtjdmnfjgmbnlbaaGreatDoor
open Go Go.RowKit Towline
set_option linter.unusedVariables false
set_option linter.unusedSimpArgs false
set_option maxRecDepth 20000
set_option maxHeartbeats 4000000
abbrev adr (i : Nat) : List UInt8 := [10, 0, 0, UInt8.ofNat (i + 1)]
theorem drawn_spec (seed : List UInt8) (hs : seed.length ≤ 1000) (k : Nat) (hk : k < 100) : PSpec Tryz.prog 12 [ns seed, ni k] (· = n32 (drw seed k)) := by
  have hdl := dec_len k hk
  refine PSpec.run (tysOk) followsB Tryz.func12 (by decide) rfl Tryz.ntmps12 (Nat.le_of_ble_eq_true rfl) rfl fun w0 R0 hGw => ?_
  conv => whnf
  refine ⟨by simp; omega, ?_⟩
  conv => whnf
  refine ⟨_, (decimal_spec k (by omega)), ?_⟩
  rintro q rfl
  conv => whnf
  refine ⟨by simp; omega, ?_⟩
  conv => whnf
  refine ⟨_, (rsum_spec (seed ++ [47] ++ Lib.decDigits k) (by simp; omega)), ?_⟩
  rintro q rfl
  conv => whnf
  refine ⟨_, (number_spec _ rfl), ?_⟩
  rintro q rfl
  conv => whnf
  exact ⟨_, .refl _, rfl, rfl⟩
abbrev keyT : List UInt8 := [107, 101, 121]
theorem config_spec (i : Nat) (hi : i < 50) : PSpec Tryz.prog 15 [ni i] (· = cfA [adr i] (i + 7 : Nat) keyT 60000 4) := by
  refine PSpec.run (tysOk) followsB Tryz.func15 (by decide) rfl Tryz.ntmps15 (Nat.le_of_ble_eq_true rfl) rfl fun w0 R0 hGw => ?_
  conv => whnf
  refine ⟨_, (address_spec i (by omega)), ?_⟩
  rintro q rfl
  conv => whnf
  refine ⟨by first | omega | (simp only [Int.toNat_natCast]; omega) | (simp; done) | (simp; omega), ?_⟩
  conv => whnf
  rw [show IntKind.u16.wrap ((i : Int) + 7) = ((i + 7 : Nat) : Int) from by simp [IntKind.wrap, IntKind.signed, IntKind.bits]; omega]
  conv => whnf
  refine ⟨by omega, ?_⟩
  conv => whnf
  refine ⟨_, .agg ?_, rfl, rfl⟩
  refine ⟨.sl rfl fun k hk => ?_, .refl _, .refl _, .refl _, .refl _, trivial⟩
  obtain rfl : k = 0 := by omega
  rfl
theorem now_spec (seed : List UInt8) (dr now : Int) (en ow wi : D) (last : Int) : PSpec Tryz.prog 13 [.eptr 7 1 (fun _ => [.s seed, .i .i64 dr, .i .i64 now, en, ow, wi, .i .i64 last]) 0 0] (· = ni now) := by
  refine PSpec.run (tysOk) followsB Tryz.func13 (by decide) rfl Tryz.ntmps13 (Nat.le_of_ble_eq_true rfl) rfl fun w0 R0 hGw => ?_
  conv => whnf
  exact ⟨_, .refl _, rfl, rfl⟩
theorem deliver_none (seed : List UInt8) (dr now : Int) (m : Nat) (ef : Nat → List D) (O : Own) (last : Int) (no : Int) : LSpec Tryz.prog 22 [.ptr Z0 0, ni no] (netH seed dr now m ef O last)
    (fun r hl => r = ni 8 ∧ hl = netH seed dr now m ef O last) := by
  refine LSpec.run (tysDOk) followsB Tryz.func22 (by decide) rfl Tryz.ntmps22 (Nat.le_of_ble_eq_true rfl) rfl rfl fun w0 R0 Lo hGw => ?_
  conv => whnf
  refine ⟨_, _, .refl _, ?_, rfl, rfl⟩
  exact ⟨OLe.refl _, OLe.refl _, OLe.refl _, OLe.refl _, trivial⟩
theorem wait_spec (seed : List UInt8) (dr : Int) (now : Nat) (hn : now ≤ 1099511627776) (ef : Nat → List D) (O : Own) (last : Int) (ms : Int) : LSpec Tryz.prog 14 [.ptr Z0 0, ni ms] (netH seed dr now 0 ef O last)
    (fun r hl => r = .tup [] ∧ hl = netH seed dr (if 1 ≤ ms ∧ ms ≤ 1073741824 ∧ now + ms ≤ 1099511627776 then ((now + ms.toNat : Nat) : Int) else now) 0 ef O last) := by
  refine LSpec.run (tysDOk) followsB Tryz.func14 (by decide) rfl Tryz.ntmps14 (Nat.le_of_ble_eq_true rfl) rfl rfl fun w0 R0 Lo hGw => ?_
  conv => whnf
  by_cases h1 : ms < 1
  · rw [decide_eq_true h1]
    conv => whnf
    refine ⟨_, _, .refl _, ?_, rfl, rfl⟩
    rw [if_neg (by omega)]
    exact ⟨OLe.refl _, OLe.refl _, OLe.refl _, OLe.refl _, trivial⟩
  rw [decide_eq_false h1]
  conv => whnf
  by_cases h2 : 1073741824 < ms
  · rw [decide_eq_true h2]
    conv => whnf
    refine ⟨_, _, .refl _, ?_, rfl, rfl⟩
    rw [if_neg (by omega)]
    exact ⟨OLe.refl _, OLe.refl _, OLe.refl _, OLe.refl _, trivial⟩
  rw [decide_eq_false h2]
  conv => whnf
  refine ⟨by first | omega | (simp only [Int.toNat_natCast]; omega) | (simp; done) | (simp; omega), ?_⟩
  conv => whnf
  by_cases h3 : 1099511627776 < (now : Int) + ms
  · rw [decide_eq_true h3]
    conv => whnf
    refine ⟨_, _, .refl _, ?_, rfl, rfl⟩
    rw [if_neg (by omega)]
    exact ⟨OLe.refl _, OLe.refl _, OLe.refl _, OLe.refl _, trivial⟩
  rw [decide_eq_false h3]
  conv => whnf
  refine ⟨by first | omega | (simp only [Int.toNat_natCast]; omega) | (simp; done) | (simp; omega), ?_⟩
  conv => whnf
  refine ALoop.rounds tysDOk followsB 1 ?_
  conv => whnf
  refine ⟨_, _, .refl _, ?_, rfl, rfl⟩
  rw [if_pos (by omega), show ((now + ms.toNat : Nat) : Int) = now + ms from by omega]
  exact ⟨OLe.refl _, OLe.refl _, OLe.refl _, OLe.refl _, trivial⟩
theorem shown_spec : PSpec Tryz.prog 6 [] (· = nb true) := by
  refine PSpec.runS (tysDOk) followsB Tryz.func6 (by decide) rfl Tryz.ntmps6 (Nat.le_of_ble_eq_true rfl) rfl fun w0 R0 hGw => ?_
  conv => whnf
  refine ⟨_, (netNew_spec [115, 101, 101, 100]), ?_⟩
  rintro q hq ⟨rfl, rfl⟩
  conv => whnf
  refine AGo.adoptCell 5000 3 900 1 38 (fun _ => []) rfl rfl rfl rfl rfl ?_
  refine AGo.go (tysDOk) followsB ?_
  conv => whnf
  refine ⟨_, (config_spec 0 (by decide)), ?_⟩
  rintro q rfl
  conv => whnf
  refine ⟨_, (add_ok [115, 101, 101, 100] 0 0 0 (by decide) (fun _ => []) [] 0 [adr 0] (by decide) (by decide) (by decide) (by decide) (0 + 7 : Nat) (by decide) keyT 60000 4 (by decide) (by decide)), ?_⟩
  rintro q hq ⟨rfl, rfl⟩
  conv => whnf
  refine ⟨_, (deliver_none [115, 101, 101, 100] 0 0 _ _ _ 0 1), ?_⟩
  rintro q hq ⟨rfl, rfl⟩
  conv => whnf
  refine ⟨_, (owner_spec [115, 101, 101, 100] 0 0 _ _ _ 0 [120]), ?_⟩
  rintro q hq ⟨rfl, rfl⟩
  conv => whnf
  refine ⟨_, (address_spec 0 (by decide)), ?_⟩
  rintro q rfl
  conv => whnf
  refine ⟨_, (owner_spec [115, 101, 101, 100] 0 0 _ _ _ 0 (adr 0)), ?_⟩
  rintro q hq ⟨rfl, rfl⟩
  conv => whnf
  refine ⟨_, (draw_spec [115, 101, 101, 100] (by decide) 0 (by decide) 0 _ _ _ 0), ?_⟩
  rintro q hq ⟨rfl, rfl⟩
  conv => whnf
  refine ⟨_, (drawn_spec [115, 101, 101, 100] (by decide) 0 (by decide)), ?_⟩
  rintro q rfl
  conv => whnf
  exact ⟨_, .refl _, by rw [beq_self_eq_true], rfl⟩
end Go.Proofs.YtjdmnfjgmbnlbaaGreatDoor
