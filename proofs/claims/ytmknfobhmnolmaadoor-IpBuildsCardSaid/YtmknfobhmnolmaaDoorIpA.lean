/- Chapter 5: numbers as texts in base 16, as the examples want them: contracts. -/
import Derived.Test.YtmknfobhmnolmaaDoorTys
import Derived.Test.YtmknfobhmnolmaaDoorIpP
namespace Go.Proofs.YtmknfobhmnolmaaDoor
open Go Go.RowKit Towline Towline.Ip
set_option linter.unusedVariables false
set_option linter.unusedSimpArgs false
set_option maxRecDepth 20000
set_option maxHeartbeats 4000000
abbrev tvi (n : Int) : AVal := .d (.i .i64 n)
abbrev tvb (x : Bool) : AVal := .d (.b x)
abbrev tvs (l : List UInt8) : AVal := .d (.s l)
theorem followsB : Tryd.prog.follows .mixedOrders = true := by decide
theorem tz64_spec : PSpec Tryd.prog 48 [.d (.i .u64 16)] (· = tvi 4) := by
  refine PSpec.run (tysOk) followsB Tryd.func48 (by decide) rfl Tryd.ntmps48 (Nat.le_of_ble_eq_true rfl) rfl fun w0 R0 hG => ?_
  conv => whnf
  refine ⟨by decide, ?_⟩
  rw [show shrOp IntKind.u64 (IntKind.u64.wrap (bitsOp BinOp.and IntKind.u64 16 (IntKind.u64.wrap (0 - 16)) * 285870213051353865)) 58 = 15 from by decide +kernel]
  conv => whnf
  refine ⟨by first | omega | (simp only [Int.toNat_natCast]; omega) | (simp; done) | (simp; omega), ?_⟩
  conv => whnf
  refine ⟨by first | omega | (simp only [Int.toNat_natCast]; omega) | (simp; done) | (simp; omega), ?_⟩
  conv => whnf
  exact ⟨_, .refl _, rfl, rfl⟩
theorem tz_spec : PSpec Tryd.prog 46 [.d (.i .u64 16)] (· = tvi 4) := by
  refine PSpec.run (tysOk) followsB Tryd.func46 (by decide) rfl Tryd.ntmps46 (Nat.le_of_ble_eq_true rfl) rfl fun w0 R0 hG => ?_
  conv => whnf
  refine ⟨_, tz64_spec, ?_⟩
  rintro q rfl
  conv => whnf
  exact ⟨_, .refl _, rfl, rfl⟩
theorem pow2_spec : PSpec Tryd.prog 45 [tvi 16] (· = tvb true) := by
  refine PSpec.run (tysOk) followsB Tryd.func45 (by decide) rfl Tryd.ntmps45 (Nat.le_of_ble_eq_true rfl) rfl fun w0 R0 hG => ?_
  conv => whnf
  refine ⟨by first | omega | (simp only [Int.toNat_natCast]; omega) | (simp; done) | (simp; omega), ?_⟩
  conv => whnf
  exact ⟨_, .refl _, (congrArg tvb (by decide +kernel)), rfl⟩
theorem bits8193_spec : PSpec Tryd.prog 39 [.d (.v (.slice none 0 0)), .d (.i .u64 8193), tvi 16, tvb false, tvb false] (· = .tup [.d (.v (.slice none 0 0)), tvs [50, 48, 48, 49]]) := by
  refine PSpec.run (tysOk) followsB Tryd.func39 (by decide) rfl Tryd.ntmps39 (Nat.le_of_ble_eq_true rfl) rfl fun w0 R0 hG => ?_
  conv => whnf
  refine ⟨_, pow2_spec, ?_⟩
  rintro q rfl
  conv => whnf
  refine ⟨_, tz_spec, ?_⟩
  rintro q rfl
  conv => whnf
  refine ALoop.rounds (tysOk) followsB 5 ?_
  conv => whnf
  refine ⟨by first | omega | decide +kernel, ?_⟩
  conv => whnf
  refine ⟨by first | omega | decide +kernel, ?_⟩
  conv => whnf
  refine ⟨by first | omega | decide +kernel, ?_⟩
  conv => whnf
  refine ⟨by first | omega | decide +kernel, ?_⟩
  conv => whnf
  refine ⟨by first | omega | decide +kernel, ?_⟩
  conv => whnf
  refine ⟨by first | omega | decide +kernel, ?_⟩
  conv => whnf
  refine ⟨by first | omega | decide +kernel, ?_⟩
  conv => whnf
  refine ⟨by first | omega | decide +kernel, ?_⟩
  conv => whnf
  refine ⟨by first | omega | decide +kernel, ?_⟩
  conv => whnf
  refine ⟨by first | omega | decide +kernel, ?_⟩
  conv => whnf
  refine ⟨by first | omega | decide +kernel, ?_⟩
  conv => whnf
  refine ⟨by first | omega | decide +kernel, ?_⟩
  conv => whnf
  refine ⟨by first | omega | decide +kernel, ?_⟩
  conv => whnf
  refine ⟨by first | omega | decide +kernel, ?_⟩
  conv => whnf
  refine ⟨by first | omega | decide +kernel, ?_⟩
  conv => whnf
  refine ⟨[50, 48, 48, 49], ⟨rfl, fun k hk => ?_⟩, ?_⟩
  · have h4 : k < 4 := hk
    have hh : k = 0 ∨ k = 1 ∨ k = 2 ∨ k = 3 := by omega
    rcases hh with rfl | rfl | rfl | rfl <;> exact rfl
  conv => whnf
  exact ⟨_, .refl _, rfl, rfl⟩
theorem fmt8193i_spec : PSpec Tryd.prog 33 [tvi 8193, tvi 16] (· = tvs [50, 48, 48, 49]) := by
  refine PSpec.run (tysOk) followsB Tryd.func33 (by decide) rfl Tryd.ntmps33 (Nat.le_of_ble_eq_true rfl) rfl fun w0 R0 hG => ?_
  conv => whnf
  refine ⟨_, bits8193_spec, ?_⟩
  rintro q rfl
  conv => whnf
  exact ⟨_, .refl _, rfl, rfl⟩
theorem fmt8193_spec : PSpec Tryd.prog 26 [tvi 8193, tvi 16] (· = tvs [50, 48, 48, 49]) := by
  refine PSpec.run (tysOk) followsB Tryd.func26 (by decide) rfl Tryd.ntmps26 (Nat.le_of_ble_eq_true rfl) rfl fun w0 R0 hG => ?_
  conv => whnf
  refine ⟨_, fmt8193i_spec, ?_⟩
  rintro q rfl
  conv => whnf
  exact ⟨_, .refl _, rfl, rfl⟩
theorem bits3512_spec : PSpec Tryd.prog 39 [.d (.v (.slice none 0 0)), .d (.i .u64 3512), tvi 16, tvb false, tvb false] (· = .tup [.d (.v (.slice none 0 0)), tvs [100, 98, 56]]) := by
  refine PSpec.run (tysOk) followsB Tryd.func39 (by decide) rfl Tryd.ntmps39 (Nat.le_of_ble_eq_true rfl) rfl fun w0 R0 hG => ?_
  conv => whnf
  refine ⟨_, pow2_spec, ?_⟩
  rintro q rfl
  conv => whnf
  refine ⟨_, tz_spec, ?_⟩
  rintro q rfl
  conv => whnf
  refine ALoop.rounds (tysOk) followsB 4 ?_
  conv => whnf
  refine ⟨by first | omega | decide +kernel, ?_⟩
  conv => whnf
  refine ⟨by first | omega | decide +kernel, ?_⟩
  conv => whnf
  refine ⟨by first | omega | decide +kernel, ?_⟩
  conv => whnf
  refine ⟨by first | omega | decide +kernel, ?_⟩
  conv => whnf
  refine ⟨by first | omega | decide +kernel, ?_⟩
  conv => whnf
  refine ⟨by first | omega | decide +kernel, ?_⟩
  conv => whnf
  refine ⟨by first | omega | decide +kernel, ?_⟩
  conv => whnf
  refine ⟨by first | omega | decide +kernel, ?_⟩
  conv => whnf
  refine ⟨by first | omega | decide +kernel, ?_⟩
  conv => whnf
  refine ⟨by first | omega | decide +kernel, ?_⟩
  conv => whnf
  refine ⟨by first | omega | decide +kernel, ?_⟩
  conv => whnf
  refine ⟨[100, 98, 56], ⟨rfl, fun k hk => ?_⟩, ?_⟩
  · have h3 : k < 3 := hk
    have hh : k = 0 ∨ k = 1 ∨ k = 2 := by omega
    rcases hh with rfl | rfl | rfl <;> exact rfl
  conv => whnf
  exact ⟨_, .refl _, rfl, rfl⟩
theorem fmt3512i_spec : PSpec Tryd.prog 33 [tvi 3512, tvi 16] (· = tvs [100, 98, 56]) := by
  refine PSpec.run (tysOk) followsB Tryd.func33 (by decide) rfl Tryd.ntmps33 (Nat.le_of_ble_eq_true rfl) rfl fun w0 R0 hG => ?_
  conv => whnf
  refine ⟨_, bits3512_spec, ?_⟩
  rintro q rfl
  conv => whnf
  exact ⟨_, .refl _, rfl, rfl⟩
theorem fmt3512_spec : PSpec Tryd.prog 26 [tvi 3512, tvi 16] (· = tvs [100, 98, 56]) := by
  refine PSpec.run (tysOk) followsB Tryd.func26 (by decide) rfl Tryd.ntmps26 (Nat.le_of_ble_eq_true rfl) rfl fun w0 R0 hG => ?_
  conv => whnf
  refine ⟨_, fmt3512i_spec, ?_⟩
  rintro q rfl
  conv => whnf
  exact ⟨_, .refl _, rfl, rfl⟩
theorem bits0_spec : PSpec Tryd.prog 39 [.d (.v (.slice none 0 0)), .d (.i .u64 0), tvi 16, tvb false, tvb false] (· = .tup [.d (.v (.slice none 0 0)), tvs [48]]) := by
  refine PSpec.run (tysOk) followsB Tryd.func39 (by decide) rfl Tryd.ntmps39 (Nat.le_of_ble_eq_true rfl) rfl fun w0 R0 hG => ?_
  conv => whnf
  refine ⟨_, pow2_spec, ?_⟩
  rintro q rfl
  conv => whnf
  refine ⟨_, tz_spec, ?_⟩
  rintro q rfl
  conv => whnf
  refine ALoop.rounds (tysOk) followsB 2 ?_
  conv => whnf
  refine ⟨by first | omega | decide +kernel, ?_⟩
  conv => whnf
  refine ⟨by first | omega | decide +kernel, ?_⟩
  conv => whnf
  refine ⟨by first | omega | decide +kernel, ?_⟩
  conv => whnf
  refine ⟨[48], ⟨rfl, fun k hk => ?_⟩, ?_⟩
  · have h1 : k < 1 := hk
    have hh : k = 0 := by omega
    rcases hh with rfl <;> exact rfl
  conv => whnf
  exact ⟨_, .refl _, rfl, rfl⟩
theorem fmt0i_spec : PSpec Tryd.prog 33 [tvi 0, tvi 16] (· = tvs [48]) := by
  refine PSpec.run (tysOk) followsB Tryd.func33 (by decide) rfl Tryd.ntmps33 (Nat.le_of_ble_eq_true rfl) rfl fun w0 R0 hG => ?_
  conv => whnf
  refine ⟨_, bits0_spec, ?_⟩
  rintro q rfl
  conv => whnf
  exact ⟨_, .refl _, rfl, rfl⟩
theorem fmt0_spec : PSpec Tryd.prog 26 [tvi 0, tvi 16] (· = tvs [48]) := by
  refine PSpec.run (tysOk) followsB Tryd.func26 (by decide) rfl Tryd.ntmps26 (Nat.le_of_ble_eq_true rfl) rfl fun w0 R0 hG => ?_
  conv => whnf
  refine ⟨_, fmt0i_spec, ?_⟩
  rintro q rfl
  conv => whnf
  exact ⟨_, .refl _, rfl, rfl⟩
theorem bits1_spec : PSpec Tryd.prog 39 [.d (.v (.slice none 0 0)), .d (.i .u64 1), tvi 16, tvb false, tvb false] (· = .tup [.d (.v (.slice none 0 0)), tvs [49]]) := by
  refine PSpec.run (tysOk) followsB Tryd.func39 (by decide) rfl Tryd.ntmps39 (Nat.le_of_ble_eq_true rfl) rfl fun w0 R0 hG => ?_
  conv => whnf
  refine ⟨_, pow2_spec, ?_⟩
  rintro q rfl
  conv => whnf
  refine ⟨_, tz_spec, ?_⟩
  rintro q rfl
  conv => whnf
  refine ALoop.rounds (tysOk) followsB 2 ?_
  conv => whnf
  refine ⟨by first | omega | decide +kernel, ?_⟩
  conv => whnf
  refine ⟨by first | omega | decide +kernel, ?_⟩
  conv => whnf
  refine ⟨by first | omega | decide +kernel, ?_⟩
  conv => whnf
  refine ⟨[49], ⟨rfl, fun k hk => ?_⟩, ?_⟩
  · have h1 : k < 1 := hk
    have hh : k = 0 := by omega
    rcases hh with rfl <;> exact rfl
  conv => whnf
  exact ⟨_, .refl _, rfl, rfl⟩
theorem fmt1i_spec : PSpec Tryd.prog 33 [tvi 1, tvi 16] (· = tvs [49]) := by
  refine PSpec.run (tysOk) followsB Tryd.func33 (by decide) rfl Tryd.ntmps33 (Nat.le_of_ble_eq_true rfl) rfl fun w0 R0 hG => ?_
  conv => whnf
  refine ⟨_, bits1_spec, ?_⟩
  rintro q rfl
  conv => whnf
  exact ⟨_, .refl _, rfl, rfl⟩
theorem fmt1_spec : PSpec Tryd.prog 26 [tvi 1, tvi 16] (· = tvs [49]) := by
  refine PSpec.run (tysOk) followsB Tryd.func26 (by decide) rfl Tryd.ntmps26 (Nat.le_of_ble_eq_true rfl) rfl fun w0 R0 hG => ?_
  conv => whnf
  refine ⟨_, fmt1i_spec, ?_⟩
  rintro q rfl
  conv => whnf
  exact ⟨_, .refl _, rfl, rfl⟩
end Go.Proofs.YtmknfobhmnolmaaDoor
