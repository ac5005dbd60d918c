/- Chapter 19: an association of two paths takes the answers to what it began with: contracts. -/
import Derived.Test.YtbghocipmlobnaaGreatAbC
namespace Go.Proofs.YtbghocipmlobnaaGreat
open Go Go.RowKit Towline Towline.Hand Towline.Ab
set_option linter.unusedVariables false
set_option linter.unusedSimpArgs false
set_option maxRecDepth 20000
set_option maxHeartbeats 4000000
theorem metB_spec (h : H) (p q : Pth) (xc : Int) (x y : Int) (hi : h.ins = 4) (ho : h.outs = 4) : LSpec Tryz.prog 43 [.ptr Z0 0] (bsI h p q (.sl 1 4 fun _ => [.i .u16 0]) xc 0 nilD x y) (fun r hl => r = .tup [] ∧ hl = bsI h p q (.sl 1 4 fun _ => [.i .u16 0]) xc (IntKind.u32.wrap (h.peerTsn - 1)) (.sl 1 4 fun _ => [.i .u16 0]) x y) := by
  obtain ⟨st, tr, du, ot, pt, ou, pu, mi, wi, os_, is_, co⟩ := h
  dsimp only at hi ho
  subst hi ho
  refine LSpec.run (tysBOk) followsB Tryz.func43 (by decide) rfl Tryz.ntmps43 (Nat.le_of_ble_eq_true rfl) rfl rfl fun w0 R0 Lo hGw => ?_
  conv => whnf
  refine ⟨_, (gotNew_spec pu), ?_⟩
  conv => whnf
  refine ⟨by kernel_rfl, ?_⟩
  conv => whnf
  refine ⟨by first | omega | (simp only [Int.toNat_natCast]; omega) | (simp; done) | (simp; omega), ?_⟩
  conv => whnf
  refine ⟨_, (orderNew_spec 4 (by decide)), ?_⟩
  conv => whnf
  refine ⟨by kernel_rfl, ?_⟩
  conv => whnf
  refine ALoop.rounds tysBOk followsB 1 ?_
  conv => whnf
  refine ⟨_, cloneM_spec, ?_⟩
  conv => whnf
  refine ⟨_, deleteM_spec, ?_⟩
  conv => whnf
  refine ⟨by kernel_rfl, ?_⟩
  conv => whnf
  refine ⟨by first | omega | (simp only [Int.toNat_natCast]; omega) | (simp; done) | (simp; omega), ?_⟩
  conv => whnf
  refine ⟨by first | omega | (simp only [Int.toNat_natCast]; omega) | (simp; done) | (simp; omega), ?_⟩
  conv => whnf
  refine ⟨by kernel_rfl, ?_⟩
  conv => whnf
  refine ⟨by kernel_rfl, ?_⟩
  conv => whnf
  refine ⟨_, _, .refl _, ?_, rfl, rfl⟩
  exact ⟨OLe.refl _, OLe.refl _, OLe.refl _, trivial⟩
theorem flushB1_spec (h : H) (p q : Pth) (sn : D) (xc gc : Int) (qn : D) (x y : Int) (m : Nat) (ob : AObj) (hs : h.st = 1 ∨ h.st = 2) (ho : ∃ f, ob = .row 58 2 m f) : LSpec Tryz.prog 9 [.ptr Z0 0, vi 0] (bsII h p q sn xc gc qn x y m ob) (fun r hl => r = .rsl Z1 2 0 m ∧ hl = [(Z0, .box (bsL h p q sn xc gc qn nilA nilA (.rsl Z2 1 0 2) (.rsl Z3 1 0 2))), (Z1, ob), (Z2, row2 0 0), (Z3, row2 x y)]) := by
  obtain ⟨f, rfl⟩ := ho
  obtain ⟨st, tr, du, ot, pt, ou, pu, mi, wi, os_, is_, co⟩ := h
  rcases hs with rfl | rfl
  all_goals
    refine LSpec.run ((tysXOk false [37] lentAb [3000000000 + 41])) followsB Tryz.func9 (by decide) rfl Tryz.ntmps9 (Nat.le_of_ble_eq_true rfl) rfl rfl fun w0 R0 Lo hGw => ?_
    conv => whnf
    refine ⟨by first | omega | (simp only [Int.toNat_natCast]; omega) | (simp; done) | (simp; omega), ?_⟩
    conv => whnf
    refine ⟨by first | omega | (simp only [Int.toNat_natCast]; omega) | (simp; done) | (simp; omega), ?_⟩
    conv => whnf
    refine ⟨by first | omega | (simp only [Int.toNat_natCast]; omega) | (simp; done) | (simp; omega), ?_⟩
    conv => whnf
    refine ⟨_, (tellB_spec _ p q sn xc gc qn _ nilD _ _), ?_⟩
    rintro q rfl
    conv => whnf
    refine ⟨_, _, .refl _, ?_, rfl, rfl⟩
    exact ⟨OLe.refl _, OLe.refl _, OLe.refl _, OLe.refl _, trivial⟩
theorem flushB3_spec (h : H) (p q : Pth) (sn : D) (xc gc : Int) (qn : D) (x y : Int) (now : Int) (m : Nat) (ob : AObj) (hs : h.st = 3) (hp : p.st = 2) (ho : ∃ f, ob = .row 58 2 m f) : LSpec Tryz.prog 9 [.ptr Z0 0, vi now] (bsIV h p q sn xc gc qn x y m ob) (fun r hl => r = .rsl Z1 2 0 m ∧ hl = [(Z0, .box (bsL h p q sn xc gc qn nilA (.rsl Z2 2 0 1) (.rsl Z3 1 0 2) (.rsl Z4 1 0 2))), (Z1, ob), (Z2, noteO), (Z3, row2 0 0), (Z4, row2 x y)]) := by
  obtain ⟨f, rfl⟩ := ho
  obtain ⟨st, tr, du, ot, pt, ou, pu, mi, wi, os_, is_, co⟩ := h
  dsimp only at hs
  subst hs
  refine LSpec.run ((tysXOk false [37] lentAb [3000000000 + 41])) followsB Tryz.func9 (by decide) rfl Tryz.ntmps9 (Nat.le_of_ble_eq_true rfl) rfl rfl fun w0 R0 Lo hGw => ?_
  conv => whnf
  refine ⟨by first | omega | (simp only [Int.toNat_natCast]; omega) | (simp; done) | (simp; omega), ?_⟩
  conv => whnf
  refine ⟨by first | omega | (simp only [Int.toNat_natCast]; omega) | (simp; done) | (simp; omega), ?_⟩
  conv => whnf
  refine ⟨by first | omega | (simp only [Int.toNat_natCast]; omega) | (simp; done) | (simp; omega), ?_⟩
  conv => whnf
  refine ⟨by first | omega | (simp only [Int.toNat_natCast]; omega) | (simp; done) | (simp; omega), ?_⟩
  conv => whnf
  refine ⟨_, (tellB_spec _ p q sn xc gc qn _ _ _ _), ?_⟩
  rintro q rfl
  conv => whnf
  refine ⟨by first | omega | (simp only [Int.toNat_natCast]; omega) | (simp; done) | (simp; omega), ?_⟩
  conv => whnf
  refine ⟨by first | omega | (simp only [Int.toNat_natCast]; omega) | (simp; done) | (simp; omega), ?_⟩
  conv => whnf
  refine ⟨by first | omega | (simp only [Int.toNat_natCast]; omega) | (simp; done) | (simp; omega), ?_⟩
  conv => whnf
  refine ⟨_, (thereN_spec _ p q sn xc gc qn nilD _ _ _ hp), ?_⟩
  rintro q rfl
  conv => whnf
  refine ⟨by first | omega | (simp only [Int.toNat_natCast]; omega) | (simp; done) | (simp; omega), ?_⟩
  conv => whnf
  refine ⟨by first | omega | (simp only [Int.toNat_natCast]; omega) | (simp; done) | (simp; omega), ?_⟩
  conv => whnf
  refine ⟨by first | omega | (simp only [Int.toNat_natCast]; omega) | (simp; done) | (simp; omega), ?_⟩
  conv => whnf
  refine ⟨_, (againB_spec _ p q sn xc gc qn nilD _ _ _ now), ?_⟩
  rintro q rfl
  conv => whnf
  refine ⟨by first | omega | (simp only [Int.toNat_natCast]; omega) | (simp; done) | (simp; omega), ?_⟩
  conv => whnf
  refine ⟨by first | omega | (simp only [Int.toNat_natCast]; omega) | (simp; done) | (simp; omega), ?_⟩
  conv => whnf
  refine ⟨by first | omega | (simp only [Int.toNat_natCast]; omega) | (simp; done) | (simp; omega), ?_⟩
  conv => whnf
  refine ⟨_, (freshB_spec _ p q sn xc gc qn nilD _ _ _ now), ?_⟩
  rintro q rfl
  conv => whnf
  refine ⟨by first | omega | decide +kernel, ?_⟩
  conv => whnf
  refine ⟨_, concat_spec.argsC ⟨.sl rfl fun k hk => by rcases (show k = 0 ∨ k = 1 by omega) with rfl | rfl <;> rfl, trivial⟩, ?_⟩
  rintro q ⟨f, rfl⟩
  conv => whnf
  refine ⟨_, _, .refl _, ?_, rfl, rfl⟩
  exact ⟨OLe.refl _, OLe.refl _, OLe.refl _, OLe.refl _, OLe.refl _, trivial⟩
theorem noted0_spec (h : H) (p q : Pth) (sn : D) (xc gc : Int) (qn : D) (x y : Int) : LSpec Tryz.prog 25 [.ptr Z0 0, vi 0] (bsI h p q sn xc gc qn x y) (fun r hl => r = .tup [] ∧ hl = bsI h p q sn xc gc qn x y) := by
  refine LSpec.run (tysBOk) followsB Tryz.func25 (by decide) rfl Tryz.ntmps25 (Nat.le_of_ble_eq_true rfl) rfl rfl fun w0 R0 Lo hGw => ?_
  conv => whnf
  refine ⟨_, _, .refl _, ?_, rfl, rfl⟩
  exact ⟨OLe.refl _, OLe.refl _, OLe.refl _, trivial⟩
theorem noted00_spec (h : H) (p q : Pth) (sn : D) (xc gc : Int) (qn : D) (x y : Int) : LSpec Tryz.prog 25 [.ptr Z0 0, vi 0] (bsIII h p q sn xc gc qn x y) (fun r hl => r = .tup [] ∧ hl = bsIII h p q sn xc gc qn x y) := by
  refine LSpec.run (tysBOk) followsB Tryz.func25 (by decide) rfl Tryz.ntmps25 (Nat.le_of_ble_eq_true rfl) rfl rfl fun w0 R0 Lo hGw => ?_
  conv => whnf
  refine ⟨_, _, .refl _, ?_, rfl, rfl⟩
  exact ⟨OLe.refl _, OLe.refl _, OLe.refl _, OLe.refl _, trivial⟩
/-- Nothing was sent by any stream of four. -/
abbrev sN : D := .sl 1 4 fun _ => [.i .u16 0]
theorem noted1_spec (h : H) (p q : Pth) (xc gc : Int) (x y : Int) : LSpec Tryz.prog 25 [.ptr Z0 0, vi 1] (bsI h p q sN xc gc sN x y) (fun r hl => r = .tup [] ∧ hl = [(Z0, .box (bsL h p q sN xc gc sN nilA (.rsl 9000 2 0 1) (.rsl Z1 1 0 2) (.rsl Z2 1 0 2))), (9000, noteO), (Z1, row2 0 0), (Z2, row2 x y)]) := by
  refine LSpec.run (tysBOk) followsB Tryz.func25 (by decide) rfl Tryz.ntmps25 (Nat.le_of_ble_eq_true rfl) rfl rfl fun w0 R0 Lo hGw => ?_
  conv => whnf
  refine ⟨_, (noteBI_spec h p q sN xc gc sN x y), ?_⟩
  rintro q hq ⟨rfl, rfl⟩
  conv => whnf
  refine ⟨_, _, .refl _, ?_, rfl, rfl⟩
  exact ⟨OLe.refl _, OLe.refl _, OLe.refl _, OLe.refl _, trivial⟩
/-- The answer to an Init; what is there then. -/
abbrev cIA : K := ⟨2, 0, 1000, 50, 60000, 0, 0, 0, 4, 4, []⟩
abbrev itIA : D := slT 2 encIt [⟨7, [99]⟩]
abbrev h2A : H := ⟨2, 1, 1000, 5, 50, 4294967290, 1000, 60000, 60000, 4, 4, [99]⟩
abbrev h3A : H := ⟨3, 0, 0, 5, 50, 4294967290, 1000, 60000, 60000, 4, 4, [99]⟩
abbrev cEcho : K := ⟨10, 0, 0, 0, 0, 0, 0, 0, 0, 0, [99]⟩
theorem take_IA : takeR (hO 5 4294967290 4) cIA [⟨7, [99]⟩] true 0 = ⟨h2A, [cEcho], 0⟩ := rfl
theorem take_CA : takeR h2A (K.of 11) [] true 0 = ⟨h3A, [], 1⟩ := rfl
abbrev kIL (c : K) (it : D) : List AVal := [vi c.ty, vi c.flags, v32 c.tsn, v32 c.tag, v32 c.window, v32 c.ppid, v16 c.stream, v16 c.ssn, v16 c.outs, v16 c.ins, nilA, nilA, .d it, vs c.text]
end Go.Proofs.YtbghocipmlobnaaGreat
