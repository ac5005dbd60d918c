/- Chapter 19: an association of two paths: the answers to what it began with. -/
import Derived.Test.YtbghocipmlobnaaGreatAbD
namespace Go.Proofs.YtbghocipmlobnaaGreat
open Go Go.RowKit Towline Towline.Hand Towline.Ab
set_option linter.unusedVariables false
set_option linter.unusedSimpArgs false
set_option maxRecDepth 20000
set_option maxHeartbeats 4000000
theorem takeIA_spec : PSpec Tryz.prog 57 [hA (hO 5 4294967290 4), .agg (kIL cIA itIA), vb true, vi 0] (· = rA ⟨h2A, [cEcho], 0⟩) :=
  take_IA ▸ (take_spec (hO 5 4294967290 4) cIA (.v (.slice none 0 0)) (.v (.slice none 0 0)) [⟨7, [99]⟩] true 0 (by decide) (by decide)).argsC ⟨.refl _, .refl _, .refl _, .refl _, trivial⟩
theorem takeCA_spec : PSpec Tryz.prog 57 [hA h2A, .agg (kIL (K.of 11) nilD), vb true, vi 0] (· = rA ⟨h3A, [], 1⟩) :=
  take_CA ▸ (take_spec h2A (K.of 11) (.v (.slice none 0 0)) (.v (.slice none 0 0)) [] true 0 (by decide) (by decide)).argsC ⟨.refl _, .agg ⟨.refl _, .refl _, .refl _, .refl _, .refl _, .refl _, .refl _, .refl _, .refl _, .refl _, .refl _, .refl _, .nil, .refl _, trivial⟩, .refl _, .refl _, trivial⟩
theorem controlIA_spec (p q : Pth) (xc : Int) (x y : Int) : LSpec Tryz.prog 20 [.ptr Z0 0, .agg (kIL cIA itIA), vi 0, vi 0] (bsI (hO 5 4294967290 4) p q sN xc 0 nilD x y) (fun r hl => r = .tup [] ∧ hl = [(Z0, .box (bsL h2A p q sN xc 999 sN (.rsl 74000 2 0 1) nilA (.rsl Z1 1 0 2) (.rsl Z2 1 0 2))), (Z1, row2 0 0), (Z2, row2 x y), (74000, out1 0 cEcho nilD)]) := by
  refine LSpec.run (tysBOk) followsB Tryz.func20 (by decide) rfl Tryz.ntmps20 (Nat.le_of_ble_eq_true rfl) rfl rfl fun w0 R0 Lo hGw => ?_
  conv => whnf
  refine ⟨by first | omega | decide +kernel, ?_⟩
  conv => whnf
  refine ⟨by first | omega | decide +kernel, ?_⟩
  conv => whnf
  refine ⟨_, (emptyB_spec _ p q sN xc 0 nilD nilD nilD _ _), ?_⟩
  conv => whnf
  refine ⟨_, takeIA_spec, ?_⟩
  conv => whnf
  refine ⟨by kernel_rfl, ?_⟩
  conv => whnf
  refine ⟨_, (metB_spec h2A p q xc x y rfl rfl), ?_⟩
  rintro q hq ⟨rfl, rfl⟩
  conv => whnf
  refine ⟨_, (noted0_spec h2A p q sN xc 999 sN x y), ?_⟩
  rintro q hq ⟨rfl, rfl⟩
  conv => whnf
  refine ALoop.rounds tysBOk followsB 2 ?_
  conv => whnf
  refine ⟨by first | omega | decide +kernel, ?_⟩
  conv => whnf
  refine ⟨_, (LSpec.argsC (reply0I_spec h2A p q sN xc 999 sN x y cEcho nilD) ⟨.refl _, .refl _, .sl rfl fun k hk => by cases k0 hk; rfl, trivial⟩), ?_⟩
  rintro q hq ⟨rfl, rfl⟩
  conv => whnf
  refine ⟨by first | omega | (simp only [Int.toNat_natCast]; omega) | (simp; done) | (simp; omega), ?_⟩
  conv => whnf
  refine ⟨_, _, .refl _, ?_, rfl, rfl⟩
  exact ⟨OLe.refl _, OLe.refl _, OLe.refl _, OLe.refl _, trivial⟩
theorem controlCA_spec (p q : Pth) (xc : Int) (x y : Int) : LSpec Tryz.prog 20 [.ptr Z0 0, .agg (kIL (K.of 11) nilD), vi 0, vi 0] (bsI h2A p q sN xc 999 sN x y) (fun r hl => r = .tup [] ∧ hl = [(Z0, .box (bsL h3A p q sN xc 999 sN nilA (.rsl 54000 2 0 1) (.rsl Z1 1 0 2) (.rsl Z2 1 0 2))), (54000, noteO), (Z1, row2 0 0), (Z2, row2 x y)]) := by
  refine LSpec.run (tysBOk) followsB Tryz.func20 (by decide) rfl Tryz.ntmps20 (Nat.le_of_ble_eq_true rfl) rfl rfl fun w0 R0 Lo hGw => ?_
  conv => whnf
  refine ⟨by first | omega | decide +kernel, ?_⟩
  conv => whnf
  refine ⟨by first | omega | decide +kernel, ?_⟩
  conv => whnf
  refine ⟨_, (emptyB_spec _ p q sN xc 999 sN nilD nilD _ _), ?_⟩
  conv => whnf
  refine ⟨_, takeCA_spec, ?_⟩
  conv => whnf
  refine ⟨by kernel_rfl, ?_⟩
  conv => whnf
  refine ⟨_, (noted1_spec h3A p q xc 999 x y), ?_⟩
  rintro q hq ⟨rfl, rfl⟩
  conv => whnf
  refine ALoop.rounds tysBOk followsB 1 ?_
  conv => whnf
  refine ⟨_, _, .refl _, ?_, rfl, rfl⟩
  exact ⟨OLe.refl _, OLe.refl _, OLe.refl _, OLe.refl _, trivial⟩
end Go.Proofs.YtbghocipmlobnaaGreat
