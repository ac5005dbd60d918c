/- Chapter 19: an association is opened: contracts; the law of adoption. -/
import Derived.Test.YtbghocipmlobnaaGreatAsC
namespace Go.Proofs.YtbghocipmlobnaaGreat
open Go Go.RowKit Towline Towline.Hand
set_option linter.unusedVariables false
set_option linter.unusedSimpArgs false
set_option maxRecDepth 20000
set_option maxHeartbeats 4000000
abbrev hO (tag tsn n : Int) : H := ⟨1, 1, 1000, tag, 0, tsn, 0, 60000, 0, n, n, []⟩
abbrev cO (tag tsn n : Int) : K := ⟨1, 0, tsn, tag, 60000, 0, 0, 0, n, n, []⟩
theorem openR_ok (tag tsn n : Int) (g1 : ¬ tag = 0) (g3 : ¬ n = 0) : openR H.nil tag tsn 60000 n 0 = ⟨hO tag tsn n, [cO tag tsn n], 0⟩ := by
  unfold openR
  rw [if_neg (by simp [H.nil]), if_neg (by simp [g1, g3])]
  rfl
abbrev zeros (n : Nat) : D := .sl 1 n fun _ => [.i .u16 0]
theorem openA_spec (tag tsn : Int) (ht : ¬ tag = 0) (n : Nat) (hn : 1 ≤ n ∧ n ≤ 16) : LSpec Tryz.prog 11 [adr1, v32 tag, v32 tsn, v32 60000, v16 n, vi 0] [] (fun r hl => r = .tup [.ptr 25000 0, vi 0] ∧ hl = [(25000, .box (asL (hO tag tsn n) (zeros n) (IntKind.u32.wrap (tsn - 1)) 0 nilD 60000 (.rsl 69000 2 0 1) nilA (.rsl 25001 1 0 1) (.rsl 25002 1 0 1))), (69000, outO (cO tag tsn n)), (25001, row0), (25002, row0)]) := by
  refine LSpec.run (tysAOk) followsB Tryz.func11 (by decide) rfl Tryz.ntmps11 (Nat.le_of_ble_eq_true rfl) rfl rfl fun w0 R0 Lo hGw => ?_
  conv => whnf
  refine ⟨_, begin_spec, ?_⟩
  rintro q hq ⟨rfl, rfl⟩
  conv => whnf
  refine ⟨by first | omega | (simp only [Int.toNat_natCast]; omega) | (simp; done) | (simp; omega), ?_⟩
  conv => whnf
  refine ⟨_, (storeNew_spec n hn), ?_⟩
  rintro q rfl
  conv => whnf
  have hp := open_spec H.nil tag tsn 60000 n 0
  rw [openR_ok tag tsn n ht (by omega)] at hp
  refine ⟨_, hp, ?_⟩
  rintro q rfl
  conv => whnf
  refine ⟨_, (sentNew_spec tsn), ?_⟩
  conv => whnf
  refine ⟨by kernel_rfl, ?_⟩
  conv => whnf
  refine ⟨_, (LSpec.argsC (replyI_spec (hO tag tsn n) (zeros n) (IntKind.u32.wrap (tsn - 1)) 0 nilD 60000 (cO tag tsn n)) ⟨.refl _, .refl _, .sl rfl fun k hk => by cases k0 hk; rfl, trivial⟩), ?_⟩
  rintro q hq ⟨rfl, rfl⟩
  conv => whnf
  refine ⟨_, _, .refl _, ?_, rfl, rfl⟩
  exact ⟨OLe.refl _, OLe.refl _, OLe.refl _, OLe.refl _, trivial⟩
theorem openN_spec (tag tsn n : Int) : LSpec Tryz.prog 11 [nilA, v32 tag, v32 tsn, v32 60000, v16 n, vi 0] [] (fun r hl => r = .tup [.d (.v (.pointer none)), vi 1] ∧ hl = []) := by
  refine LSpec.run (tysAOk) followsB Tryz.func11 (by decide) rfl Tryz.ntmps11 (Nat.le_of_ble_eq_true rfl) rfl rfl fun w0 R0 Lo hGw => ?_
  conv => whnf
  refine ⟨_, begin0_spec, ?_⟩
  rintro q hq ⟨rfl, rfl⟩
  conv => whnf
  refine ⟨_, _, .refl _, ?_, rfl, rfl⟩
  exact trivial
theorem open0_spec (tsn : Int) (n : Nat) (hn : 1 ≤ n ∧ n ≤ 16) : LSpec Tryz.prog 11 [adr1, v32 0, v32 tsn, v32 60000, v16 n, vi 0] [] (fun r hl => r = .tup [.d (.v (.pointer none)), vi 1] ∧ hl = []) := by
  refine LSpec.run (tysAOk) followsB Tryz.func11 (by decide) rfl Tryz.ntmps11 (Nat.le_of_ble_eq_true rfl) rfl rfl fun w0 R0 Lo hGw => ?_
  conv => whnf
  refine ⟨_, begin_spec, ?_⟩
  rintro q hq ⟨rfl, rfl⟩
  conv => whnf
  refine ⟨by first | omega | (simp only [Int.toNat_natCast]; omega) | (simp; done) | (simp; omega), ?_⟩
  conv => whnf
  refine ⟨_, (storeNew_spec n hn), ?_⟩
  rintro q rfl
  conv => whnf
  have hp := open_spec H.nil 0 tsn 60000 n 0
  rw [show openR H.nil 0 tsn 60000 n 0 = ⟨H.nil, [], 1⟩ from by unfold openR; rw [if_neg (by simp [H.nil]), if_pos (.inl rfl)]] at hp
  refine ⟨_, hp, ?_⟩
  rintro q rfl
  conv => whnf
  refine ⟨_, _, .refl _, ?_, rfl, rfl⟩
  exact trivial
end Go.Proofs.YtbghocipmlobnaaGreat
