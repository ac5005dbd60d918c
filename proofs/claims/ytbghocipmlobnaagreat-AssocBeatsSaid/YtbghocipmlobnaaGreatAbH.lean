/- Chapter 19: both ends of an association that is up. -/
import Derived.Test.YtbghocipmlobnaaGreatAbG
namespace Go.Proofs.YtbghocipmlobnaaGreat
open Go Go.RowKit Towline Towline.Hand Towline.Ab
set_option linter.unusedVariables false
set_option linter.unusedSimpArgs false
set_option maxRecDepth 20000
set_option maxHeartbeats 4000000
abbrev nilsO (t : Nat) : AObj := .row t 1 2 fun _ => [nilD]
abbrev pairO (a b c d e : Nat) : AObj := .box [.rsl a 1 0 2, .rsl b 1 0 2, .rsl c 1 0 2, .rsl d 1 0 2, .rsl e 1 0 2, vi 0]
abbrev endA (n d h : Nat) : AObj := .box (bsL h3A pB qB sN 4294967289 999 sN nilA (.rsl n 2 0 1) (.rsl d 1 0 2) (.rsl h 1 0 2))
abbrev endB (n d h : Nat) : AObj := .box (bsL hB pD qD sN 999 4294967289 sN nilA (.rsl n 2 0 1) (.rsl d 1 0 2) (.rsl h 1 0 2))
theorem metLaw_spec : LSpec Tryz.prog 5 [] [] (fun r hl => r = .ptr 62 0 ∧ hl = [(62, pairO 56 57 58 59 60), (56, .box [.ptr 9000 0, .ptr 16000 0]), (57, nilsO 327), (58, nilsO 71), (59, nilsO 84), (60, nilsO 87), (9000, endA 44000 9002 9003), (44000, noteO), (9002, row2 0 0), (9003, row2 0 0), (16000, endB 16002 16003 16004), (16002, noteO), (16003, row2 0 0), (16004, row2 0 0)]) := by
  refine LSpec.run (tysBOk) followsB Tryz.func5 (by decide) rfl Tryz.ntmps5 (Nat.le_of_ble_eq_true rfl) rfl rfl fun w0 R0 Lo hGw => ?_
  conv => whnf
  refine ⟨by first | omega | decide +kernel, ?_⟩
  conv => whnf
  refine ⟨_, (LSpec.argsC openB_spec ⟨.sl rfl fun k hk => by rcases k2 hk with rfl | rfl <;> rfl, .refl _, .refl _, .refl _, .refl _, .refl _, trivial⟩), ?_⟩
  rintro q hq ⟨rfl, rfl⟩
  conv => whnf
  refine ⟨by first | omega | decide +kernel, ?_⟩
  conv => whnf
  refine ⟨_, (LSpec.argsC acceptB_spec ⟨.refl _, .sl rfl fun k hk => by rcases k2 hk with rfl | rfl <;> rfl, .refl _, .refl _, trivial⟩), ?_⟩
  rintro q hq ⟨rfl, rfl⟩
  conv => whnf
  dsimp only [newBase, Nat.reduceAdd, Nat.reduceMul]
  refine ⟨_, (flushB1_spec h1A pB qB sN 4294967289 0 nilD 0 0 1 _ (.inl rfl) ⟨_, rfl⟩), ?_⟩
  rintro q hq ⟨rfl, rfl⟩
  conv => whnf
  refine ⟨_, (LSpec.argsC (takeIAw_spec pB qB 4294967289 0) ⟨.refl _, .agg ⟨.refl _, .refl _, .refl _, .refl _, .refl _, .refl _, .refl _, .refl _, .refl _, .refl _, .refl _, .refl _, .sl rfl fun k hk => by cases k0 hk; rfl, .refl _, trivial⟩, .refl _, .refl _, trivial⟩), ?_⟩
  rintro q hq ⟨rfl, rfl⟩
  conv => whnf
  refine ⟨_, (flushB1_spec h2A pB qB sN 4294967289 999 sN 0 0 1 _ (.inr rfl) ⟨_, rfl⟩), ?_⟩
  rintro q hq ⟨rfl, rfl⟩
  conv => whnf
  refine ⟨_, (takeCAw_spec pB qB 4294967289 0), ?_⟩
  rintro q hq ⟨rfl, rfl⟩
  conv => whnf
  dsimp only [newBase, Nat.reduceAdd, Nat.reduceMul]
  refine ⟨_, (flushB3_spec hB pD qD sN 999 4294967289 sN 0 0 0 1 _ rfl rfl ⟨_, rfl⟩), ?_⟩
  rintro q hq ⟨rfl, rfl⟩
  conv => whnf
  dsimp only [newBase, Nat.reduceAdd, Nat.reduceMul]
  refine ⟨by first | omega | decide +kernel, ?_⟩
  conv => whnf
  refine ⟨by first | omega | decide +kernel, ?_⟩
  conv => whnf
  refine ⟨by first | omega | decide +kernel, ?_⟩
  conv => whnf
  refine ⟨_, (stateB_spec h3A pB qB sN 4294967289 999 sN _ _ _ _), ?_⟩
  rintro q rfl
  conv => whnf
  refine ⟨by first | omega | decide +kernel, ?_⟩
  conv => whnf
  refine ⟨by first | omega | decide +kernel, ?_⟩
  conv => whnf
  refine ⟨by first | omega | decide +kernel, ?_⟩
  conv => whnf
  refine ⟨_, (stateB_spec hB pD qD sN 999 4294967289 sN _ _ _ _), ?_⟩
  rintro q rfl
  conv => whnf
  refine ⟨⟨by omega, by omega, by simp only [ty327]; omega, by omega⟩, ?_⟩
  conv => whnf
  refine ⟨⟨by omega, by omega, by simp only [ty71]; omega, by omega⟩, ?_⟩
  conv => whnf
  refine ⟨⟨by omega, by omega, by simp only [ty84]; omega, by omega⟩, ?_⟩
  conv => whnf
  refine ⟨⟨by omega, by omega, by simp only [ty87]; omega, by omega⟩, ?_⟩
  conv => whnf
  refine ⟨by kernel_rfl, ?_⟩
  conv => whnf
  refine ⟨_, _, .refl _, ?_, rfl, rfl⟩
  exact ⟨OLe.refl _, OLe.refl _, OLe.refl _, OLe.refl _, OLe.refl _, OLe.refl _, OLe.refl _, OLe.refl _, OLe.refl _, OLe.refl _, OLe.refl _, OLe.refl _, OLe.refl _, OLe.refl _, trivial⟩
end Go.Proofs.YtbghocipmlobnaaGreat
