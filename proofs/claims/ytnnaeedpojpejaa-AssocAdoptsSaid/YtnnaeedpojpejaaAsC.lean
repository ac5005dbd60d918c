/- Chapter 19: an association is opened, sends, and is adopted: contracts. -/
import Derived.Test.YtnnaeedpojpejaaAsB
namespace Go.Proofs.Ytnnaeedpojpejaa
open Go Go.RowKit Towline Towline.Hand
set_option linter.unusedVariables false
set_option linter.unusedSimpArgs false
set_option maxRecDepth 20000
set_option maxHeartbeats 4000000
theorem grow_spec : PSpec Try.prog 30 [nilA, vi 0] (· = nilA) := by
  refine PSpec.run (tysOk) followsB Try.func30 (by decide) rfl Try.ntmps30 (Nat.le_of_ble_eq_true rfl) rfl fun w0 R0 hG => ?_
  conv => whnf
  refine ⟨by first | omega | decide +kernel, ?_⟩
  conv => whnf
  refine ⟨by first | omega | decide +kernel, ?_⟩
  conv => whnf
  exact ⟨_, .refl _, rfl, rfl⟩
theorem concat_spec : PSpec Try.prog 19 [.d (.sl 1 2 fun _ => [nilD])] (fun r => ∃ f, r = .d (.sl 14 0 f)) := by
  refine PSpec.run (tysOk) followsB Try.func19 (by decide) rfl Try.ntmps19 (Nat.le_of_ble_eq_true rfl) rfl fun w0 R0 hG => ?_
  conv => whnf
  refine ALoop.rounds (tysOk) followsB 3 ?_
  conv => whnf
  refine ⟨by first | omega | decide +kernel, ?_⟩
  conv => whnf
  refine ⟨by first | omega | decide +kernel, ?_⟩
  conv => whnf
  refine ⟨by first | omega | decide +kernel, ?_⟩
  conv => whnf
  refine ⟨by first | omega | decide +kernel, ?_⟩
  conv => whnf
  refine ⟨by first | omega | decide +kernel, ?_⟩
  conv => whnf
  refine ⟨by first | omega | decide +kernel, ?_⟩
  conv => whnf
  refine ⟨_, grow_spec, ?_⟩
  rintro q rfl
  conv => whnf
  refine ALoop.rounds (tysOk) followsB 3 ?_
  conv => whnf
  refine ⟨by first | omega | decide +kernel, ?_⟩
  conv => whnf
  refine ⟨⟨by omega, by simp only [ty44]; omega⟩, ?_⟩
  conv => whnf
  refine ⟨by first | omega | decide +kernel, ?_⟩
  conv => whnf
  refine ⟨by first | omega | decide +kernel, ?_⟩
  conv => whnf
  refine ⟨⟨by omega, by omega, by simp only [ty44]; omega⟩, ?_⟩
  conv => whnf
  refine ⟨by first | omega | decide +kernel, ?_⟩
  conv => whnf
  refine ⟨by first | omega | decide +kernel, ?_⟩
  conv => whnf
  exact ⟨_, .refl _, ⟨_, rfl⟩, rfl⟩
theorem flushI_spec (h : H) (sn : D) (xc gc : Int) (qn : D) (win : Int) (hs : h.st = 1) : LSpec Try.prog 6 [.ptr E0 0, vi 0] (asI h sn xc gc qn win) (fun r hl => r = nilA ∧ hl = asI h sn xc gc qn win) := by
  obtain ⟨st, tr, du, ot, pt, ou, pu, mi, wi, os_, is_, co⟩ := h
  dsimp only at hs
  subst hs
  refine LSpec.run ((tysXOk false [37] lentAs [3000000000 + 44])) followsB Try.func6 (by decide) rfl Try.ntmps6 (Nat.le_of_ble_eq_true rfl) rfl rfl fun w0 R0 Lo hG => ?_
  conv => whnf
  refine ⟨by first | omega | decide +kernel, ?_⟩
  conv => whnf
  refine ⟨by first | omega | decide +kernel, ?_⟩
  conv => whnf
  refine ⟨_, (tell_spec _ sn xc gc qn win nilD nilD _ _), ?_⟩
  rintro q rfl
  conv => whnf
  refine ⟨_, _, .refl _, ?_, rfl, rfl⟩
  exact ⟨OLe.refl _, OLe.refl _, OLe.refl _, trivial⟩
theorem flushII_spec (h : H) (sn : D) (xc gc : Int) (qn : D) (win : Int) (c : K) (hs : h.st = 1) : LSpec Try.prog 6 [.ptr E0 0, vi 0] (asII h sn xc gc qn win c) (fun r hl => r = .rsl E1 2 0 1 ∧ hl = [(E0, .box (asL h sn xc gc qn win nilA nilA (.rsl E2 1 0 1) (.rsl E3 1 0 1))), (E1, outO c), (E2, row0), (E3, row0)]) := by
  obtain ⟨st, tr, du, ot, pt, ou, pu, mi, wi, os_, is_, co⟩ := h
  dsimp only at hs
  subst hs
  refine LSpec.run ((tysXOk false [37] lentAs [3000000000 + 44])) followsB Try.func6 (by decide) rfl Try.ntmps6 (Nat.le_of_ble_eq_true rfl) rfl rfl fun w0 R0 Lo hG => ?_
  conv => whnf
  refine ⟨by first | omega | decide +kernel, ?_⟩
  conv => whnf
  refine ⟨by first | omega | decide +kernel, ?_⟩
  conv => whnf
  refine ⟨by first | omega | decide +kernel, ?_⟩
  conv => whnf
  refine ⟨_, (tell_spec _ sn xc gc qn win _ nilD _ _), ?_⟩
  rintro q rfl
  conv => whnf
  refine ⟨_, _, .refl _, ?_, rfl, rfl⟩
  exact ⟨OLe.refl _, OLe.refl _, OLe.refl _, OLe.refl _, trivial⟩
theorem flushIV_spec (h : H) (sn : D) (xc gc : Int) (qn : D) (win : Int) (c : K) (hs : h.st = 3) : LSpec Try.prog 6 [.ptr E0 0, vi 0] (asIV h sn xc gc qn win c) (fun r hl => r = .rsl E1 2 0 1 ∧ hl = [(E0, .box (asL h sn xc gc qn win nilA (.rsl E2 2 0 1) (.rsl E3 1 0 1) (.rsl E4 1 0 1))), (E1, outO c), (E2, noteO), (E3, row0), (E4, row0)]) := by
  obtain ⟨st, tr, du, ot, pt, ou, pu, mi, wi, os_, is_, co⟩ := h
  dsimp only at hs
  subst hs
  refine LSpec.run ((tysXOk false [37] lentAs [3000000000 + 44])) followsB Try.func6 (by decide) rfl Try.ntmps6 (Nat.le_of_ble_eq_true rfl) rfl rfl fun w0 R0 Lo hG => ?_
  conv => whnf
  refine ⟨by first | omega | decide +kernel, ?_⟩
  conv => whnf
  refine ⟨by first | omega | decide +kernel, ?_⟩
  conv => whnf
  refine ⟨by first | omega | decide +kernel, ?_⟩
  conv => whnf
  refine ⟨by first | omega | decide +kernel, ?_⟩
  conv => whnf
  refine ⟨_, (tell_spec _ sn xc gc qn win _ _ _ _), ?_⟩
  rintro q rfl
  conv => whnf
  refine ⟨by first | omega | decide +kernel, ?_⟩
  conv => whnf
  refine ⟨by first | omega | decide +kernel, ?_⟩
  conv => whnf
  refine ⟨by first | omega | decide +kernel, ?_⟩
  conv => whnf
  refine ⟨_, (thereA_spec _ sn xc gc qn win nilD _ _ _), ?_⟩
  rintro q rfl
  conv => whnf
  refine ⟨by first | omega | decide +kernel, ?_⟩
  conv => whnf
  refine ⟨by first | omega | decide +kernel, ?_⟩
  conv => whnf
  refine ⟨by first | omega | decide +kernel, ?_⟩
  conv => whnf
  refine ⟨_, (again_spec _ sn xc gc qn win nilD _ _ _), ?_⟩
  rintro q rfl
  conv => whnf
  refine ⟨by first | omega | decide +kernel, ?_⟩
  conv => whnf
  refine ⟨by first | omega | decide +kernel, ?_⟩
  conv => whnf
  refine ⟨by first | omega | decide +kernel, ?_⟩
  conv => whnf
  refine ⟨_, (fresh_spec _ sn xc gc qn win nilD _ _ _), ?_⟩
  rintro q rfl
  conv => whnf
  refine ⟨by first | omega | decide +kernel, ?_⟩
  conv => whnf
  refine ⟨_, concat_spec.argsC ⟨.sl rfl fun k hk => by rcases (show k = 0 ∨ k = 1 by omega) with rfl | rfl <;> rfl, trivial⟩, ?_⟩
  rintro q ⟨f, rfl⟩
  conv => whnf
  refine ⟨_, _, .refl _, ?_, rfl, rfl⟩
  exact ⟨OLe.refl _, OLe.refl _, OLe.refl _, OLe.refl _, OLe.refl _, trivial⟩
/-- A cookie's numbers are such. -/
structure TypS (s : S) : Prop where
  o : 0 ≤ s.outs ∧ s.outs < 65536
  i : 0 ≤ s.ins ∧ s.ins < 65536
  p : 0 ≤ s.ourPort ∧ s.ourPort < 65536
  q : 0 ≤ s.peerPort ∧ s.peerPort < 65536
/-- Is a cookie to be taken? -/
def fits (s : S) (tag : Int) : Bool := rightB s && decide (s.outs ≤ 16) && decide (s.ins ≤ 16) && decide (s.ourTag = tag)
theorem adoptF_spec (h : H) (sn : D) (xc gc : Int) (qn : D) (win : Int) (s : S) (ts : TypS s) (hs : h.st = 1) (hf : fits s h.ourTag = false) : LSpec Try.prog 8 [.ptr E0 0, sA s] (asI h sn xc gc qn win) (fun r hl => r = vb false ∧ hl = asI h sn xc gc qn win) := by
  obtain ⟨st, tr, du, ot, pt, ou, pu, mi, wi, os_, is_, co⟩ := h
  dsimp only at hs hf
  subst hs
  refine LSpec.run (tysAOk) followsB Try.func8 (by decide) rfl Try.ntmps8 (Nat.le_of_ble_eq_true rfl) rfl rfl fun w0 R0 Lo hG => ?_
  conv => whnf
  refine ⟨_, (right_spec s ts.o ts.i ts.p ts.q), ?_⟩
  conv => whnf
  unfold fits at hf
  by_cases g1 : rightB s = true
  rotate_left
  · rw [show rightB s = false from by simpa using g1]
    conv => whnf
    refine ⟨by kernel_rfl, ?_⟩
    conv => whnf
    refine ⟨_, _, .refl _, ?_, rfl, rfl⟩
    exact ⟨OLe.refl _, OLe.refl _, OLe.refl _, trivial⟩
  rw [g1] at hf
  rw [g1]
  conv => whnf
  by_cases g2 : 16 < s.outs
  · rw [show decide (16 < s.outs) = true from decide_eq_true g2]
    conv => whnf
    refine ⟨by kernel_rfl, ?_⟩
    conv => whnf
    refine ⟨_, _, .refl _, ?_, rfl, rfl⟩
    exact ⟨OLe.refl _, OLe.refl _, OLe.refl _, trivial⟩
  rw [show decide (16 < s.outs) = false from decide_eq_false g2]
  conv => whnf
  by_cases g3 : 16 < s.ins
  · rw [show decide (16 < s.ins) = true from decide_eq_true g3]
    conv => whnf
    refine ⟨by kernel_rfl, ?_⟩
    conv => whnf
    refine ⟨_, _, .refl _, ?_, rfl, rfl⟩
    exact ⟨OLe.refl _, OLe.refl _, OLe.refl _, trivial⟩
  rw [show decide (16 < s.ins) = false from decide_eq_false g3]
  conv => whnf
  have g4 : ¬ s.ourTag = ot := by
    intro e
    rw [decide_eq_true (show s.outs ≤ 16 by omega), decide_eq_true (show s.ins ≤ 16 by omega), decide_eq_true e] at hf
    cases hf
  rw [show (s.ourTag != ot) = true from bne_iff_ne.2 g4]
  conv => whnf
  refine ⟨by kernel_rfl, ?_⟩
  conv => whnf
  refine ⟨_, _, .refl _, ?_, rfl, rfl⟩
  exact ⟨OLe.refl _, OLe.refl _, OLe.refl _, trivial⟩
theorem adoptU_spec (h : H) (sn : D) (xc gc : Int) (qn : D) (win : Int) (c : K) (s : S) (hs : h.st = 3) : LSpec Try.prog 8 [.ptr E0 0, sA s] (asIV h sn xc gc qn win c) (fun r hl => r = vb false ∧ hl = asIV h sn xc gc qn win c) := by
  obtain ⟨st, tr, du, ot, pt, ou, pu, mi, wi, os_, is_, co⟩ := h
  dsimp only at hs
  subst hs
  refine LSpec.run (tysAOk) followsB Try.func8 (by decide) rfl Try.ntmps8 (Nat.le_of_ble_eq_true rfl) rfl rfl fun w0 R0 Lo hG => ?_
  conv => whnf
  refine ⟨by kernel_rfl, ?_⟩
  conv => whnf
  refine ⟨_, _, .refl _, ?_, rfl, rfl⟩
  exact ⟨OLe.refl _, OLe.refl _, OLe.refl _, OLe.refl _, OLe.refl _, trivial⟩
def adopted (h : H) (s : S) : H := ⟨3, 0, 0, s.ourTag, s.peerTag, h.ourTsn, s.peerTsn, h.mine, s.window, s.outs, s.ins, []⟩
theorem adoptT_spec (h : H) (n : Nat) (hn : n ≤ 16) (xc : Int) (win : Int) (s : S) (ts : TypS s) (hs : h.st = 1) (hf : fits s h.ourTag = true) (k m : Nat) (hk : s.ins = k) (hm : s.outs = m) : LSpec Try.prog 8 [.ptr E0 0, sA s] (asI h (.sl 1 n fun _ => [.i .u16 0]) xc 0 nilD win) (fun r hl => r = vb true ∧ hl = [(E0, .box (asL (adopted h s) (.sl 1 (min n m) fun _ => [.i .u16 0]) xc (IntKind.u32.wrap (s.peerTsn - 1)) (.sl 1 k fun _ => [.i .u16 0]) win (.rsl 73000 2 0 1) (.rsl 70000 2 0 1) (.rsl E1 1 0 1) (.rsl E2 1 0 1))), (73000, outO (K.of 11)), (70000, noteO), (E1, row0), (E2, row0)]) := by
  unfold fits at hf
  simp only [Bool.and_eq_true, decide_eq_true_eq] at hf
  obtain ⟨⟨⟨g1, g2⟩, g3⟩, g4⟩ := hf
  have hi : s.ins ≠ 0 := by
    have := of_decide_eq_true g1
    exact this.2.2.2.2.2.1
  obtain ⟨st, tr, du, ot, pt, ou, pu, mi, wi, os_, is_, co⟩ := h
  dsimp only at hs g4
  subst hs
  have ht1 := ts.o
  have ht2 := ts.i
  refine LSpec.run (tysAOk) followsB Try.func8 (by decide) rfl Try.ntmps8 (Nat.le_of_ble_eq_true rfl) rfl rfl fun w0 R0 Lo hG => ?_
  conv => whnf
  refine ⟨_, (right_spec s ts.o ts.i ts.p ts.q), ?_⟩
  conv => whnf
  rw [g1]
  conv => whnf
  rw [show decide (16 < s.outs) = false from decide_eq_false (by omega)]
  conv => whnf
  rw [show decide (16 < s.ins) = false from decide_eq_false (by omega)]
  conv => whnf
  rw [show (s.ourTag != ot) = false from bne_eq_false_iff_eq.2 g4]
  conv => whnf
  refine ⟨by kernel_rfl, ?_⟩
  conv => whnf
  refine ⟨_, (accept_spec s mi), ?_⟩
  conv => whnf
  refine ⟨by kernel_rfl, ?_⟩
  conv => whnf
  refine ⟨_, (metI_spec ⟨3, 0, 0, s.ourTag, s.peerTag, ou, s.peerTsn, mi, s.window, s.outs, s.ins, []⟩ n xc (by omega) k ⟨hk, by omega, by omega⟩ m ⟨hm, by omega⟩ win), ?_⟩
  rintro q hq ⟨rfl, rfl⟩
  conv => whnf
  refine ⟨_, (noteI_spec ⟨3, 0, 0, s.ourTag, s.peerTag, ou, s.peerTsn, mi, s.window, s.outs, s.ins, []⟩ (.sl 1 (min n m) fun _ => [.i .u16 0]) xc (IntKind.u32.wrap (s.peerTsn - 1)) (.sl 1 k fun _ => [.i .u16 0]) win), ?_⟩
  rintro q hq ⟨rfl, rfl⟩
  conv => whnf
  refine ⟨_, (LSpec.argsC (replyIII_spec ⟨3, 0, 0, s.ourTag, s.peerTag, ou, s.peerTsn, mi, s.window, s.outs, s.ins, []⟩ (.sl 1 (min n m) fun _ => [.i .u16 0]) xc (IntKind.u32.wrap (s.peerTsn - 1)) (.sl 1 k fun _ => [.i .u16 0]) win (K.of 11)) ⟨.refl _, .refl _, .sl rfl fun k hk => by cases k0 hk; rfl, trivial⟩), ?_⟩
  rintro q hq ⟨rfl, rfl⟩
  conv => whnf
  refine ⟨_, _, .refl _, ?_, rfl, rfl⟩
  exact ⟨OLe.refl _, OLe.refl _, OLe.refl _, OLe.refl _, OLe.refl _, trivial⟩

end Go.Proofs.Ytnnaeedpojpejaa
