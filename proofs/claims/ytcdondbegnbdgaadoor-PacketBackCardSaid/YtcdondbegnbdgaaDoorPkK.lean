/- Chapter 8: what stands at chapter 7's edge: contracts. Printed by genPk.py. -/
import Derived.Test.YtcdondbegnbdgaaDoorChJ
namespace Go.Proofs.YtcdondbegnbdgaaDoor
open Go Go.RowKit Towline Towline.Tlv Towline.Chunk
set_option linter.unusedVariables false
set_option linter.unusedSimpArgs false
set_option maxRecDepth 20000
set_option maxHeartbeats 1000000
theorem Ch.ext_of {c d : Ch} (h1 : c.ty = d.ty) (h2 : c.flags = d.flags) (h3 : c.tsn = d.tsn) (h4 : c.tag = d.tag) (h5 : c.window = d.window) (h6 : c.ppid = d.ppid) (h7 : c.stream = d.stream) (h8 : c.ssn = d.ssn) (h9 : c.outs = d.outs) (h10 : c.ins = d.ins) (h11 : c.text = d.text) (h12 : c.gaps = d.gaps) (h13 : c.dups = d.dups) (h14 : c.items = d.items) : c = d := by
  cases c; cases d
  simp only at *
  subst_vars
  rfl
theorem rsame_spec (c d : Ch) (hg : c.gaps.length ≤ 2 ^ 40) (hd : c.dups.length ≤ 2 ^ 40) (hi : c.items.length ≤ 2 ^ 40) : PSpec Tryd.prog 30 [cA c, cA d] (· = tvb (decide (c = d))) := by
  refine PSpec.run (tysOk) followsB Tryd.func30 (by decide) rfl Tryd.ntmps30 (Nat.le_of_ble_eq_true rfl) rfl fun w0 R0 => ?_
  conv => whnf
  by_cases q_ty : c.ty = d.ty
  rotate_left
  · rw [show (c.ty != d.ty) = true from by simp [q_ty], show decide (c = d) = false from decide_eq_false fun e => q_ty (congrArg Ch.ty e)]
    conv => whnf
    exact ⟨_, .refl _, rfl, rfl⟩
  rw [show (c.ty != d.ty) = false from by simp [q_ty]]
  conv => whnf
  by_cases q_flags : c.flags = d.flags
  rotate_left
  · rw [show (c.flags != d.flags) = true from by simp [q_flags], show decide (c = d) = false from decide_eq_false fun e => q_flags (congrArg Ch.flags e)]
    conv => whnf
    exact ⟨_, .refl _, rfl, rfl⟩
  rw [show (c.flags != d.flags) = false from by simp [q_flags]]
  conv => whnf
  by_cases q_tsn : c.tsn = d.tsn
  rotate_left
  · rw [show (c.tsn != d.tsn) = true from by simp [q_tsn], show decide (c = d) = false from decide_eq_false fun e => q_tsn (congrArg Ch.tsn e)]
    conv => whnf
    exact ⟨_, .refl _, rfl, rfl⟩
  rw [show (c.tsn != d.tsn) = false from by simp [q_tsn]]
  conv => whnf
  by_cases q_tag : c.tag = d.tag
  rotate_left
  · rw [show (c.tag != d.tag) = true from by simp [q_tag], show decide (c = d) = false from decide_eq_false fun e => q_tag (congrArg Ch.tag e)]
    conv => whnf
    exact ⟨_, .refl _, rfl, rfl⟩
  rw [show (c.tag != d.tag) = false from by simp [q_tag]]
  conv => whnf
  by_cases q_window : c.window = d.window
  rotate_left
  · rw [show (c.window != d.window) = true from by simp [q_window], show decide (c = d) = false from decide_eq_false fun e => q_window (congrArg Ch.window e)]
    conv => whnf
    exact ⟨_, .refl _, rfl, rfl⟩
  rw [show (c.window != d.window) = false from by simp [q_window]]
  conv => whnf
  by_cases q_ppid : c.ppid = d.ppid
  rotate_left
  · rw [show (c.ppid != d.ppid) = true from by simp [q_ppid], show decide (c = d) = false from decide_eq_false fun e => q_ppid (congrArg Ch.ppid e)]
    conv => whnf
    exact ⟨_, .refl _, rfl, rfl⟩
  rw [show (c.ppid != d.ppid) = false from by simp [q_ppid]]
  conv => whnf
  by_cases q_stream : c.stream = d.stream
  rotate_left
  · rw [show (c.stream != d.stream) = true from by simp [q_stream], show decide (c = d) = false from decide_eq_false fun e => q_stream (congrArg Ch.stream e)]
    conv => whnf
    exact ⟨_, .refl _, rfl, rfl⟩
  rw [show (c.stream != d.stream) = false from by simp [q_stream]]
  conv => whnf
  by_cases q_ssn : c.ssn = d.ssn
  rotate_left
  · rw [show (c.ssn != d.ssn) = true from by simp [q_ssn], show decide (c = d) = false from decide_eq_false fun e => q_ssn (congrArg Ch.ssn e)]
    conv => whnf
    exact ⟨_, .refl _, rfl, rfl⟩
  rw [show (c.ssn != d.ssn) = false from by simp [q_ssn]]
  conv => whnf
  by_cases q_outs : c.outs = d.outs
  rotate_left
  · rw [show (c.outs != d.outs) = true from by simp [q_outs], show decide (c = d) = false from decide_eq_false fun e => q_outs (congrArg Ch.outs e)]
    conv => whnf
    exact ⟨_, .refl _, rfl, rfl⟩
  rw [show (c.outs != d.outs) = false from by simp [q_outs]]
  conv => whnf
  by_cases q_ins : c.ins = d.ins
  rotate_left
  · rw [show (c.ins != d.ins) = true from by simp [q_ins], show decide (c = d) = false from decide_eq_false fun e => q_ins (congrArg Ch.ins e)]
    conv => whnf
    exact ⟨_, .refl _, rfl, rfl⟩
  rw [show (c.ins != d.ins) = false from by simp [q_ins]]
  conv => whnf
  by_cases q_text : c.text = d.text
  rotate_left
  · rw [show (c.text != d.text) = true from by simp [q_text], show decide (c = d) = false from decide_eq_false fun e => q_text (congrArg Ch.text e)]
    conv => whnf
    exact ⟨_, .refl _, rfl, rfl⟩
  rw [show (c.text != d.text) = false from by simp [q_text]]
  conv => whnf
  by_cases l_gaps : c.gaps.length = d.gaps.length
  rotate_left
  · rw [show ((c.gaps.length : Int) != (d.gaps.length : Int)) = true from by simp; omega, show decide (c = d) = false from decide_eq_false fun e => l_gaps (congrArg (fun x : Ch => x.gaps.length) e)]
    conv => whnf
    exact ⟨_, .refl _, rfl, rfl⟩
  rw [show ((c.gaps.length : Int) != (d.gaps.length : Int)) = false from by simp; omega]
  conv => whnf
  by_cases l_dups : c.dups.length = d.dups.length
  rotate_left
  · rw [show ((c.dups.length : Int) != (d.dups.length : Int)) = true from by simp; omega, show decide (c = d) = false from decide_eq_false fun e => l_dups (congrArg (fun x : Ch => x.dups.length) e)]
    conv => whnf
    exact ⟨_, .refl _, rfl, rfl⟩
  rw [show ((c.dups.length : Int) != (d.dups.length : Int)) = false from by simp; omega]
  conv => whnf
  by_cases l_items : c.items.length = d.items.length
  rotate_left
  · rw [show ((c.items.length : Int) != (d.items.length : Int)) = true from by simp; omega, show decide (c = d) = false from decide_eq_false fun e => l_items (congrArg (fun x : Ch => x.items.length) e)]
    conv => whnf
    exact ⟨_, .refl _, rfl, rfl⟩
  rw [show ((c.items.length : Int) != (d.items.length : Int)) = false from by simp; omega]
  conv => whnf
  refine ALoop.introR tysOk followsB (fun k : {k // k ≤ c.gaps.length ∧ ∀ j, j < k → c.gaps.getD j default = d.gaps.getD j default} => ([(2, .ptr 2 0), (3, .ptr 3 0), (5, tvi k.1)], [(2, .box (cL c) none), (3, .box (cL d) none)])) (fun k => c.gaps.length - k.1) ⟨0, by omega, fun j hj => by omega⟩ ⟨.refl _, .refl _, .refl _, OLe.refl _, OLe.refl _, trivial⟩ ?_
  rintro ⟨k, hk, hj⟩
  dsimp only
  conv => whnf
  split <;> rename_i h1
  · have hlt : k < c.gaps.length := by simpa using h1
    conv => whnf
    refine ⟨by first | omega | (simp only [Int.toNat_natCast]; omega) | (simp; done) | (simp; omega), ?_⟩
    conv => whnf
    refine ⟨by first | omega | (simp only [Int.toNat_natCast]; omega) | (simp; done) | (simp; omega), ?_⟩
    conv => whnf
    refine ⟨by kernel_rfl, ?_⟩
    conv => whnf
    by_cases h3 : c.gaps.getD k default = d.gaps.getD k default
    rotate_left
    · by_cases h4 : (c.gaps.getD k default).1 = (d.gaps.getD k default).1
      · have h5 : ¬ (c.gaps.getD k default).2 = (d.gaps.getD k default).2 := fun e => h3 (Prod.ext h4 e)
        rw [show ((c.gaps.getD (Int.toNat k) default).1 == (d.gaps.getD (Int.toNat k) default).1) = true from beq_iff_eq.2 h4, show ((c.gaps.getD (Int.toNat k) default).2 == (d.gaps.getD (Int.toNat k) default).2) = false from beq_eq_false_iff_ne.2 h5, show decide (c = d) = false from decide_eq_false fun e => h3 (by rw [e])]
        conv => whnf
        exact ⟨_, .refl _, rfl, rfl⟩
      · rw [show ((c.gaps.getD (Int.toNat k) default).1 == (d.gaps.getD (Int.toNat k) default).1) = false from beq_eq_false_iff_ne.2 h4, show decide (c = d) = false from decide_eq_false fun e => h3 (by rw [e])]
        conv => whnf
        exact ⟨_, .refl _, rfl, rfl⟩
    rw [show ((c.gaps.getD (Int.toNat k) default).1 == (d.gaps.getD (Int.toNat k) default).1) = true from beq_iff_eq.2 (by rw [show c.gaps.getD (Int.toNat k) default = d.gaps.getD (Int.toNat k) default from h3]), show ((c.gaps.getD (Int.toNat k) default).2 == (d.gaps.getD (Int.toNat k) default).2) = true from beq_iff_eq.2 (by rw [show c.gaps.getD (Int.toNat k) default = d.gaps.getD (Int.toNat k) default from h3])]
    conv => whnf
    refine ⟨by first | omega | (simp only [Int.toNat_natCast]; omega) | (simp; done) | (simp; omega), ?_⟩
    conv => whnf
    exact ⟨⟨k + 1, by omega, fun j hj' => (Nat.lt_or_eq_of_le (Nat.le_of_lt_succ hj')).elim (hj j) (fun e => e ▸ h3)⟩, [], by dsimp only; omega, .refl _, .refl _, .refl _, OLe.refl _, OLe.refl _, trivial⟩
  have hlt : ¬ k < c.gaps.length := by simpa using h1
  have e_gaps : c.gaps = d.gaps := ext_getD l_gaps fun j hj' => hj j (by omega)
  conv => whnf
  refine ALoop.introR tysOk followsB (fun k : {k // k ≤ c.dups.length ∧ ∀ j, j < k → c.dups.getD j default = d.dups.getD j default} => ([(2, .ptr 2 0), (3, .ptr 3 0), (6, tvi k.1)], [(2, .box (cL c) none), (3, .box (cL d) none)])) (fun k => c.dups.length - k.1) ⟨0, by omega, fun j hj => by omega⟩ ⟨.refl _, .refl _, .refl _, OLe.refl _, OLe.refl _, trivial⟩ ?_
  rintro ⟨k, hk, hj⟩
  dsimp only
  conv => whnf
  split <;> rename_i h1
  · have hlt : k < c.dups.length := by simpa using h1
    conv => whnf
    refine ⟨by first | omega | (simp only [Int.toNat_natCast]; omega) | (simp; done) | (simp; omega), ?_⟩
    conv => whnf
    refine ⟨by first | omega | (simp only [Int.toNat_natCast]; omega) | (simp; done) | (simp; omega), ?_⟩
    conv => whnf
    refine ⟨by kernel_rfl, ?_⟩
    conv => whnf
    by_cases h3 : c.dups.getD k default = d.dups.getD k default
    rotate_left
    · rw [show (c.dups.getD (Int.toNat k) default != d.dups.getD (Int.toNat k) default) = true from bne_iff_ne.2 h3, show decide (c = d) = false from decide_eq_false fun e => h3 (by rw [e])]
      conv => whnf
      exact ⟨_, .refl _, rfl, rfl⟩
    rw [show (c.dups.getD (Int.toNat k) default != d.dups.getD (Int.toNat k) default) = false from by rw [show c.dups.getD (Int.toNat k) default = d.dups.getD (Int.toNat k) default from h3]; exact bne_self_eq_false _]
    conv => whnf
    refine ⟨by first | omega | (simp only [Int.toNat_natCast]; omega) | (simp; done) | (simp; omega), ?_⟩
    conv => whnf
    exact ⟨⟨k + 1, by omega, fun j hj' => (Nat.lt_or_eq_of_le (Nat.le_of_lt_succ hj')).elim (hj j) (fun e => e ▸ h3)⟩, [], by dsimp only; omega, .refl _, .refl _, .refl _, OLe.refl _, OLe.refl _, trivial⟩
  have hlt : ¬ k < c.dups.length := by simpa using h1
  have e_dups : c.dups = d.dups := ext_getD l_dups fun j hj' => hj j (by omega)
  conv => whnf
  refine ALoop.introR tysOk followsB (fun k : {k // k ≤ c.items.length ∧ ∀ j, j < k → c.items.getD j default = d.items.getD j default} => ([(2, .ptr 2 0), (3, .ptr 3 0), (7, tvi k.1)], [(2, .box (cL c) none), (3, .box (cL d) none)])) (fun k => c.items.length - k.1) ⟨0, by omega, fun j hj => by omega⟩ ⟨.refl _, .refl _, .refl _, OLe.refl _, OLe.refl _, trivial⟩ ?_
  rintro ⟨k, hk, hj⟩
  dsimp only
  conv => whnf
  split <;> rename_i h1
  · have hlt : k < c.items.length := by simpa using h1
    conv => whnf
    refine ⟨by first | omega | (simp only [Int.toNat_natCast]; omega) | (simp; done) | (simp; omega), ?_⟩
    conv => whnf
    refine ⟨by first | omega | (simp only [Int.toNat_natCast]; omega) | (simp; done) | (simp; omega), ?_⟩
    conv => whnf
    refine ⟨by kernel_rfl, ?_⟩
    conv => whnf
    by_cases h3 : c.items.getD k default = d.items.getD k default
    rotate_left
    · by_cases h4 : (c.items.getD k default).ty = (d.items.getD k default).ty
      · have h5 : ¬ (c.items.getD k default).v = (d.items.getD k default).v := fun e => h3 (It.ext_of h4 e)
        rw [show ((c.items.getD (Int.toNat k) default).ty == (d.items.getD (Int.toNat k) default).ty) = true from beq_iff_eq.2 h4, show ((c.items.getD (Int.toNat k) default).v == (d.items.getD (Int.toNat k) default).v) = false from beq_eq_false_iff_ne.2 h5, show decide (c = d) = false from decide_eq_false fun e => h3 (by rw [e])]
        conv => whnf
        exact ⟨_, .refl _, rfl, rfl⟩
      · rw [show ((c.items.getD (Int.toNat k) default).ty == (d.items.getD (Int.toNat k) default).ty) = false from beq_eq_false_iff_ne.2 h4, show decide (c = d) = false from decide_eq_false fun e => h3 (by rw [e])]
        conv => whnf
        exact ⟨_, .refl _, rfl, rfl⟩
    rw [show ((c.items.getD (Int.toNat k) default).ty == (d.items.getD (Int.toNat k) default).ty) = true from beq_iff_eq.2 (by rw [show c.items.getD (Int.toNat k) default = d.items.getD (Int.toNat k) default from h3]), show ((c.items.getD (Int.toNat k) default).v == (d.items.getD (Int.toNat k) default).v) = true from beq_iff_eq.2 (by rw [show c.items.getD (Int.toNat k) default = d.items.getD (Int.toNat k) default from h3])]
    conv => whnf
    refine ⟨by first | omega | (simp only [Int.toNat_natCast]; omega) | (simp; done) | (simp; omega), ?_⟩
    conv => whnf
    exact ⟨⟨k + 1, by omega, fun j hj' => (Nat.lt_or_eq_of_le (Nat.le_of_lt_succ hj')).elim (hj j) (fun e => e ▸ h3)⟩, [], by dsimp only; omega, .refl _, .refl _, .refl _, OLe.refl _, OLe.refl _, trivial⟩
  have hlt : ¬ k < c.items.length := by simpa using h1
  have e_items : c.items = d.items := ext_getD l_items fun j hj' => hj j (by omega)
  conv => whnf
  rw [show decide (c = d) = true from decide_eq_true (Ch.ext_of q_ty q_flags q_tsn q_tag q_window q_ppid q_stream q_ssn q_outs q_ins q_text e_gaps e_dups e_items)]
  exact ⟨_, .refl _, rfl, rfl⟩
theorem size_spec (c : Ch) (h : ChOk c) : PSpec Tryd.prog 15 [cA c] (· = tvi (buildC c).1.length) := by
  refine PSpec.run (tysOk) followsB Tryd.func15 (by decide) rfl Tryd.ntmps15 (Nat.le_of_ble_eq_true rfl) rfl fun w0 R0 => ?_
  conv => whnf
  refine ⟨_, build_spec7 c h, ?_⟩
  rintro q rfl
  conv => whnf
  exact ⟨_, .refl _, rfl, rfl⟩
theorem as8_spec (c : Ch) (hi : c.items.length ≤ 2 ^ 40) : PSpec Tryd.prog 45 [cA c] (· = cA c) := by
  refine PSpec.run (tysOk) followsB Tryd.func45 (by decide) rfl Tryd.ntmps45 (Nat.le_of_ble_eq_true rfl) rfl fun w0 R0 => ?_
  conv => whnf
  refine ALoop.adoptCell 3 12 1000 2 99 (fun k => encI (c.items.getD k default)) rfl rfl rfl rfl rfl ?_
  refine ALoop.introR tysOk followsB (fun k : {k // k ≤ c.items.length} => ([(1, .ptr 1 0), (2, .ptr 2 0), (3, .ptr 3 0), (4, tvi k.1)], [(1, .box (cL c) none), (2, .box [tvi 0, tvi 0, cv32 0, cv32 0, cv32 0, cv32 0, cv16 0, cv16 0, cv16 0, cv16 0, nilD, nilD, nilD, tvs []] none), (3, .box [tvi c.ty, tvi c.flags, cv32 c.tsn, cv32 c.tag, cv32 c.window, cv32 c.ppid, cv16 c.stream, cv16 c.ssn, cv16 c.outs, cv16 c.ins, .d (slT 2 encG c.gaps), .d (slT 1 enc32 c.dups), .rsl 1000 2 0 k.1, tvs c.text] none), (1000, .row 99 2 k.1 (fun k => encI (c.items.getD k default)))])) (fun k => c.items.length - k.1) ⟨0, by omega⟩ ?_ ?_
  · exact ⟨.refl _, .refl _, .refl _, .refl _, OLe.refl _, OLe.refl _, OLe.refl _, OLe.refl _, trivial⟩
  · rintro ⟨k, hk1⟩
    dsimp only
    conv => whnf
    split <;> rename_i h1
    · have hlt : k < c.items.length := by simpa using h1
      conv => whnf
      refine ⟨by first | omega | (simp only [Int.toNat_natCast]; omega) | (simp; done) | (simp; omega), ?_⟩
      conv => whnf
      refine ⟨by first | omega | (simp only [Int.toNat_natCast]; omega) | (simp; done) | (simp; omega), ?_⟩
      conv => whnf
      refine ⟨⟨⟨rfl, by omega, by simp only [ty99]; omega⟩, by omega⟩, ?_⟩
      conv => whnf
      conv => whnf
      refine ⟨by kernel_rfl, ?_⟩
      conv => whnf
      refine ⟨by first | omega | (simp only [Int.toNat_natCast]; omega) | (simp; done) | (simp; omega), ?_⟩
      conv => whnf
      refine ⟨⟨k + 1, by omega⟩, [(55, 1000)], by dsimp only; omega, .refl _, .refl _, .refl _, .refl _, OLe.refl _, OLe.refl _, OLe.refl _, ⟨rfl, rfl, rfl, ?_⟩, trivial⟩
      intro j hj
      simp only [fcat]
      split
      · rfl
      · have : j = k := by omega
        subst this; simp [encI]
    · have hlt : ¬ k < c.items.length := by simpa using h1
      obtain rfl : k = c.items.length := by omega
      conv => whnf
      refine ⟨by first | omega | (simp only [Int.toNat_natCast]; omega) | (simp; done) | (simp; omega), ?_⟩
      conv => whnf
      exact ⟨_, .refl _, rfl, rfl⟩
theorem light_spec (c : Ch) : PSpec Tryd.prog 17 [cA c] (fun r => ∃ b, r = tvb b ∧ (b = true → c.items.length ≤ 30 ∧ c.gaps.length ≤ 200 ∧ c.dups.length ≤ 200)) := by
  refine PSpec.run (tysOk) followsB Tryd.func17 (by decide) rfl Tryd.ntmps17 (Nat.le_of_ble_eq_true rfl) rfl fun w0 R0 => ?_
  conv => whnf
  split <;> rename_i h1
  · conv => whnf
    exact ⟨_, .refl _, ⟨false, rfl, fun h => by cases h⟩, rfl⟩
  replace h1 := of_decide_eq_false h1
  try simp only [Int.toNat_natCast] at h1
  conv => whnf
  split <;> rename_i h2
  · conv => whnf
    exact ⟨_, .refl _, ⟨false, rfl, fun h => by cases h⟩, rfl⟩
  replace h2 := of_decide_eq_false h2
  try simp only [Int.toNat_natCast] at h2
  conv => whnf
  split <;> rename_i h3
  · conv => whnf
    exact ⟨_, .refl _, ⟨false, rfl, fun h => by cases h⟩, rfl⟩
  replace h3 := of_decide_eq_false h3
  try simp only [Int.toNat_natCast] at h3
  conv => whnf
  split <;> rename_i h4
  · conv => whnf
    exact ⟨_, .refl _, ⟨false, rfl, fun h => by cases h⟩, rfl⟩
  conv => whnf
  refine ALoop.introR tysOk followsB (fun k : {k // k ≤ c.items.length} => ([(1, .ptr 1 0), (3, tvi k.1)], [(1, .box (cL c) none)])) (fun k => c.items.length - k.1) ⟨0, by omega⟩ ⟨.refl _, .refl _, OLe.refl _, trivial⟩ ?_
  rintro ⟨k, hk⟩
  dsimp only
  conv => whnf
  split <;> rename_i h5
  · have hlt : k < c.items.length := by simpa using h5
    conv => whnf
    refine ⟨by first | omega | (simp only [Int.toNat_natCast]; omega) | (simp; done) | (simp; omega), ?_⟩
    conv => whnf
    split <;> rename_i h6
    · conv => whnf
      exact ⟨_, .refl _, ⟨false, rfl, fun h => by cases h⟩, rfl⟩
    · conv => whnf
      refine ⟨by first | omega | (simp only [Int.toNat_natCast]; omega) | (simp; done) | (simp; omega), ?_⟩
      conv => whnf
      exact ⟨⟨k + 1, by omega⟩, [], by dsimp only; omega, .refl _, .refl _, OLe.refl _, trivial⟩
  · conv => whnf
    exact ⟨_, .refl _, ⟨true, rfl, fun _ => ⟨by omega, by omega, by omega⟩⟩, rfl⟩
theorem ok0 {c : Ch} (h1 : c.gaps = []) (h2 : c.dups = []) (h3 : c.items = []) : ChOk c := by
  refine ⟨by rw [h1]; decide, by rw [h2]; decide, by rw [h3]; decide, fun j => ?_⟩
  rw [h1, show ([] : List (Int × Int)).getD j default = default from by simp]
  exact ⟨by decide, by decide, by decide, by decide⟩
end Go.Proofs.YtcdondbegnbdgaaDoor
