/- Chapter 7, the document's answer: contracts. Printed by genRf7.py. -/
import Derived.Test.YtbojiemjgiacbaaDoorRf7A
namespace Go.Proofs.YtbojiemjgiacbaaDoor
open Go Go.RowKit Towline Towline.Tlv Towline.Chunk
set_option linter.unusedVariables false
set_option linter.unusedSimpArgs false
set_option maxRecDepth 20000
set_option maxHeartbeats 1000000
theorem Ch.ext_of {c d : Ch} (h1 : c.ty = d.ty) (h2 : c.flags = d.flags) (h3 : c.tsn = d.tsn) (h4 : c.tag = d.tag) (h5 : c.window = d.window) (h6 : c.ppid = d.ppid) (h7 : c.stream = d.stream) (h8 : c.ssn = d.ssn) (h9 : c.outs = d.outs) (h10 : c.ins = d.ins) (h11 : c.text = d.text) (h12 : c.gaps = d.gaps) (h13 : c.dups = d.dups) (h14 : c.items = d.items) : c = d := by
  cases c; cases d
  simp only at *
  subst_vars
  rfl
theorem rsame_spec (c d : Ch) (hg : c.gaps.length ≤ 2 ^ 40) (hd : c.dups.length ≤ 2 ^ 40) (hi : c.items.length ≤ 2 ^ 40) : PSpec Tryd.prog 22 [cA c, cA d] (· = tvb (decide (c = d))) := by
  refine PSpec.run (tysOk) followsB Tryd.func22 (by decide) rfl Tryd.ntmps22 (Nat.le_of_ble_eq_true rfl) rfl fun w0 R0 => ?_
  conv => whnf
  by_cases q_ty : c.ty = d.ty
  rotate_left
  · rw [show (c.ty != d.ty) = true from by simp [q_ty], show decide (c = d) = false from decide_eq_false fun e => q_ty (congrArg Ch.ty e)]
    conv => whnf
    exact ⟨_, .refl _, rfl, rfl⟩
  rw [show (c.ty != d.ty) = false from by simp [q_ty]]
  conv => whnf
  by_cases q_flags : c.flags = d.flags
  rotate_left
  · rw [show (c.flags != d.flags) = true from by simp [q_flags], show decide (c = d) = false from decide_eq_false fun e => q_flags (congrArg Ch.flags e)]
    conv => whnf
    exact ⟨_, .refl _, rfl, rfl⟩
  rw [show (c.flags != d.flags) = false from by simp [q_flags]]
  conv => whnf
  by_cases q_tsn : c.tsn = d.tsn
  rotate_left
  · rw [show (c.tsn != d.tsn) = true from by simp [q_tsn], show decide (c = d) = false from decide_eq_false fun e => q_tsn (congrArg Ch.tsn e)]
    conv => whnf
    exact ⟨_, .refl _, rfl, rfl⟩
  rw [show (c.tsn != d.tsn) = false from by simp [q_tsn]]
  conv => whnf
  by_cases q_tag : c.tag = d.tag
  rotate_left
  · rw [show (c.tag != d.tag) = true from by simp [q_tag], show decide (c = d) = false from decide_eq_false fun e => q_tag (congrArg Ch.tag e)]
    conv => whnf
    exact ⟨_, .refl _, rfl, rfl⟩
  rw [show (c.tag != d.tag) = false from by simp [q_tag]]
  conv => whnf
  by_cases q_window : c.window = d.window
  rotate_left
  · rw [show (c.window != d.window) = true from by simp [q_window], show decide (c = d) = false from decide_eq_false fun e => q_window (congrArg Ch.window e)]
    conv => whnf
    exact ⟨_, .refl _, rfl, rfl⟩
  rw [show (c.window != d.window) = false from by simp [q_window]]
  conv => whnf
  by_cases q_ppid : c.ppid = d.ppid
  rotate_left
  · rw [show (c.ppid != d.ppid) = true from by simp [q_ppid], show decide (c = d) = false from decide_eq_false fun e => q_ppid (congrArg Ch.ppid e)]
    conv => whnf
    exact ⟨_, .refl _, rfl, rfl⟩
  rw [show (c.ppid != d.ppid) = false from by simp [q_ppid]]
  conv => whnf
  by_cases q_stream : c.stream = d.stream
  rotate_left
  · rw [show (c.stream != d.stream) = true from by simp [q_stream], show decide (c = d) = false from decide_eq_false fun e => q_stream (congrArg Ch.stream e)]
    conv => whnf
    exact ⟨_, .refl _, rfl, rfl⟩
  rw [show (c.stream != d.stream) = false from by simp [q_stream]]
  conv => whnf
  by_cases q_ssn : c.ssn = d.ssn
  rotate_left
  · rw [show (c.ssn != d.ssn) = true from by simp [q_ssn], show decide (c = d) = false from decide_eq_false fun e => q_ssn (congrArg Ch.ssn e)]
    conv => whnf
    exact ⟨_, .refl _, rfl, rfl⟩
  rw [show (c.ssn != d.ssn) = false from by simp [q_ssn]]
  conv => whnf
  by_cases q_outs : c.outs = d.outs
  rotate_left
  · rw [show (c.outs != d.outs) = true from by simp [q_outs], show decide (c = d) = false from decide_eq_false fun e => q_outs (congrArg Ch.outs e)]
    conv => whnf
    exact ⟨_, .refl _, rfl, rfl⟩
  rw [show (c.outs != d.outs) = false from by simp [q_outs]]
  conv => whnf
  by_cases q_ins : c.ins = d.ins
  rotate_left
  · rw [show (c.ins != d.ins) = true from by simp [q_ins], show decide (c = d) = false from decide_eq_false fun e => q_ins (congrArg Ch.ins e)]
    conv => whnf
    exact ⟨_, .refl _, rfl, rfl⟩
  rw [show (c.ins != d.ins) = false from by simp [q_ins]]
  conv => whnf
  by_cases q_text : c.text = d.text
  rotate_left
  · rw [show (c.text != d.text) = true from by simp [q_text], show decide (c = d) = false from decide_eq_false fun e => q_text (congrArg Ch.text e)]
    conv => whnf
    exact ⟨_, .refl _, rfl, rfl⟩
  rw [show (c.text != d.text) = false from by simp [q_text]]
  conv => whnf
  by_cases l_gaps : c.gaps.length = d.gaps.length
  rotate_left
  · rw [show ((c.gaps.length : Int) != (d.gaps.length : Int)) = true from by simp; omega, show decide (c = d) = false from decide_eq_false fun e => l_gaps (congrArg (fun x : Ch => x.gaps.length) e)]
    conv => whnf
    exact ⟨_, .refl _, rfl, rfl⟩
  rw [show ((c.gaps.length : Int) != (d.gaps.length : Int)) = false from by simp; omega]
  conv => whnf
  by_cases l_dups : c.dups.length = d.dups.length
  rotate_left
  · rw [show ((c.dups.length : Int) != (d.dups.length : Int)) = true from by simp; omega, show decide (c = d) = false from decide_eq_false fun e => l_dups (congrArg (fun x : Ch => x.dups.length) e)]
    conv => whnf
    exact ⟨_, .refl _, rfl, rfl⟩
  rw [show ((c.dups.length : Int) != (d.dups.length : Int)) = false from by simp; omega]
  conv => whnf
  by_cases l_items : c.items.length = d.items.length
  rotate_left
  · rw [show ((c.items.length : Int) != (d.items.length : Int)) = true from by simp; omega, show decide (c = d) = false from decide_eq_false fun e => l_items (congrArg (fun x : Ch => x.items.length) e)]
    conv => whnf
    exact ⟨_, .refl _, rfl, rfl⟩
  rw [show ((c.items.length : Int) != (d.items.length : Int)) = false from by simp; omega]
  conv => whnf
  refine ALoop.introR tysOk followsB (fun k : {k // k ≤ c.gaps.length ∧ ∀ j, j < k → c.gaps.getD j default = d.gaps.getD j default} => ([(2, .ptr 2 0), (3, .ptr 3 0), (5, tvi k.1)], [(2, .box (cL c) none), (3, .box (cL d) none)])) (fun k => c.gaps.length - k.1) ⟨0, by omega, fun j hj => by omega⟩ ⟨.refl _, .refl _, .refl _, OLe.refl _, OLe.refl _, trivial⟩ ?_
  rintro ⟨k, hk, hj⟩
  dsimp only
  conv => whnf
  split <;> rename_i h1
  · have hlt : k < c.gaps.length := by simpa using h1
    conv => whnf
    refine ⟨by first | omega | (simp only [Int.toNat_natCast]; omega) | (simp; done) | (simp; omega), ?_⟩
    conv => whnf
    refine ⟨by first | omega | (simp only [Int.toNat_natCast]; omega) | (simp; done) | (simp; omega), ?_⟩
    conv => whnf
    refine ⟨by kernel_rfl, ?_⟩
    conv => whnf
    by_cases h3 : c.gaps.getD k default = d.gaps.getD k default
    rotate_left
    · by_cases h4 : (c.gaps.getD k default).1 = (d.gaps.getD k default).1
      · have h5 : ¬ (c.gaps.getD k default).2 = (d.gaps.getD k default).2 := fun e => h3 (Prod.ext h4 e)
        rw [show ((c.gaps.getD (Int.toNat k) default).1 == (d.gaps.getD (Int.toNat k) default).1) = true from beq_iff_eq.2 h4, show ((c.gaps.getD (Int.toNat k) default).2 == (d.gaps.getD (Int.toNat k) default).2) = false from beq_eq_false_iff_ne.2 h5, show decide (c = d) = false from decide_eq_false fun e => h3 (by rw [e])]
        conv => whnf
        exact ⟨_, .refl _, rfl, rfl⟩
      · rw [show ((c.gaps.getD (Int.toNat k) default).1 == (d.gaps.getD (Int.toNat k) default).1) = false from beq_eq_false_iff_ne.2 h4, show decide (c = d) = false from decide_eq_false fun e => h3 (by rw [e])]
        conv => whnf
        exact ⟨_, .refl _, rfl, rfl⟩
    rw [show ((c.gaps.getD (Int.toNat k) default).1 == (d.gaps.getD (Int.toNat k) default).1) = true from beq_iff_eq.2 (by rw [show c.gaps.getD (Int.toNat k) default = d.gaps.getD (Int.toNat k) default from h3]), show ((c.gaps.getD (Int.toNat k) default).2 == (d.gaps.getD (Int.toNat k) default).2) = true from beq_iff_eq.2 (by rw [show c.gaps.getD (Int.toNat k) default = d.gaps.getD (Int.toNat k) default from h3])]
    conv => whnf
    refine ⟨by first | omega | (simp only [Int.toNat_natCast]; omega) | (simp; done) | (simp; omega), ?_⟩
    conv => whnf
    exact ⟨⟨k + 1, by omega, fun j hj' => (Nat.lt_or_eq_of_le (Nat.le_of_lt_succ hj')).elim (hj j) (fun e => e ▸ h3)⟩, [], by dsimp only; omega, .refl _, .refl _, .refl _, OLe.refl _, OLe.refl _, trivial⟩
  have hlt : ¬ k < c.gaps.length := by simpa using h1
  have e_gaps : c.gaps = d.gaps := ext_getD l_gaps fun j hj' => hj j (by omega)
  conv => whnf
  refine ALoop.introR tysOk followsB (fun k : {k // k ≤ c.dups.length ∧ ∀ j, j < k → c.dups.getD j default = d.dups.getD j default} => ([(2, .ptr 2 0), (3, .ptr 3 0), (6, tvi k.1)], [(2, .box (cL c) none), (3, .box (cL d) none)])) (fun k => c.dups.length - k.1) ⟨0, by omega, fun j hj => by omega⟩ ⟨.refl _, .refl _, .refl _, OLe.refl _, OLe.refl _, trivial⟩ ?_
  rintro ⟨k, hk, hj⟩
  dsimp only
  conv => whnf
  split <;> rename_i h1
  · have hlt : k < c.dups.length := by simpa using h1
    conv => whnf
    refine ⟨by first | omega | (simp only [Int.toNat_natCast]; omega) | (simp; done) | (simp; omega), ?_⟩
    conv => whnf
    refine ⟨by first | omega | (simp only [Int.toNat_natCast]; omega) | (simp; done) | (simp; omega), ?_⟩
    conv => whnf
    refine ⟨by kernel_rfl, ?_⟩
    conv => whnf
    by_cases h3 : c.dups.getD k default = d.dups.getD k default
    rotate_left
    · rw [show (c.dups.getD (Int.toNat k) default != d.dups.getD (Int.toNat k) default) = true from bne_iff_ne.2 h3, show decide (c = d) = false from decide_eq_false fun e => h3 (by rw [e])]
      conv => whnf
      exact ⟨_, .refl _, rfl, rfl⟩
    rw [show (c.dups.getD (Int.toNat k) default != d.dups.getD (Int.toNat k) default) = false from by rw [show c.dups.getD (Int.toNat k) default = d.dups.getD (Int.toNat k) default from h3]; exact bne_self_eq_false _]
    conv => whnf
    refine ⟨by first | omega | (simp only [Int.toNat_natCast]; omega) | (simp; done) | (simp; omega), ?_⟩
    conv => whnf
    exact ⟨⟨k + 1, by omega, fun j hj' => (Nat.lt_or_eq_of_le (Nat.le_of_lt_succ hj')).elim (hj j) (fun e => e ▸ h3)⟩, [], by dsimp only; omega, .refl _, .refl _, .refl _, OLe.refl _, OLe.refl _, trivial⟩
  have hlt : ¬ k < c.dups.length := by simpa using h1
  have e_dups : c.dups = d.dups := ext_getD l_dups fun j hj' => hj j (by omega)
  conv => whnf
  refine ALoop.introR tysOk followsB (fun k : {k // k ≤ c.items.length ∧ ∀ j, j < k → c.items.getD j default = d.items.getD j default} => ([(2, .ptr 2 0), (3, .ptr 3 0), (7, tvi k.1)], [(2, .box (cL c) none), (3, .box (cL d) none)])) (fun k => c.items.length - k.1) ⟨0, by omega, fun j hj => by omega⟩ ⟨.refl _, .refl _, .refl _, OLe.refl _, OLe.refl _, trivial⟩ ?_
  rintro ⟨k, hk, hj⟩
  dsimp only
  conv => whnf
  split <;> rename_i h1
  · have hlt : k < c.items.length := by simpa using h1
    conv => whnf
    refine ⟨by first | omega | (simp only [Int.toNat_natCast]; omega) | (simp; done) | (simp; omega), ?_⟩
    conv => whnf
    refine ⟨by first | omega | (simp only [Int.toNat_natCast]; omega) | (simp; done) | (simp; omega), ?_⟩
    conv => whnf
    refine ⟨by kernel_rfl, ?_⟩
    conv => whnf
    by_cases h3 : c.items.getD k default = d.items.getD k default
    rotate_left
    · by_cases h4 : (c.items.getD k default).ty = (d.items.getD k default).ty
      · have h5 : ¬ (c.items.getD k default).v = (d.items.getD k default).v := fun e => h3 (It.ext_of h4 e)
        rw [show ((c.items.getD (Int.toNat k) default).ty == (d.items.getD (Int.toNat k) default).ty) = true from beq_iff_eq.2 h4, show ((c.items.getD (Int.toNat k) default).v == (d.items.getD (Int.toNat k) default).v) = false from beq_eq_false_iff_ne.2 h5, show decide (c = d) = false from decide_eq_false fun e => h3 (by rw [e])]
        conv => whnf
        exact ⟨_, .refl _, rfl, rfl⟩
      · rw [show ((c.items.getD (Int.toNat k) default).ty == (d.items.getD (Int.toNat k) default).ty) = false from beq_eq_false_iff_ne.2 h4, show decide (c = d) = false from decide_eq_false fun e => h3 (by rw [e])]
        conv => whnf
        exact ⟨_, .refl _, rfl, rfl⟩
    rw [show ((c.items.getD (Int.toNat k) default).ty == (d.items.getD (Int.toNat k) default).ty) = true from beq_iff_eq.2 (by rw [show c.items.getD (Int.toNat k) default = d.items.getD (Int.toNat k) default from h3]), show ((c.items.getD (Int.toNat k) default).v == (d.items.getD (Int.toNat k) default).v) = true from beq_iff_eq.2 (by rw [show c.items.getD (Int.toNat k) default = d.items.getD (Int.toNat k) default from h3])]
    conv => whnf
    refine ⟨by first | omega | (simp only [Int.toNat_natCast]; omega) | (simp; done) | (simp; omega), ?_⟩
    conv => whnf
    exact ⟨⟨k + 1, by omega, fun j hj' => (Nat.lt_or_eq_of_le (Nat.le_of_lt_succ hj')).elim (hj j) (fun e => e ▸ h3)⟩, [], by dsimp only; omega, .refl _, .refl _, .refl _, OLe.refl _, OLe.refl _, trivial⟩
  have hlt : ¬ k < c.items.length := by simpa using h1
  have e_items : c.items = d.items := ext_getD l_items fun j hj' => hj j (by omega)
  conv => whnf
  rw [show decide (c = d) = true from decide_eq_true (Ch.ext_of q_ty q_flags q_tsn q_tag q_window q_ppid q_stream q_ssn q_outs q_ins q_text e_gaps e_dups e_items)]
  exact ⟨_, .refl _, rfl, rfl⟩
theorem rgaps_spec (l : List (Int × Int)) (ha : l.length ≤ 2 ^ 40) (hG : GapsOk l) : PSpec Tryd.prog 73 [.d (slT 2 encG l)] (· = tvb (risesB l)) := by
  refine PSpec.run (tysOk) followsB Tryd.func73 (by decide) rfl Tryd.ntmps73 (Nat.le_of_ble_eq_true rfl) rfl fun w0 R0 => ?_
  conv => whnf
  refine ALoop.introR tysOk followsB (fun k : {k // k ≤ l.length ∧ risingG (-1) l = risingG (if k = 0 then -1 else (l.getD (k - 1) default).2) (l.drop k)} => ([(0, .d (slT 2 encG l)), (3, tvi k.1)], [])) (fun k => l.length - k.1) ⟨0, by omega, rfl⟩ ⟨.refl _, .refl _, trivial⟩ ?_
  rintro ⟨k, hk, hj⟩
  dsimp only
  conv => whnf
  split <;> rename_i h2
  · have h2 : k < l.length := Int.ofNat_lt.1 (of_decide_eq_true h2)
    have hg := hG k
    rw [drop_getD l k h2, risingG] at hj
    conv => whnf
    refine ⟨by first | omega | (simp only [Int.toNat_natCast]; omega) | (simp; done) | (simp; omega), ?_⟩
    conv => whnf
    refine ⟨by first | omega | (simp only [Int.toNat_natCast]; omega) | (simp; done) | (simp; omega), ?_⟩
    conv => whnf
    split <;> rename_i h3
    · replace h3 := of_decide_eq_true h3
      conv => whnf
      refine ⟨by kernel_rfl, ?_⟩
      conv => whnf
      have e3 : (l.getD k default).1 = 0 := by
        have h3' : (l.getD k default).1 < 1 := h3
        omega
      rw [show risesB l = false from by rw [risesB, hj, e3]; simp]
      exact ⟨_, .refl _, rfl, rfl⟩
    · replace h3 := of_decide_eq_false h3
      have h3' : ¬ (l.getD k default).1 < 1 := h3
      have e3 : ((l.getD k default).1 == 0) = false := beq_eq_false_iff_ne.2 (by omega)
      conv => whnf
      refine ⟨by first | omega | (simp only [Int.toNat_natCast]; omega) | (simp; done) | (simp; omega), ?_⟩
      conv => whnf
      refine ⟨by first | omega | (simp only [Int.toNat_natCast]; omega) | (simp; done) | (simp; omega), ?_⟩
      conv => whnf
      refine ⟨by first | omega | (simp only [Int.toNat_natCast]; omega) | (simp; done) | (simp; omega), ?_⟩
      conv => whnf
      refine ⟨by first | omega | (simp only [Int.toNat_natCast]; omega) | (simp; done) | (simp; omega), ?_⟩
      conv => whnf
      split <;> rename_i h4
      · replace h4 := of_decide_eq_true h4
        have e4 : decide ((l.getD k default).2 < (l.getD k default).1) = true := decide_eq_true h4
        conv => whnf
        refine ⟨by kernel_rfl, ?_⟩
        conv => whnf
        rw [show risesB l = false from by rw [risesB, hj, e4]; simp]
        exact ⟨_, .refl _, rfl, rfl⟩
      · replace h4 := of_decide_eq_false h4
        have e4 : decide ((l.getD k default).2 < (l.getD k default).1) = false := decide_eq_false h4
        conv => whnf
        split <;> rename_i h5
        · replace h5 := of_decide_eq_true h5
          rw [if_neg (by omega)] at hj
          have hg2 := hG (k - 1)
          have ek : Int.toNat ((k : Int) - 1) = k - 1 := by omega
          conv => whnf
          have hg3 := hg2
          rw [← ek] at hg3
          repeat (refine ⟨by first | decide | omega | (simp only [Int.toNat_natCast]; omega), ?_⟩; conv => whnf)
          refine ⟨by kernel_rfl, ?_⟩
          conv => whnf
          split <;> rename_i h6
          · have h6 : (l.getD k default).1 < (l.getD (Int.toNat ((k : Int) - 1)) default).2 + 2 := of_decide_eq_true h6
            rw [ek] at h6
            conv => whnf
            rw [show risesB l = false from by rw [risesB, hj, show decide ((l.getD k default).1 < (l.getD (k - 1) default).2 + 2) = true from decide_eq_true h6]; simp]
            exact ⟨_, .refl _, rfl, rfl⟩
          · have h6 : ¬ (l.getD k default).1 < (l.getD (Int.toNat ((k : Int) - 1)) default).2 + 2 := of_decide_eq_false h6
            rw [ek] at h6
            conv => whnf
            refine ⟨by first | omega | (simp only [Int.toNat_natCast]; omega) | (simp; done) | (simp; omega), ?_⟩
            conv => whnf
            refine ⟨⟨k + 1, by omega, ?_⟩, [], by dsimp only; omega, .refl _, .refl _, trivial⟩
            rw [hj, e3, e4, show decide ((l.getD k default).1 < (l.getD (k - 1) default).2 + 2) = false from decide_eq_false h6]
            rfl
        · replace h5 := of_decide_eq_false h5
          obtain rfl : k = 0 := by omega
          conv => whnf
          refine ⟨by kernel_rfl, ?_⟩
          conv => whnf
          refine ⟨by first | omega | (simp only [Int.toNat_natCast]; omega) | (simp; done) | (simp; omega), ?_⟩
          conv => whnf
          refine ⟨⟨0 + 1, by omega, ?_⟩, [], by dsimp only; omega, .refl _, .refl _, trivial⟩
          rw [hj, e3, e4, if_pos rfl, show decide ((l.getD 0 default).1 < -1 + 2) = false from decide_eq_false (by omega)]
          rfl
  · have h2 : ¬ k < l.length := fun h => of_decide_eq_false h2 (Int.ofNat_lt.2 h)
    conv => whnf
    rw [List.drop_of_length_le (by omega)] at hj
    have e : risesB l = decide ((l.length : Int) ≤ 100) := by
      rw [risesB, hj, show ∀ x, risingG x [] = true from fun _ => rfl, Bool.true_and]
      exact decide_eq_decide.2 ⟨fun h => by omega, fun h => by omega⟩
    rw [e]
    exact ⟨_, .refl _, rfl, rfl⟩
theorem rfits_spec (c : Ch) (hg : c.gaps.length ≤ 2 ^ 40) (hG : GapsOk c.gaps) : PSpec Tryd.prog 59 [cA c] (· = tvb (fitsB c)) := by
  refine PSpec.run (tysOk) followsB Tryd.func59 (by decide) rfl Tryd.ntmps59 (Nat.le_of_ble_eq_true rfl) rfl fun w0 R0 => ?_
  conv => whnf
  split <;> rename_i g0b
  · have g0 : c.ty = 0 := by simpa using g0b
    conv => whnf
    repeat' (split <;> (conv => whnf))
    all_goals exact ⟨_, .refl _, by first | (simp [fitsB, textB, *]; done) | (simp [fitsB, textB, *]; omega), rfl⟩
  have g0 : ¬ c.ty = 0 := by simpa using g0b
  conv => whnf
  split <;> rename_i g1b
  · have g1 : c.ty = 1 := by simpa using g1b
    conv => whnf
    try (rw [g1b]; conv => whnf)
    repeat' (split <;> (conv => whnf))
    all_goals exact ⟨_, .refl _, by first | (simp [fitsB, textB, *]; done) | (simp [fitsB, textB, *]; omega), rfl⟩
  have g1 : ¬ c.ty = 1 := by simpa using g1b
  conv => whnf
  split <;> rename_i g2b
  · have g2 : c.ty = 2 := by simpa using g2b
    conv => whnf
    try (rw [g1b]; conv => whnf)
    try (rw [g2b]; conv => whnf)
    repeat' (split <;> (conv => whnf))
    all_goals exact ⟨_, .refl _, by first | (simp [fitsB, textB, *]; done) | (simp [fitsB, textB, *]; omega), rfl⟩
  have g2 : ¬ c.ty = 2 := by simpa using g2b
  conv => whnf
  split <;> rename_i g3b
  · have g3 : c.ty = 3 := by simpa using g3b
    conv => whnf
    refine ⟨_, rgaps_spec c.gaps hg hG, ?_⟩
    rintro q rfl
    conv => whnf
    repeat' (split <;> (conv => whnf))
    all_goals exact ⟨_, .refl _, by first | (simp [fitsB, textB, *]; done) | (simp [fitsB, textB, *]; omega), rfl⟩
  have g3 : ¬ c.ty = 3 := by simpa using g3b
  conv => whnf
  split <;> rename_i g4b
  · have g4 : c.ty = 4 := by simpa using g4b
    conv => whnf
    try (rw [g4b]; conv => whnf)
    split <;> rename_i h6
    · have h6' : c.items.length = 1 := by
        simp at h6
        omega
      conv => whnf
      refine ⟨by first | omega | (simp only [Int.toNat_natCast]; omega) | (simp; done) | (simp; omega), ?_⟩
      conv => whnf
      exact ⟨_, .refl _, by first | (simp [fitsB, textB, *]; done) | (simp [fitsB, textB, *]; omega), rfl⟩
    · have h6' : ¬ c.items.length = 1 := by
        simp at h6
        omega
      conv => whnf
      exact ⟨_, .refl _, by first | (simp [fitsB, textB, *]; done) | (simp [fitsB, textB, *]; omega), rfl⟩
  have g4 : ¬ c.ty = 4 := by simpa using g4b
  conv => whnf
  split <;> rename_i g5b
  · have g5 : c.ty = 5 := by simpa using g5b
    conv => whnf
    try (rw [g4b]; conv => whnf)
    try (rw [g5b]; conv => whnf)
    split <;> rename_i h6
    · have h6' : c.items.length = 1 := by
        simp at h6
        omega
      conv => whnf
      refine ⟨by first | omega | (simp only [Int.toNat_natCast]; omega) | (simp; done) | (simp; omega), ?_⟩
      conv => whnf
      exact ⟨_, .refl _, by first | (simp [fitsB, textB, *]; done) | (simp [fitsB, textB, *]; omega), rfl⟩
    · have h6' : ¬ c.items.length = 1 := by
        simp at h6
        omega
      conv => whnf
      exact ⟨_, .refl _, by first | (simp [fitsB, textB, *]; done) | (simp [fitsB, textB, *]; omega), rfl⟩
  have g5 : ¬ c.ty = 5 := by simpa using g5b
  conv => whnf
  split <;> rename_i g9b
  · have g9 : c.ty = 9 := by simpa using g9b
    conv => whnf
    repeat' (split <;> (conv => whnf))
    all_goals exact ⟨_, .refl _, by first | (simp [fitsB, textB, *]; done) | (simp [fitsB, textB, *]; omega), rfl⟩
  have g9 : ¬ c.ty = 9 := by simpa using g9b
  conv => whnf
  split <;> rename_i g10b
  · have g10 : c.ty = 10 := by simpa using g10b
    conv => whnf
    repeat' (split <;> (conv => whnf))
    all_goals exact ⟨_, .refl _, by first | (simp [fitsB, textB, *]; done) | (simp [fitsB, textB, *]; omega), rfl⟩
  have g10 : ¬ c.ty = 10 := by simpa using g10b
  conv => whnf
  split <;> rename_i g6b
  · have g6 : c.ty = 6 := by simpa using g6b
    conv => whnf
    try (rw [g6b]; conv => whnf)
    repeat' (split <;> (conv => whnf))
    all_goals exact ⟨_, .refl _, by first | (simp [fitsB, textB, *]; done) | (simp [fitsB, textB, *]; omega), rfl⟩
  have g6 : ¬ c.ty = 6 := by simpa using g6b
  conv => whnf
  split <;> rename_i g14b
  · have g14 : c.ty = 14 := by simpa using g14b
    conv => whnf
    try (rw [g6b]; conv => whnf)
    try (rw [g14b]; conv => whnf)
    repeat' (split <;> (conv => whnf))
    all_goals exact ⟨_, .refl _, by first | (simp [fitsB, textB, *]; done) | (simp [fitsB, textB, *]; omega), rfl⟩
  have g14 : ¬ c.ty = 14 := by simpa using g14b
  conv => whnf
  split <;> rename_i g7b
  · have g7 : c.ty = 7 := by simpa using g7b
    conv => whnf
    try (rw [g7b]; conv => whnf)
    repeat' (split <;> (conv => whnf))
    all_goals exact ⟨_, .refl _, by first | (simp [fitsB, textB, *]; done) | (simp [fitsB, textB, *]; omega), rfl⟩
  have g7 : ¬ c.ty = 7 := by simpa using g7b
  conv => whnf
  split <;> rename_i g8b
  · have g8 : c.ty = 8 := by simpa using g8b
    conv => whnf
    try (rw [g7b]; conv => whnf)
    try (rw [g8b]; conv => whnf)
    repeat' (split <;> (conv => whnf))
    all_goals exact ⟨_, .refl _, by first | (simp [fitsB, textB, *]; done) | (simp [fitsB, textB, *]; omega), rfl⟩
  have g8 : ¬ c.ty = 8 := by simpa using g8b
  conv => whnf
  split <;> rename_i g11b
  · have g11 : c.ty = 11 := by simpa using g11b
    conv => whnf
    try (rw [g7b]; conv => whnf)
    try (rw [g8b]; conv => whnf)
    try (rw [g11b]; conv => whnf)
    repeat' (split <;> (conv => whnf))
    all_goals exact ⟨_, .refl _, by first | (simp [fitsB, textB, *]; done) | (simp [fitsB, textB, *]; omega), rfl⟩
  have g11 : ¬ c.ty = 11 := by simpa using g11b
  conv => whnf
  have e : fitsB c = (decide (0 ≤ c.ty) && decide (c.ty ≤ 255) && decide (0 ≤ c.flags) && decide (c.flags ≤ 255) && decide ((c.text.length : Int) ≤ 1000)) := by
    rw [show decide (c.ty ≤ 255) = decide (c.ty < 256) from decide_eq_decide.2 (by omega), show decide (c.flags ≤ 255) = decide (c.flags < 256) from decide_eq_decide.2 (by omega)]
    simp only [fitsB]
    rw [if_neg g0, if_neg (by omega), if_neg g3, if_neg (by omega), if_neg g9, if_neg g10, if_neg (by omega), if_neg (by omega)]
  repeat' (split <;> (conv => whnf))
  all_goals exact ⟨_, .refl _, by rw [e]; simp [*], rfl⟩
end Go.Proofs.YtbojiemjgiacbaaDoor
