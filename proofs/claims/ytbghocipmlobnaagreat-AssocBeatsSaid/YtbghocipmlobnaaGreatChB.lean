/- Chapter 7: rows compared; gaps that rise; what fits; what is the same. Written by genChB.py. -/
import Derived.Test.YtbghocipmlobnaaGreatChA
namespace Go.Proofs.YtbghocipmlobnaaGreat
open Go Go.RowKit Towline Towline.Tlv Towline.Chunk
set_option linter.unusedVariables false
set_option linter.unusedSimpArgs false
set_option maxRecDepth 20000
set_option maxHeartbeats 4000000
theorem It.ext_of {x y : Tlv.It} (h : x.ty = y.ty) (h2 : x.v = y.v) : x = y := by cases x; cases y; cases h; cases h2; rfl
theorem ext_getD {α} [Inhabited α] {a b : List α} (h : a.length = b.length) (h2 : ∀ j, j < a.length → a.getD j default = b.getD j default) : a = b := by
  refine List.ext_getElem h fun j hj hk => ?_
  have := h2 j hj
  rwa [List.getD_eq_getElem?_getD, List.getD_eq_getElem?_getD, List.getElem?_eq_getElem hj, List.getElem?_eq_getElem hk] at this
theorem eq32_spec (a b : List Int) (ha : a.length ≤ 2 ^ 40) : PSpec Tryz.prog 152 [.d (slT 1 enc32 a), .d (slT 1 enc32 b)] (· = tvb (decide (a = b))) := by
  refine PSpec.run (tysOk) followsB Tryz.func152 (by decide) rfl Tryz.ntmps152 (Nat.le_of_ble_eq_true rfl) rfl fun w0 R0 hGw => ?_
  conv => whnf
  split <;> rename_i h1
  · have h1 : a.length ≠ b.length := by simp at h1; omega
    have h2 : decide (a = b) = false := decide_eq_false fun e => h1 (congrArg List.length e)
    conv => whnf
    rw [h2]
    exact ⟨_, .refl _, rfl, rfl⟩
  have h1 : a.length = b.length := by simp at h1; omega
  conv => whnf
  refine ALoop.introR tysOk followsB (fun k : {k // k ≤ a.length ∧ ∀ j, j < k → a.getD j default = b.getD j default} => ([(0, .d (slT 1 enc32 a)), (1, .d (slT 1 enc32 b)), (12, tvi a.length), (13, tvi k.1)], [])) (fun k => a.length - k.1) ⟨0, by omega, fun j hj => by omega⟩ ⟨.refl _, .refl _, .refl _, .refl _, trivial⟩ ?_
  rintro ⟨k, hk, hj⟩
  dsimp only
  conv => whnf
  split <;> rename_i h2
  · have h2 : k < a.length := Int.ofNat_lt.1 (of_decide_eq_true h2)
    conv => whnf
    refine ⟨by first | omega | (simp only [Int.toNat_natCast]; omega) | (simp; done) | (simp; omega), ?_⟩
    conv => whnf
    refine ⟨by first | omega | (simp only [Int.toNat_natCast]; omega) | (simp; done) | (simp; omega), ?_⟩
    conv => whnf
    refine ⟨by kernel_rfl, ?_⟩
    conv => whnf
    split <;> rename_i h3
    · have h3 : ¬ a.getD k default = b.getD k default := by simpa using h3
      have h4 : decide (a = b) = false := decide_eq_false fun e => h3 (by rw [e])
      conv => whnf
      rw [h4]
      exact ⟨_, .refl _, rfl, rfl⟩
    · have h3 : a.getD k default = b.getD k default := by simpa using h3
      conv => whnf
      refine ⟨by first | omega | (simp only [Int.toNat_natCast]; omega) | (simp; done) | (simp; omega), ?_⟩
      conv => whnf
      exact ⟨⟨k + 1, by omega, fun j hj' => (Nat.lt_or_eq_of_le (Nat.le_of_lt_succ hj')).elim (hj j) (fun e => e ▸ h3)⟩, [], by dsimp only; omega, .refl _, .refl _, .refl _, .refl _, trivial⟩
  · have h2 : ¬ k < a.length := fun h => of_decide_eq_false h2 (Int.ofNat_lt.2 h)
    have h3 : decide (a = b) = true := decide_eq_true (ext_getD h1 fun j hj' => hj j (by omega))
    conv => whnf
    rw [h3]
    exact ⟨_, .refl _, rfl, rfl⟩
theorem eqG_spec (a b : List (Int × Int)) (ha : a.length ≤ 2 ^ 40) : PSpec Tryz.prog 151 [.d (slT 2 encG a), .d (slT 2 encG b)] (· = tvb (decide (a = b))) := by
  refine PSpec.run (tysOk) followsB Tryz.func151 (by decide) rfl Tryz.ntmps151 (Nat.le_of_ble_eq_true rfl) rfl fun w0 R0 hGw => ?_
  conv => whnf
  split <;> rename_i h1
  · have h1 : a.length ≠ b.length := by simp at h1; omega
    have h2 : decide (a = b) = false := decide_eq_false fun e => h1 (congrArg List.length e)
    conv => whnf
    rw [h2]
    exact ⟨_, .refl _, rfl, rfl⟩
  have h1 : a.length = b.length := by simp at h1; omega
  conv => whnf
  refine ALoop.introR tysOk followsB (fun k : {k // k ≤ a.length ∧ ∀ j, j < k → a.getD j default = b.getD j default} => ([(0, .d (slT 2 encG a)), (1, .d (slT 2 encG b)), (12, tvi a.length), (13, tvi k.1)], [])) (fun k => a.length - k.1) ⟨0, by omega, fun j hj => by omega⟩ ⟨.refl _, .refl _, .refl _, .refl _, trivial⟩ ?_
  rintro ⟨k, hk, hj⟩
  dsimp only
  conv => whnf
  split <;> rename_i h2
  · have h2 : k < a.length := Int.ofNat_lt.1 (of_decide_eq_true h2)
    conv => whnf
    refine ⟨by first | omega | (simp only [Int.toNat_natCast]; omega) | (simp; done) | (simp; omega), ?_⟩
    conv => whnf
    refine ⟨by first | omega | (simp only [Int.toNat_natCast]; omega) | (simp; done) | (simp; omega), ?_⟩
    conv => whnf
    refine ⟨by kernel_rfl, ?_⟩
    conv => whnf
    split <;> rename_i h3
    · have h3 : ¬ a.getD k default = b.getD k default := fun e => by
        simp only [Int.toNat_natCast] at h3
        rw [e] at h3
        simp at h3
      have h4 : decide (a = b) = false := decide_eq_false fun e => h3 (by rw [e])
      conv => whnf
      rw [h4]
      exact ⟨_, .refl _, rfl, rfl⟩
    · have h3 : a.getD k default = b.getD k default := by
        simp only [Int.toNat_natCast, Bool.not_eq_false', Bool.and_true, Bool.and_eq_true, beq_iff_eq] at h3
        exact Prod.ext h3.1 h3.2
      conv => whnf
      refine ⟨by first | omega | (simp only [Int.toNat_natCast]; omega) | (simp; done) | (simp; omega), ?_⟩
      conv => whnf
      exact ⟨⟨k + 1, by omega, fun j hj' => (Nat.lt_or_eq_of_le (Nat.le_of_lt_succ hj')).elim (hj j) (fun e => e ▸ h3)⟩, [], by dsimp only; omega, .refl _, .refl _, .refl _, .refl _, trivial⟩
  · have h2 : ¬ k < a.length := fun h => of_decide_eq_false h2 (Int.ofNat_lt.2 h)
    have h3 : decide (a = b) = true := decide_eq_true (ext_getD h1 fun j hj' => hj j (by omega))
    conv => whnf
    rw [h3]
    exact ⟨_, .refl _, rfl, rfl⟩
theorem eqI_spec (a b : List Tlv.It) (ha : a.length ≤ 2 ^ 40) : PSpec Tryz.prog 153 [.d (slT 2 encI a), .d (slT 2 encI b)] (· = tvb (decide (a = b))) := by
  refine PSpec.run (tysOk) followsB Tryz.func153 (by decide) rfl Tryz.ntmps153 (Nat.le_of_ble_eq_true rfl) rfl fun w0 R0 hGw => ?_
  conv => whnf
  split <;> rename_i h1
  · have h1 : a.length ≠ b.length := by simp at h1; omega
    have h2 : decide (a = b) = false := decide_eq_false fun e => h1 (congrArg List.length e)
    conv => whnf
    rw [h2]
    exact ⟨_, .refl _, rfl, rfl⟩
  have h1 : a.length = b.length := by simp at h1; omega
  conv => whnf
  refine ALoop.introR tysOk followsB (fun k : {k // k ≤ a.length ∧ ∀ j, j < k → a.getD j default = b.getD j default} => ([(0, .d (slT 2 encI a)), (1, .d (slT 2 encI b)), (12, tvi a.length), (13, tvi k.1)], [])) (fun k => a.length - k.1) ⟨0, by omega, fun j hj => by omega⟩ ⟨.refl _, .refl _, .refl _, .refl _, trivial⟩ ?_
  rintro ⟨k, hk, hj⟩
  dsimp only
  conv => whnf
  split <;> rename_i h2
  · have h2 : k < a.length := Int.ofNat_lt.1 (of_decide_eq_true h2)
    conv => whnf
    refine ⟨by first | omega | (simp only [Int.toNat_natCast]; omega) | (simp; done) | (simp; omega), ?_⟩
    conv => whnf
    refine ⟨by first | omega | (simp only [Int.toNat_natCast]; omega) | (simp; done) | (simp; omega), ?_⟩
    conv => whnf
    refine ⟨by kernel_rfl, ?_⟩
    conv => whnf
    split <;> rename_i h3
    · have h3 : ¬ a.getD k default = b.getD k default := fun e => by
        simp only [Int.toNat_natCast] at h3
        rw [e] at h3
        simp at h3
      have h4 : decide (a = b) = false := decide_eq_false fun e => h3 (by rw [e])
      conv => whnf
      rw [h4]
      exact ⟨_, .refl _, rfl, rfl⟩
    · have h3 : a.getD k default = b.getD k default := by
        simp only [Int.toNat_natCast, Bool.not_eq_false', Bool.and_true, Bool.and_eq_true, beq_iff_eq] at h3
        exact It.ext_of h3.1 h3.2
      conv => whnf
      refine ⟨by first | omega | (simp only [Int.toNat_natCast]; omega) | (simp; done) | (simp; omega), ?_⟩
      conv => whnf
      exact ⟨⟨k + 1, by omega, fun j hj' => (Nat.lt_or_eq_of_le (Nat.le_of_lt_succ hj')).elim (hj j) (fun e => e ▸ h3)⟩, [], by dsimp only; omega, .refl _, .refl _, .refl _, .refl _, trivial⟩
  · have h2 : ¬ k < a.length := fun h => of_decide_eq_false h2 (Int.ofNat_lt.2 h)
    have h3 : decide (a = b) = true := decide_eq_true (ext_getD h1 fun j hj' => hj j (by omega))
    conv => whnf
    rw [h3]
    exact ⟨_, .refl _, rfl, rfl⟩
def GapsOk (l : List (Int × Int)) : Prop := ∀ j, 0 ≤ (l.getD j default).1 ∧ (l.getD j default).1 < 65536 ∧ 0 ≤ (l.getD j default).2 ∧ (l.getD j default).2 < 65536
theorem drop_getD {α} [Inhabited α] (l : List α) (k : Nat) (h : k < l.length) : l.drop k = l.getD k default :: l.drop (k + 1) := by
  rw [List.drop_eq_getElem_cons h, List.getD_eq_getElem?_getD, List.getElem?_eq_getElem h]
  rfl
theorem rising_spec (l : List (Int × Int)) (ha : l.length ≤ 2 ^ 40) (hG : GapsOk l) : PSpec Tryz.prog 150 [.d (slT 2 encG l)] (· = tvb (risesB l)) := by
  refine PSpec.run (tysOk) followsB Tryz.func150 (by decide) rfl Tryz.ntmps150 (Nat.le_of_ble_eq_true rfl) rfl fun w0 R0 hGw => ?_
  conv => whnf
  refine ALoop.introR tysOk followsB (fun k : {k : Nat × Int // k.1 ≤ l.length ∧ -1 ≤ k.2 ∧ k.2 < 65536 ∧ risingG (-1) l = risingG k.2 (l.drop k.1)} => ([(0, .d (slT 2 encG l)), (3, tvi k.1.2), (6, .d (slT 2 encG l)), (7, tvi l.length), (8, tvi k.1.1)], [])) (fun k => l.length - k.1.1) ⟨(0, -1), by omega, by decide, by decide, rfl⟩ ⟨.refl _, .refl _, .refl _, .refl _, .refl _, trivial⟩ ?_
  rintro ⟨⟨k, last⟩, hk, hl1, hl2, hj⟩
  dsimp only at hk hl1 hl2 hj ⊢
  conv => whnf
  split <;> rename_i h2
  · have h2 : k < l.length := Int.ofNat_lt.1 (of_decide_eq_true h2)
    have hg := hG k
    rw [drop_getD l k h2] at hj
    conv => whnf
    refine ⟨by first | omega | (simp only [Int.toNat_natCast]; omega) | (simp; done) | (simp; omega), ?_⟩
    conv => whnf
    refine ⟨by first | omega | (simp only [Int.toNat_natCast]; omega) | (simp; done) | (simp; omega), ?_⟩
    conv => whnf
    refine ⟨by first | omega | (simp only [Int.toNat_natCast]; omega) | (simp; done) | (simp; omega), ?_⟩
    conv => whnf
    refine ⟨by first | omega | (simp only [Int.toNat_natCast]; omega) | (simp; done) | (simp; omega), ?_⟩
    conv => whnf
    split <;> rename_i h3
    · have h3 := of_decide_eq_true h3
      conv => whnf
      have e : risesB l = false := by
        rw [risesB, hj, risingG, show decide ((l.getD k default).1 < last + 2) = true from decide_eq_true h3]
        simp
      rw [e]
      exact ⟨_, .refl _, rfl, rfl⟩
    · have h3 := of_decide_eq_false h3
      conv => whnf
      refine ⟨by first | omega | (simp only [Int.toNat_natCast]; omega) | (simp; done) | (simp; omega), ?_⟩
      conv => whnf
      split <;> rename_i h4
      · have h4 : ((l.getD k default).1 == 0) = true := h4
        conv => whnf
        have e : risesB l = false := by
          rw [risesB, hj, risingG, h4]
          simp
        rw [e]
        exact ⟨_, .refl _, rfl, rfl⟩
      · have h4 : ((l.getD k default).1 == 0) = false := h4
        conv => whnf
        refine ⟨by first | omega | (simp only [Int.toNat_natCast]; omega) | (simp; done) | (simp; omega), ?_⟩
        conv => whnf
        refine ⟨by first | omega | (simp only [Int.toNat_natCast]; omega) | (simp; done) | (simp; omega), ?_⟩
        conv => whnf
        split <;> rename_i h5
        · have h5 := of_decide_eq_true h5
          conv => whnf
          have e : risesB l = false := by
            rw [risesB, hj, risingG, show decide ((l.getD k default).2 < (l.getD k default).1) = true from decide_eq_true h5]
            simp
          rw [e]
          exact ⟨_, .refl _, rfl, rfl⟩
        · have h5 := of_decide_eq_false h5
          conv => whnf
          refine ⟨by first | omega | (simp only [Int.toNat_natCast]; omega) | (simp; done) | (simp; omega), ?_⟩
          conv => whnf
          refine ⟨by first | omega | (simp only [Int.toNat_natCast]; omega) | (simp; done) | (simp; omega), ?_⟩
          conv => whnf
          refine ⟨by first | omega | (simp only [Int.toNat_natCast]; omega) | (simp; done) | (simp; omega), ?_⟩
          conv => whnf
          refine ⟨⟨(k + 1, (l.getD k default).2), by dsimp only; omega, by dsimp only; omega, by dsimp only; omega, ?_⟩, [], by dsimp only; omega, .refl _, .refl _, .refl _, .refl _, .refl _, trivial⟩
          rw [hj, risingG, show decide ((l.getD k default).1 < last + 2) = false from decide_eq_false h3, h4, show decide ((l.getD k default).2 < (l.getD k default).1) = false from decide_eq_false h5]
          simp
  · have h2 : ¬ k < l.length := fun h => of_decide_eq_false h2 (Int.ofNat_lt.2 h)
    conv => whnf
    rw [List.drop_of_length_le (by omega)] at hj
    have e : risesB l = decide ((l.length : Int) ≤ 100) := by
      rw [risesB, hj, show risingG last [] = true from rfl, Bool.true_and]
      exact decide_eq_decide.2 ⟨fun h => by omega, fun h => by omega⟩
    rw [e]
    exact ⟨_, .refl _, rfl, rfl⟩
def textB (c : Ch) : Bool := decide (1 ≤ (c.text.length : Int)) && decide ((c.text.length : Int) ≤ 1000)
def fitsB (c : Ch) : Bool :=
  if c.ty = 0 then decide (0 ≤ c.flags) && decide (c.flags ≤ 7) && textB c
  else if c.ty = 1 ∨ c.ty = 2 then (c.tag != 0) && (c.outs != 0) && (c.ins != 0)
  else if c.ty = 3 then risesB c.gaps && decide ((c.dups.length : Int) ≤ 100)
  else if c.ty = 4 ∨ c.ty = 5 then (c.items.length == 1) && ((c.items.getD 0 default).ty == 1)
  else if c.ty = 9 then decide (0 < (c.items.length : Int))
  else if c.ty = 10 then textB c
  else if c.ty = 6 ∨ c.ty = 14 then c.flags == 0 || c.flags == 1
  else if c.ty = 7 ∨ c.ty = 8 ∨ c.ty = 11 then true
  else decide (0 ≤ c.ty) && decide (c.ty < 256) && decide (0 ≤ c.flags) && decide (c.flags < 256) && decide ((c.text.length : Int) ≤ 1000)
theorem fits_spec (c : Ch) (hg : c.gaps.length ≤ 2 ^ 40) (hG : GapsOk c.gaps) : PSpec Tryz.prog 91 [cA c] (· = tvb (fitsB c)) := by
  refine PSpec.run (tysOk) followsB Tryz.func91 (by decide) rfl Tryz.ntmps91 (Nat.le_of_ble_eq_true rfl) rfl fun w0 R0 hGw => ?_
  conv => whnf
  split <;> rename_i h1
  · conv => whnf
    split <;> rename_i g0b
    · have g0 : c.ty = 0 := by simpa using g0b
      conv => whnf
      repeat' (split <;> (conv => whnf))
      all_goals exact ⟨_, .refl _, by simp [fitsB, textB, *], rfl⟩
    have g0 : ¬ c.ty = 0 := by simpa using g0b
    conv => whnf
    split <;> rename_i g1b
    · have g1 : c.ty = 1 := by simpa using g1b
      conv => whnf
      try (rw [g1b]; conv => whnf)
      repeat' (split <;> (conv => whnf))
      all_goals exact ⟨_, .refl _, by simp [fitsB, textB, *], rfl⟩
    have g1 : ¬ c.ty = 1 := by simpa using g1b
    conv => whnf
    split <;> rename_i g2b
    · have g2 : c.ty = 2 := by simpa using g2b
      conv => whnf
      try (rw [g1b]; conv => whnf)
      try (rw [g2b]; conv => whnf)
      repeat' (split <;> (conv => whnf))
      all_goals exact ⟨_, .refl _, by simp [fitsB, textB, *], rfl⟩
    have g2 : ¬ c.ty = 2 := by simpa using g2b
    conv => whnf
    split <;> rename_i g3b
    · have g3 : c.ty = 3 := by simpa using g3b
      conv => whnf
      refine ⟨_, rising_spec c.gaps hg hG, ?_⟩
      rintro q rfl
      conv => whnf
      repeat' (split <;> (conv => whnf))
      all_goals exact ⟨_, .refl _, by simp [fitsB, textB, *], rfl⟩
    have g3 : ¬ c.ty = 3 := by simpa using g3b
    conv => whnf
    split <;> rename_i g4b
    · have g4 : c.ty = 4 := by simpa using g4b
      conv => whnf
      try (rw [g4b]; conv => whnf)
      split <;> rename_i h6
      · have h6' : c.items.length = 1 := by
          simp at h6
          omega
        conv => whnf
        refine ⟨by first | omega | (simp only [Int.toNat_natCast]; omega) | (simp; done) | (simp; omega), ?_⟩
        conv => whnf
        exact ⟨_, .refl _, by simp [fitsB, textB, *], rfl⟩
      · have h6' : ¬ c.items.length = 1 := by
          simp at h6
          omega
        conv => whnf
        exact ⟨_, .refl _, by simp [fitsB, textB, *], rfl⟩
    have g4 : ¬ c.ty = 4 := by simpa using g4b
    conv => whnf
    split <;> rename_i g5b
    · have g5 : c.ty = 5 := by simpa using g5b
      conv => whnf
      try (rw [g4b]; conv => whnf)
      try (rw [g5b]; conv => whnf)
      split <;> rename_i h6
      · have h6' : c.items.length = 1 := by
          simp at h6
          omega
        conv => whnf
        refine ⟨by first | omega | (simp only [Int.toNat_natCast]; omega) | (simp; done) | (simp; omega), ?_⟩
        conv => whnf
        exact ⟨_, .refl _, by simp [fitsB, textB, *], rfl⟩
      · have h6' : ¬ c.items.length = 1 := by
          simp at h6
          omega
        conv => whnf
        exact ⟨_, .refl _, by simp [fitsB, textB, *], rfl⟩
    have g5 : ¬ c.ty = 5 := by simpa using g5b
    conv => whnf
    split <;> rename_i g9b
    · have g9 : c.ty = 9 := by simpa using g9b
      conv => whnf
      repeat' (split <;> (conv => whnf))
      all_goals exact ⟨_, .refl _, by simp [fitsB, textB, *], rfl⟩
    have g9 : ¬ c.ty = 9 := by simpa using g9b
    conv => whnf
    split <;> rename_i g10b
    · have g10 : c.ty = 10 := by simpa using g10b
      conv => whnf
      repeat' (split <;> (conv => whnf))
      all_goals exact ⟨_, .refl _, by simp [fitsB, textB, *], rfl⟩
    have g10 : ¬ c.ty = 10 := by simpa using g10b
    conv => whnf
    split <;> rename_i g6b
    · have g6 : c.ty = 6 := by simpa using g6b
      conv => whnf
      try (rw [g6b]; conv => whnf)
      repeat' (split <;> (conv => whnf))
      all_goals exact ⟨_, .refl _, by simp [fitsB, textB, *], rfl⟩
    have g6 : ¬ c.ty = 6 := by simpa using g6b
    conv => whnf
    split <;> rename_i g14b
    · have g14 : c.ty = 14 := by simpa using g14b
      conv => whnf
      try (rw [g6b]; conv => whnf)
      try (rw [g14b]; conv => whnf)
      repeat' (split <;> (conv => whnf))
      all_goals exact ⟨_, .refl _, by simp [fitsB, textB, *], rfl⟩
    have g14 : ¬ c.ty = 14 := by simpa using g14b
    conv => whnf
    split <;> rename_i g7b
    · have g7 : c.ty = 7 := by simpa using g7b
      conv => whnf
      try (rw [g7b]; conv => whnf)
      repeat' (split <;> (conv => whnf))
      all_goals exact ⟨_, .refl _, by simp [fitsB, textB, *], rfl⟩
    have g7 : ¬ c.ty = 7 := by simpa using g7b
    conv => whnf
    split <;> rename_i g8b
    · have g8 : c.ty = 8 := by simpa using g8b
      conv => whnf
      try (rw [g7b]; conv => whnf)
      try (rw [g8b]; conv => whnf)
      repeat' (split <;> (conv => whnf))
      all_goals exact ⟨_, .refl _, by simp [fitsB, textB, *], rfl⟩
    have g8 : ¬ c.ty = 8 := by simpa using g8b
    conv => whnf
    split <;> rename_i g11b
    · have g11 : c.ty = 11 := by simpa using g11b
      conv => whnf
      try (rw [g7b]; conv => whnf)
      try (rw [g8b]; conv => whnf)
      try (rw [g11b]; conv => whnf)
      repeat' (split <;> (conv => whnf))
      all_goals exact ⟨_, .refl _, by simp [fitsB, textB, *], rfl⟩
    have g11 : ¬ c.ty = 11 := by simpa using g11b
    conv => whnf
    repeat' (split <;> (conv => whnf))
    all_goals exact ⟨_, .refl _, by simp [fitsB, textB, *], rfl⟩
  · conv => whnf
    split <;> rename_i g0b
    · have g0 : c.ty = 0 := by simpa using g0b
      conv => whnf
      repeat' (split <;> (conv => whnf))
      all_goals exact ⟨_, .refl _, by simp [fitsB, textB, *], rfl⟩
    have g0 : ¬ c.ty = 0 := by simpa using g0b
    conv => whnf
    split <;> rename_i g1b
    · have g1 : c.ty = 1 := by simpa using g1b
      conv => whnf
      try (rw [g1b]; conv => whnf)
      repeat' (split <;> (conv => whnf))
      all_goals exact ⟨_, .refl _, by simp [fitsB, textB, *], rfl⟩
    have g1 : ¬ c.ty = 1 := by simpa using g1b
    conv => whnf
    split <;> rename_i g2b
    · have g2 : c.ty = 2 := by simpa using g2b
      conv => whnf
      try (rw [g1b]; conv => whnf)
      try (rw [g2b]; conv => whnf)
      repeat' (split <;> (conv => whnf))
      all_goals exact ⟨_, .refl _, by simp [fitsB, textB, *], rfl⟩
    have g2 : ¬ c.ty = 2 := by simpa using g2b
    conv => whnf
    split <;> rename_i g3b
    · have g3 : c.ty = 3 := by simpa using g3b
      conv => whnf
      refine ⟨_, rising_spec c.gaps hg hG, ?_⟩
      rintro q rfl
      conv => whnf
      repeat' (split <;> (conv => whnf))
      all_goals exact ⟨_, .refl _, by simp [fitsB, textB, *], rfl⟩
    have g3 : ¬ c.ty = 3 := by simpa using g3b
    conv => whnf
    split <;> rename_i g4b
    · have g4 : c.ty = 4 := by simpa using g4b
      conv => whnf
      try (rw [g4b]; conv => whnf)
      split <;> rename_i h6
      · have h6' : c.items.length = 1 := by
          simp at h6
          omega
        conv => whnf
        refine ⟨by first | omega | (simp only [Int.toNat_natCast]; omega) | (simp; done) | (simp; omega), ?_⟩
        conv => whnf
        exact ⟨_, .refl _, by simp [fitsB, textB, *], rfl⟩
      · have h6' : ¬ c.items.length = 1 := by
          simp at h6
          omega
        conv => whnf
        exact ⟨_, .refl _, by simp [fitsB, textB, *], rfl⟩
    have g4 : ¬ c.ty = 4 := by simpa using g4b
    conv => whnf
    split <;> rename_i g5b
    · have g5 : c.ty = 5 := by simpa using g5b
      conv => whnf
      try (rw [g4b]; conv => whnf)
      try (rw [g5b]; conv => whnf)
      split <;> rename_i h6
      · have h6' : c.items.length = 1 := by
          simp at h6
          omega
        conv => whnf
        refine ⟨by first | omega | (simp only [Int.toNat_natCast]; omega) | (simp; done) | (simp; omega), ?_⟩
        conv => whnf
        exact ⟨_, .refl _, by simp [fitsB, textB, *], rfl⟩
      · have h6' : ¬ c.items.length = 1 := by
          simp at h6
          omega
        conv => whnf
        exact ⟨_, .refl _, by simp [fitsB, textB, *], rfl⟩
    have g5 : ¬ c.ty = 5 := by simpa using g5b
    conv => whnf
    split <;> rename_i g9b
    · have g9 : c.ty = 9 := by simpa using g9b
      conv => whnf
      repeat' (split <;> (conv => whnf))
      all_goals exact ⟨_, .refl _, by simp [fitsB, textB, *], rfl⟩
    have g9 : ¬ c.ty = 9 := by simpa using g9b
    conv => whnf
    split <;> rename_i g10b
    · have g10 : c.ty = 10 := by simpa using g10b
      conv => whnf
      repeat' (split <;> (conv => whnf))
      all_goals exact ⟨_, .refl _, by simp [fitsB, textB, *], rfl⟩
    have g10 : ¬ c.ty = 10 := by simpa using g10b
    conv => whnf
    split <;> rename_i g6b
    · have g6 : c.ty = 6 := by simpa using g6b
      conv => whnf
      try (rw [g6b]; conv => whnf)
      repeat' (split <;> (conv => whnf))
      all_goals exact ⟨_, .refl _, by simp [fitsB, textB, *], rfl⟩
    have g6 : ¬ c.ty = 6 := by simpa using g6b
    conv => whnf
    split <;> rename_i g14b
    · have g14 : c.ty = 14 := by simpa using g14b
      conv => whnf
      try (rw [g6b]; conv => whnf)
      try (rw [g14b]; conv => whnf)
      repeat' (split <;> (conv => whnf))
      all_goals exact ⟨_, .refl _, by simp [fitsB, textB, *], rfl⟩
    have g14 : ¬ c.ty = 14 := by simpa using g14b
    conv => whnf
    split <;> rename_i g7b
    · have g7 : c.ty = 7 := by simpa using g7b
      conv => whnf
      try (rw [g7b]; conv => whnf)
      repeat' (split <;> (conv => whnf))
      all_goals exact ⟨_, .refl _, by simp [fitsB, textB, *], rfl⟩
    have g7 : ¬ c.ty = 7 := by simpa using g7b
    conv => whnf
    split <;> rename_i g8b
    · have g8 : c.ty = 8 := by simpa using g8b
      conv => whnf
      try (rw [g7b]; conv => whnf)
      try (rw [g8b]; conv => whnf)
      repeat' (split <;> (conv => whnf))
      all_goals exact ⟨_, .refl _, by simp [fitsB, textB, *], rfl⟩
    have g8 : ¬ c.ty = 8 := by simpa using g8b
    conv => whnf
    split <;> rename_i g11b
    · have g11 : c.ty = 11 := by simpa using g11b
      conv => whnf
      try (rw [g7b]; conv => whnf)
      try (rw [g8b]; conv => whnf)
      try (rw [g11b]; conv => whnf)
      repeat' (split <;> (conv => whnf))
      all_goals exact ⟨_, .refl _, by simp [fitsB, textB, *], rfl⟩
    have g11 : ¬ c.ty = 11 := by simpa using g11b
    conv => whnf
    repeat' (split <;> (conv => whnf))
    all_goals exact ⟨_, .refl _, by simp [fitsB, textB, *], rfl⟩
theorem same_spec7 (c d : Ch) (hg : c.gaps.length ≤ 2 ^ 40) (hd : c.dups.length ≤ 2 ^ 40) (hi : c.items.length ≤ 2 ^ 40) : PSpec Tryz.prog 92 [cA c, cA d] (· = tvb (decide (c = d))) := by
  refine PSpec.run (tysOk) followsB Tryz.func92 (by decide) rfl Tryz.ntmps92 (Nat.le_of_ble_eq_true rfl) rfl fun w0 R0 hGw => ?_
  conv => whnf
  by_cases q_ty : c.ty = d.ty
  rotate_left
  · have e : decide (c = d) = false := decide_eq_false fun e => q_ty (congrArg Ch.ty e)
    have q' : (c.ty == d.ty) = false := by simp [q_ty]
    rw [q', e]
    clear q_ty q' e
    conv => whnf
    repeat' (split <;> (conv => whnf))
    all_goals exact ⟨_, .refl _, rfl, rfl⟩
  rw [show (c.ty == d.ty) = true from by simp [q_ty]]
  conv => whnf
  by_cases q_flags : c.flags = d.flags
  rotate_left
  · have e : decide (c = d) = false := decide_eq_false fun e => q_flags (congrArg Ch.flags e)
    have q' : (c.flags == d.flags) = false := by simp [q_flags]
    rw [q', e]
    clear q_flags q' e
    conv => whnf
    repeat' (split <;> (conv => whnf))
    all_goals exact ⟨_, .refl _, rfl, rfl⟩
  rw [show (c.flags == d.flags) = true from by simp [q_flags]]
  conv => whnf
  by_cases q_tsn : c.tsn = d.tsn
  rotate_left
  · have e : decide (c = d) = false := decide_eq_false fun e => q_tsn (congrArg Ch.tsn e)
    have q' : (c.tsn == d.tsn) = false := by simp [q_tsn]
    rw [q', e]
    clear q_tsn q' e
    conv => whnf
    repeat' (split <;> (conv => whnf))
    all_goals exact ⟨_, .refl _, rfl, rfl⟩
  rw [show (c.tsn == d.tsn) = true from by simp [q_tsn]]
  conv => whnf
  by_cases q_tag : c.tag = d.tag
  rotate_left
  · have e : decide (c = d) = false := decide_eq_false fun e => q_tag (congrArg Ch.tag e)
    have q' : (c.tag == d.tag) = false := by simp [q_tag]
    rw [q', e]
    clear q_tag q' e
    conv => whnf
    repeat' (split <;> (conv => whnf))
    all_goals exact ⟨_, .refl _, rfl, rfl⟩
  rw [show (c.tag == d.tag) = true from by simp [q_tag]]
  conv => whnf
  by_cases q_window : c.window = d.window
  rotate_left
  · have e : decide (c = d) = false := decide_eq_false fun e => q_window (congrArg Ch.window e)
    have q' : (c.window == d.window) = false := by simp [q_window]
    rw [q', e]
    clear q_window q' e
    conv => whnf
    repeat' (split <;> (conv => whnf))
    all_goals exact ⟨_, .refl _, rfl, rfl⟩
  rw [show (c.window == d.window) = true from by simp [q_window]]
  conv => whnf
  by_cases q_ppid : c.ppid = d.ppid
  rotate_left
  · have e : decide (c = d) = false := decide_eq_false fun e => q_ppid (congrArg Ch.ppid e)
    have q' : (c.ppid == d.ppid) = false := by simp [q_ppid]
    rw [q', e]
    clear q_ppid q' e
    conv => whnf
    repeat' (split <;> (conv => whnf))
    all_goals exact ⟨_, .refl _, rfl, rfl⟩
  rw [show (c.ppid == d.ppid) = true from by simp [q_ppid]]
  conv => whnf
  by_cases q_stream : c.stream = d.stream
  rotate_left
  · have e : decide (c = d) = false := decide_eq_false fun e => q_stream (congrArg Ch.stream e)
    have q' : (c.stream == d.stream) = false := by simp [q_stream]
    rw [q', e]
    clear q_stream q' e
    conv => whnf
    repeat' (split <;> (conv => whnf))
    all_goals exact ⟨_, .refl _, rfl, rfl⟩
  rw [show (c.stream == d.stream) = true from by simp [q_stream]]
  conv => whnf
  by_cases q_ssn : c.ssn = d.ssn
  rotate_left
  · have e : decide (c = d) = false := decide_eq_false fun e => q_ssn (congrArg Ch.ssn e)
    have q' : (c.ssn == d.ssn) = false := by simp [q_ssn]
    rw [q', e]
    clear q_ssn q' e
    conv => whnf
    repeat' (split <;> (conv => whnf))
    all_goals exact ⟨_, .refl _, rfl, rfl⟩
  rw [show (c.ssn == d.ssn) = true from by simp [q_ssn]]
  conv => whnf
  by_cases q_outs : c.outs = d.outs
  rotate_left
  · have e : decide (c = d) = false := decide_eq_false fun e => q_outs (congrArg Ch.outs e)
    have q' : (c.outs == d.outs) = false := by simp [q_outs]
    rw [q', e]
    clear q_outs q' e
    conv => whnf
    repeat' (split <;> (conv => whnf))
    all_goals exact ⟨_, .refl _, rfl, rfl⟩
  rw [show (c.outs == d.outs) = true from by simp [q_outs]]
  conv => whnf
  by_cases q_ins : c.ins = d.ins
  rotate_left
  · have e : decide (c = d) = false := decide_eq_false fun e => q_ins (congrArg Ch.ins e)
    have q' : (c.ins == d.ins) = false := by simp [q_ins]
    rw [q', e]
    clear q_ins q' e
    conv => whnf
    repeat' (split <;> (conv => whnf))
    all_goals exact ⟨_, .refl _, rfl, rfl⟩
  rw [show (c.ins == d.ins) = true from by simp [q_ins]]
  conv => whnf
  by_cases q_text : c.text = d.text
  rotate_left
  · have e : decide (c = d) = false := decide_eq_false fun e => q_text (congrArg Ch.text e)
    have q' : (c.text == d.text) = false := by simp [q_text]
    rw [q', e]
    clear q_text q' e
    conv => whnf
    repeat' (split <;> (conv => whnf))
    all_goals exact ⟨_, .refl _, rfl, rfl⟩
  rw [show (c.text == d.text) = true from by simp [q_text]]
  conv => whnf
  refine ⟨_, eqG_spec c.gaps d.gaps hg, ?_⟩
  rintro q rfl
  conv => whnf
  by_cases q_gaps : c.gaps = d.gaps
  rotate_left
  · have e : decide (c = d) = false := decide_eq_false fun e => q_gaps (congrArg Ch.gaps e)
    rw [decide_eq_false q_gaps, e]
    clear q_gaps e
    conv => whnf
    repeat' (split <;> (conv => whnf))
    all_goals exact ⟨_, .refl _, rfl, rfl⟩
  rw [decide_eq_true q_gaps]
  conv => whnf
  refine ⟨_, eq32_spec c.dups d.dups hd, ?_⟩
  rintro q rfl
  conv => whnf
  by_cases q_dups : c.dups = d.dups
  rotate_left
  · have e : decide (c = d) = false := decide_eq_false fun e => q_dups (congrArg Ch.dups e)
    rw [decide_eq_false q_dups, e]
    clear q_dups e
    conv => whnf
    repeat' (split <;> (conv => whnf))
    all_goals exact ⟨_, .refl _, rfl, rfl⟩
  rw [decide_eq_true q_dups]
  conv => whnf
  refine ⟨_, eqI_spec c.items d.items hi, ?_⟩
  rintro q rfl
  conv => whnf
  by_cases q_items : c.items = d.items
  rotate_left
  · have e : decide (c = d) = false := decide_eq_false fun e => q_items (congrArg Ch.items e)
    rw [decide_eq_false q_items, e]
    clear q_items e
    conv => whnf
    repeat' (split <;> (conv => whnf))
    all_goals exact ⟨_, .refl _, rfl, rfl⟩
  rw [decide_eq_true q_items]
  conv => whnf
  have e : decide (c = d) = true := decide_eq_true (by
    cases c; cases d
    simp only at q_ty q_flags q_tsn q_tag q_window q_ppid q_stream q_ssn q_outs q_ins q_text q_gaps q_dups q_items
    subst q_ty q_flags q_tsn q_tag q_window q_ppid q_stream q_ssn q_outs q_ins q_text q_gaps q_dups q_items
    rfl)
  rw [e]
  exact ⟨_, .refl _, rfl, rfl⟩
end Go.Proofs.YtbghocipmlobnaaGreat
