/- Chapter 6: the document's Build and Parse, rows as the statements have them: contracts. -/
import Derived.Test.YtbgimjkaecfjfaaDoorTlvJ
namespace Go.Proofs.YtbgimjkaecfjfaaDoor
open Go Go.RowKit Towline Towline.Tlv
set_option linter.unusedVariables false
set_option linter.unusedSimpArgs false
set_option maxRecDepth 20000
set_option maxHeartbeats 4000000
def smallL (l : List Tlv.It) : Bool := decide (l.length ≤ 60) && l.all fun x => decide (x.v.length ≤ 2000)
theorem small_spec (l : List Tlv.It) : PSpec Tryd.prog 14 [.d (slT 2 encI l)] (· = tvb (smallL l)) := by
  refine PSpec.run (tysOk) followsB Tryd.func14 (by decide) rfl Tryd.ntmps14 (Nat.le_of_ble_eq_true rfl) rfl fun w0 R0 => ?_
  conv => whnf
  split <;> rename_i g
  · replace g := of_decide_eq_true g
    try simp only [Int.toNat_natCast] at g
    conv => whnf
    rw [show smallL l = false from by unfold smallL; rw [decide_eq_false (by omega)]; rfl]
    exact ⟨_, .refl _, rfl, rfl⟩
  replace g := of_decide_eq_false g
  try simp only [Int.toNat_natCast] at g
  conv => whnf
  have e0 : smallL l = l.all fun x => decide (x.v.length ≤ 2000) := by unfold smallL; rw [decide_eq_true (by omega)]; rfl
  refine ALoop.introR tysOk followsB (fun k : {k // k ≤ l.length ∧ ∀ j, j < k → (l.getD j default).v.length ≤ 2000} => ([(0, .d (slT 2 encI l)), (3, tvi k.1)], [])) (fun k => l.length - k.1) ⟨0, by omega, fun j hj => by omega⟩ ?_ ?_
  · exact ⟨.refl _, .refl _, trivial⟩
  · rintro ⟨k, hk1, hk2⟩
    dsimp only
    conv => whnf
    split <;> rename_i h1
    · have hlt : k < l.length := by simpa using h1
      conv => whnf
      refine ⟨by first | omega | (simp only [Int.toNat_natCast]; omega) | (simp; done) | (simp; omega), ?_⟩
      conv => whnf
      split <;> rename_i h2
      · replace h2 := of_decide_eq_true h2
        try simp only [Int.toNat_natCast] at h2
        conv => whnf
        rw [show smallL l = false from by
          rw [e0, ← Bool.not_eq_true, List.all_eq_true]
          intro hh
          have h3 := hh _ (List.getElem_mem hlt)
          rw [List.getD_eq_getElem?_getD, List.getElem?_eq_getElem hlt] at h2
          have h3 := of_decide_eq_true h3
          have h2 : 2000 < (l[k].v.length : Int) := h2
          omega]
        exact ⟨_, .refl _, rfl, rfl⟩
      · replace h2 := of_decide_eq_false h2
        try simp only [Int.toNat_natCast] at h2
        conv => whnf
        refine ⟨by first | omega | (simp only [Int.toNat_natCast]; omega) | (simp; done) | (simp; omega), ?_⟩
        conv => whnf
        refine ⟨⟨k + 1, by omega, fun j hj => ?_⟩, [], by dsimp only; omega, .refl _, .refl _, trivial⟩
        rcases Nat.lt_or_eq_of_le (show j ≤ k from by omega) with h | rfl
        · exact hk2 j h
        · omega
    · have hlt : ¬ k < l.length := by simpa using h1
      obtain rfl : k = l.length := by omega
      conv => whnf
      rw [show smallL l = true from by
        rw [e0, List.all_eq_true]
        intro x hx
        obtain ⟨j, hj, rfl⟩ := List.mem_iff_getElem.1 hx
        have := hk2 j hj
        rw [List.getD_eq_getElem?_getD, List.getElem?_eq_getElem hj] at this
        exact decide_eq_true this]
      exact ⟨_, .refl _, rfl, rfl⟩
def largestL (l : List Tlv.It) : Nat := l.foldl (fun n x => max n x.v.length) 0
theorem largest_take (l : List Tlv.It) (k : Nat) (h : k < l.length) : largestL (l.take (k + 1)) = max (largestL (l.take k)) (l.getD k default).v.length := by
  unfold largestL
  rw [List.take_add_one, List.foldl_append, List.getElem?_eq_getElem h, List.getD_eq_getElem?_getD, List.getElem?_eq_getElem h]
  rfl
theorem largest_spec (l : List Tlv.It) (h4 : l.length ≤ 2 ^ 40) : PSpec Tryd.prog 18 [.d (slT 2 encI l)] (· = tvi (largestL l)) := by
  refine PSpec.run (tysOk) followsB Tryd.func18 (by decide) rfl Tryd.ntmps18 (Nat.le_of_ble_eq_true rfl) rfl fun w0 R0 => ?_
  conv => whnf
  refine ALoop.introR tysOk followsB (fun k : {k // k ≤ l.length} => ([(0, .d (slT 2 encI l)), (3, tvi (largestL (l.take k.1))), (4, tvi k.1)], [])) (fun k => l.length - k.1) ⟨0, by omega⟩ ?_ ?_
  · exact ⟨.refl _, .refl _, .refl _, trivial⟩
  · rintro ⟨k, hk1⟩
    dsimp only
    conv => whnf
    split <;> rename_i h1
    · have hlt : k < l.length := by simpa using h1
      conv => whnf
      refine ⟨by first | omega | (simp only [Int.toNat_natCast]; omega) | (simp; done) | (simp; omega), ?_⟩
      conv => whnf
      refine ⟨by first | omega | (simp only [Int.toNat_natCast]; omega) | (simp; done) | (simp; omega), ?_⟩
      conv => whnf
      refine ⟨⟨k + 1, by omega⟩, [], by dsimp only; omega, .refl _, .of_eq ?_, .refl _, trivial⟩
      dsimp only
      rw [largest_take l k hlt]
      congr 2
      show max (largestL (l.take k) : Int) ((l.getD k default).v.length : Int) = ((max (largestL (l.take k)) (l.getD k default).v.length : Nat) : Int)
      omega
    · have hlt : ¬ k < l.length := by simpa using h1
      obtain rfl : k = l.length := by omega
      conv => whnf
      rw [List.take_length]
      exact ⟨_, .refl _, rfl, rfl⟩
theorem as_spec (l : List Tlv.It) (h4 : l.length ≤ 2 ^ 40) : PSpec Tryd.prog 13 [.d (slT 2 encI l)] (· = .d (slT 2 encI l)) := by
  refine PSpec.run (tysOk) followsB Tryd.func13 (by decide) rfl Tryd.ntmps13 (Nat.le_of_ble_eq_true rfl) rfl fun w0 R0 => ?_
  conv => whnf
  refine ALoop.adopt 3 1000 2 57 (fun k => encI (l.getD k default)) rfl rfl rfl ?_
  refine ALoop.introR tysOk followsB (fun k : {k // k ≤ l.length} => ([(0, .d (slT 2 encI l)), (3, .rsl 1000 2 0 k.1), (4, tvi k.1)], [(1000, .row 57 2 k.1 (fun k => encI (l.getD k default)))])) (fun k => l.length - k.1) ⟨0, by omega⟩ ?_ ?_
  · exact ⟨.refl _, .refl _, .refl _, OLe.refl _, trivial⟩
  · rintro ⟨k, hk1⟩
    dsimp only
    conv => whnf
    split <;> rename_i h1
    · have hlt : k < l.length := by simpa using h1
      conv => whnf
      refine ⟨by first | omega | (simp only [Int.toNat_natCast]; omega) | (simp; done) | (simp; omega), ?_⟩
      conv => whnf
      refine ⟨by first | omega | (simp only [Int.toNat_natCast]; omega) | (simp; done) | (simp; omega), ?_⟩
      conv => whnf
      refine ⟨⟨⟨rfl, by omega, by simp only [ty57]; omega⟩, by omega⟩, ?_⟩
      conv => whnf
      refine ⟨by kernel_rfl, ?_⟩
      conv => whnf
      refine ⟨by first | omega | (simp only [Int.toNat_natCast]; omega) | (simp; done) | (simp; omega), ?_⟩
      conv => whnf
      refine ⟨⟨k + 1, by omega⟩, [(24, 1000)], by dsimp only; omega, .refl _, .refl _, .refl _, ⟨rfl, rfl, rfl, ?_⟩, trivial⟩
      intro j hj
      simp only [fcat]
      split
      · rfl
      · have : j = k := by omega
        subst this; simp [encI]
    · have hlt : ¬ k < l.length := by simpa using h1
      obtain rfl : k = l.length := by omega
      conv => whnf
      refine ⟨by first | omega | (simp only [Int.toNat_natCast]; omega) | (simp; done) | (simp; omega), ?_⟩
      conv => whnf
      exact ⟨_, .refl _, rfl, rfl⟩
theorem asF_spec (l : List Tlv.It) (h4 : l.length ≤ 2 ^ 40) : PSpec Tryd.prog 13 [.d (slT 2 encI l)] (· = .fresh 57 2 l.length (fun k => encI (l.getD k default))) := by
  refine PSpec.runF (tysOk) followsB Tryd.func13 (by decide) rfl Tryd.ntmps13 (Nat.le_of_ble_eq_true rfl) rfl fun w0 R0 => ?_
  conv => whnf
  refine ALoop.adopt 3 1000 2 57 (fun k => encI (l.getD k default)) rfl rfl rfl ?_
  refine ALoop.introR tysOk followsB (fun k : {k // k ≤ l.length} => ([(0, .d (slT 2 encI l)), (3, .rsl 1000 2 0 k.1), (4, tvi k.1)], [(1000, .row 57 2 k.1 (fun k => encI (l.getD k default)))])) (fun k => l.length - k.1) ⟨0, by omega⟩ ?_ ?_
  · exact ⟨.refl _, .refl _, .refl _, OLe.refl _, trivial⟩
  · rintro ⟨k, hk1⟩
    dsimp only
    conv => whnf
    split <;> rename_i h1
    · have hlt : k < l.length := by simpa using h1
      conv => whnf
      refine ⟨by first | omega | (simp only [Int.toNat_natCast]; omega) | (simp; done) | (simp; omega), ?_⟩
      conv => whnf
      refine ⟨by first | omega | (simp only [Int.toNat_natCast]; omega) | (simp; done) | (simp; omega), ?_⟩
      conv => whnf
      refine ⟨⟨⟨rfl, by omega, by simp only [ty57]; omega⟩, by omega⟩, ?_⟩
      conv => whnf
      refine ⟨by kernel_rfl, ?_⟩
      conv => whnf
      refine ⟨by first | omega | (simp only [Int.toNat_natCast]; omega) | (simp; done) | (simp; omega), ?_⟩
      conv => whnf
      refine ⟨⟨k + 1, by omega⟩, [(24, 1000)], by dsimp only; omega, .refl _, .refl _, .refl _, ⟨rfl, rfl, rfl, ?_⟩, trivial⟩
      intro j hj
      simp only [fcat]
      split
      · rfl
      · have : j = k := by omega
        subst this; simp [encI]
    · have hlt : ¬ k < l.length := by simpa using h1
      obtain rfl : k = l.length := by omega
      conv => whnf
      exact ⟨rfl, rfl, _, _, rfl, fun k hk => rfl, rfl⟩
theorem itEq (x y : Tlv.It) : (x.ty == y.ty && (x.v == y.v && true)) = decide (x = y) := by
  obtain ⟨a, b⟩ := x
  obtain ⟨c, d⟩ := y
  rw [Bool.eq_iff_iff]
  simp
theorem same_spec (a b : List Tlv.It) (h4 : a.length ≤ 2 ^ 40) (h5 : b.length ≤ 2 ^ 40) : PSpec Tryd.prog 12 [.d (slT 2 encI a), .d (slT 2 encI b)] (· = tvb (decide (a = b))) := by
  refine PSpec.run (tysOk) followsB Tryd.func12 (by decide) rfl Tryd.ntmps12 (Nat.le_of_ble_eq_true rfl) rfl fun w0 R0 => ?_
  conv => whnf
  split <;> rename_i h2
  · have h2 : a.length ≠ b.length := by intro e; rw [e] at h2; simp at h2
    conv => whnf
    rw [decide_eq_false (fun e => h2 (by rw [e]))]
    exact ⟨_, .refl _, rfl, rfl⟩
  have h2 : ((a.length : Nat) : Int) = b.length := by simpa using h2
  have h2 : a.length = b.length := by omega
  conv => whnf
  refine ALoop.introR tysOk followsB (fun k : {k // k ≤ a.length ∧ ∀ j, j < k → a.getD j default = b.getD j default} => ([(0, .d (slT 2 encI a)), (1, .d (slT 2 encI b)), (5, tvi k.1)], [])) (fun k => a.length - k.1) ⟨0, by omega, fun j hj => by omega⟩ ?_ ?_
  · exact ⟨.refl _, .refl _, .refl _, trivial⟩
  · rintro ⟨k, hk, hall⟩
    dsimp only
    conv => whnf
    split <;> rename_i h6
    · have hlt : k < a.length := by simpa using h6
      conv => whnf
      refine ⟨by first | omega | (simp only [Int.toNat_natCast]; omega) | (simp; done) | (simp; omega), ?_⟩
      conv => whnf
      refine ⟨by first | omega | (simp only [Int.toNat_natCast]; omega) | (simp; done) | (simp; omega), ?_⟩
      conv => whnf
      refine ⟨by kernel_rfl, ?_⟩
      conv => whnf
      rw [show (!((a.getD (Int.toNat k) default).ty == (b.getD (Int.toNat k) default).ty && ((a.getD (Int.toNat k) default).v == (b.getD (Int.toNat k) default).v && true))) = !decide (a.getD k default = b.getD k default) from congrArg _ (itEq _ _)]
      by_cases h7 : a.getD k default = b.getD k default
      · rw [decide_eq_true h7]
        conv => whnf
        refine ⟨by first | omega | (simp only [Int.toNat_natCast]; omega) | (simp; done) | (simp; omega), ?_⟩
        conv => whnf
        refine ⟨⟨k + 1, by omega, fun j hj => ?_⟩, [], by dsimp only; omega, .refl _, .refl _, .refl _, trivial⟩
        rcases Nat.lt_or_eq_of_le (show j ≤ k from by omega) with h | rfl
        · exact hall j h
        · exact h7
      · rw [decide_eq_false h7]
        conv => whnf
        rw [decide_eq_false (fun e => h7 (by rw [e]))]
        exact ⟨_, .refl _, rfl, rfl⟩
    · have hlt : ¬ k < a.length := by simpa using h6
      obtain rfl : k = a.length := by omega
      conv => whnf
      have e : a = b := by
        apply List.ext_getElem h2
        intro j h1 h2
        have := hall j h1
        rw [List.getD_eq_getElem?_getD, List.getD_eq_getElem?_getD, List.getElem?_eq_getElem h1, List.getElem?_eq_getElem h2] at this
        exact this
      rw [decide_eq_true e]
      exact ⟨_, .refl _, rfl, rfl⟩
end Go.Proofs.YtbgimjkaecfjfaaDoor
