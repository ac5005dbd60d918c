/- The reference's functions over stores, three. -/
import Derived.Test.YteblkbnkaogkmaaStD
namespace Go.Proofs.Yteblkbnkaogkmaa
open Go Towline Towline.Store
set_option linter.unusedVariables false
set_option maxRecDepth 20000
set_option maxHeartbeats 2000000
theorem msgEq (x y : Msg) : (x.id == y.id && (((x.stream : Nat) : Int) == ((y.stream : Nat) : Int) && (((x.ppid : Nat) : Int) == ((y.ppid : Nat) : Int) && (x.free == y.free && (x.text == y.text && (x.til == y.til && true)))))) = decide (x = y) := by
  rw [Bool.eq_iff_iff]
  rcases x with ⟨a1, a2, a3, a4, a5, a6⟩
  rcases y with ⟨b1, b2, b3, b4, b5, b6⟩
  have h2 : ((a2 : Int) = (b2 : Int)) ↔ a2 = b2 := by omega
  have h3 : ((a3 : Int) = (b3 : Int)) ↔ a3 = b3 := by omega
  simp [h2, h3]
theorem same_spec (l m : List Msg) (a b : Int) (x y : List Nat) (h4 : l.length ≤ 2 ^ 40) (h5 : x.length ≤ 2 ^ 40) :
    PSpec Try.prog 23 [stA l a x, stA m b y] (· = vb (decide (a = b ∧ l = m ∧ x = y))) := by
  refine PSpec.run tysOk follows Try.func23 (by decide) rfl Try.ntmps23 (Nat.le_of_ble_eq_true rfl) rfl fun w0 R0 => ?_
  conv => whnf
  split <;> rename_i h1
  · have h1 : a ≠ b := by simpa using h1
    conv => whnf
    exact ⟨_, .refl _, by rw [decide_eq_false (fun e => h1 e.1)], rfl⟩
  · have h1 : a = b := by simpa using h1
    conv => whnf
    split <;> rename_i h2
    · have h2 : l.length ≠ m.length := by intro e; rw [e] at h2; simp at h2
      conv => whnf
      exact ⟨_, .refl _, by rw [decide_eq_false (fun e => h2 (by rw [e.2.1]))], rfl⟩
    · have h2 : ((l.length : Nat) : Int) = m.length := by simpa using h2
      have h2 : l.length = m.length := by omega
      conv => whnf
      split <;> rename_i h3
      · have h3 : x.length ≠ y.length := by intro e; rw [e] at h3; simp at h3
        conv => whnf
        exact ⟨_, .refl _, by rw [decide_eq_false (fun e => h3 (by rw [e.2.2]))], rfl⟩
      · have h3 : ((x.length : Nat) : Int) = y.length := by simpa using h3
        have h3 : x.length = y.length := by omega
        conv => whnf
        refine ALoop.intro tysOk follows (fun k : {k // k ≤ l.length ∧ ∀ j, j < k → l.getD j default = m.getD j default} => ([(2, .ptr 2 0), (3, .ptr 3 0), (5, vi k.1)], [(2, .box (stL l a x)), (3, .box (stL m b y))])) (fun k => l.length - k.1) ⟨0, by omega, fun j hj => by omega⟩ ?_ ?_
        · exact ⟨.refl _, .refl _, .refl _, OLe.refl _, OLe.refl _, trivial⟩
        · rintro ⟨k, hk, hall⟩
          dsimp only
          conv => whnf
          split <;> rename_i h6
          · have hlt : k < l.length := by simpa using h6
            conv => whnf
            refine ⟨by first | omega | (simp only [Int.toNat_natCast]; omega) | (simp; done) | (simp; omega), ?_⟩
            conv => whnf
            refine ⟨by first | omega | (simp only [Int.toNat_natCast]; omega) | (simp; done) | (simp; omega), ?_⟩
            conv => whnf
            refine ⟨by kernel_rfl, ?_⟩
            conv => whnf
            split <;> rename_i h7
            · have h7 : l.getD k default ≠ m.getD k default := by simp only [Int.toNat_natCast, msgEq] at h7; simpa using h7
              conv => whnf
              exact ⟨_, .refl _, by rw [decide_eq_false (fun e => h7 (by rw [e.2.1]))], rfl⟩
            · have h7 : l.getD k default = m.getD k default := by simp only [Int.toNat_natCast, msgEq] at h7; simpa using h7
              conv => whnf
              refine ⟨by first | omega | (simp only [Int.toNat_natCast]; omega) | (simp; done) | (simp; omega), ?_⟩
              conv => whnf
              refine ⟨⟨k + 1, by omega, fun j hj => ?_⟩, by dsimp only; omega, .refl _, .refl _, .refl _, OLe.refl _, OLe.refl _, trivial⟩
              rcases Nat.lt_or_eq_of_le (show j ≤ k from by omega) with h | rfl
              · exact hall j h
              · exact h7
          · have hlt : ¬ k < l.length := by simpa using h6
            obtain rfl : k = l.length := by omega
            have hlm := eq_of_getD h2 hall
            conv => whnf
            refine ALoop.intro tysOk follows (fun k : {k // k ≤ x.length ∧ ∀ j, j < k → x.getD j default = y.getD j default} => ([(2, .ptr 2 0), (3, .ptr 3 0), (6, vi k.1)], [(2, .box (stL l a x)), (3, .box (stL m b y))])) (fun k => x.length - k.1) ⟨0, by omega, fun j hj => by omega⟩ ?_ ?_
            · exact ⟨.refl _, .refl _, .refl _, OLe.refl _, OLe.refl _, trivial⟩
            · rintro ⟨k, hk, hall⟩
              dsimp only
              conv => whnf
              split <;> rename_i h6
              · have hlt : k < x.length := by simpa using h6
                conv => whnf
                refine ⟨by first | omega | (simp only [Int.toNat_natCast]; omega) | (simp; done) | (simp; omega), ?_⟩
                conv => whnf
                refine ⟨by first | omega | (simp only [Int.toNat_natCast]; omega) | (simp; done) | (simp; omega), ?_⟩
                conv => whnf
                refine ⟨by kernel_rfl, ?_⟩
                conv => whnf
                split <;> rename_i h7
                · have h7 : x.getD k default ≠ y.getD k default := by intro e; simp only [Int.toNat_natCast] at h7; rw [e] at h7; simp at h7
                  conv => whnf
                  exact ⟨_, .refl _, by rw [decide_eq_false (fun e => h7 (by rw [e.2.2]))], rfl⟩
                · have h7 : ((x.getD k default : Nat) : Int) = (y.getD k default : Nat) := by simpa using h7
                  conv => whnf
                  refine ⟨by first | omega | (simp only [Int.toNat_natCast]; omega) | (simp; done) | (simp; omega), ?_⟩
                  conv => whnf
                  refine ⟨⟨k + 1, by omega, fun j hj => ?_⟩, by dsimp only; omega, .refl _, .refl _, .refl _, OLe.refl _, OLe.refl _, trivial⟩
                  rcases Nat.lt_or_eq_of_le (show j ≤ k from by omega) with h | rfl
                  · exact hall j h
                  · exact Int.ofNat.inj h7
              · have hlt : ¬ k < x.length := by simpa using h6
                obtain rfl : k = x.length := by omega
                conv => whnf
                exact ⟨_, .refl _, by rw [decide_eq_true ⟨h1, hlm, eq_of_getD h3 hall⟩], rfl⟩
theorem rnew_bad (n : Int) (h : n < 1 ∨ 16 < n) : PSpec Try.prog 22 [vi n] (· = .tup [stA [] 0 [], vi 1]) := by
  refine PSpec.run tysOk follows Try.func22 (by decide) rfl Try.ntmps22 (Nat.le_of_ble_eq_true rfl) rfl fun w0 R0 => ?_
  conv => whnf
  split <;> rename_i h1
  · conv => whnf
    refine ⟨_, ?_, rfl, rfl⟩
    exact .tup ⟨.agg ⟨.nil, .refl _, .nil, trivial⟩, .refl _, trivial⟩
  · replace h1 := of_decide_eq_false h1
    try simp only [Int.toNat_natCast] at h1
    conv => whnf
    split <;> rename_i h2
    · conv => whnf
      refine ⟨_, ?_, rfl, rfl⟩
      exact .tup ⟨.agg ⟨.nil, .refl _, .nil, trivial⟩, .refl _, trivial⟩
    · replace h2 := of_decide_eq_false h2
      try simp only [Int.toNat_natCast] at h2
      omega
theorem rnew_ok (n : Nat) (h1 : 1 ≤ n) (h2 : n ≤ 16) : PSpec Try.prog 22 [vi n] (· = .tup [stA [] 0 (List.replicate n 0), vi 0]) := by
  refine PSpec.run tysOk follows Try.func22 (by decide) rfl Try.ntmps22 (Nat.le_of_ble_eq_true rfl) rfl fun w0 R0 => ?_
  conv => whnf
  split <;> rename_i h3
  · replace h3 := of_decide_eq_true h3
    try simp only [Int.toNat_natCast] at h3
    omega
  · conv => whnf
    split <;> rename_i h4
    · replace h4 := of_decide_eq_true h4
      try simp only [Int.toNat_natCast] at h4
      omega
    · conv => whnf
      refine ⟨⟨by omega, by omega, by simp only [ty31]; omega, by omega⟩, ?_⟩
      conv => whnf
      refine ⟨by first | omega | (simp only [Int.toNat_natCast]; omega) | (simp; done) | (simp; omega), ?_⟩
      conv => whnf
      refine ⟨_, ?_, rfl, rfl⟩
      refine .tup ⟨.agg ⟨.nil, .refl _, .sl (by simp) (fun k hk => ?_), trivial⟩, .refl _, trivial⟩
      have hk : k < n := by simpa using hk
      simp [ty31, encN, hk]
end Go.Proofs.Yteblkbnkaogkmaa
