/- The reference's functions over stores, two. -/
import Derived.Test.YteblkbnkaogkmaaStC
namespace Go.Proofs.Yteblkbnkaogkmaa
open Go Towline Towline.Store
set_option linter.unusedVariables false
set_option maxRecDepth 20000
set_option maxHeartbeats 2000000
theorem rbytes_spec (l : List Msg) (a : Int) (nx : List Nat) (h1 : total l ≤ 2 ^ 40) (h2 : -2 ^ 40 ≤ a) (h3 : a ≤ 2 ^ 40) (h4 : l.length ≤ 2 ^ 40) : PSpec Try.prog 26 [stA l a nx] (· = vi (total l - a)) := by
  refine PSpec.run tysOk follows Try.func26 (by decide) rfl Try.ntmps26 (Nat.le_of_ble_eq_true rfl) rfl fun w0 R0 => ?_
  conv => whnf
  refine ⟨by first | omega | (simp only [Int.toNat_natCast]; omega) | (simp; done) | (simp; omega), ?_⟩
  conv => whnf
  refine ALoop.intro tysOk follows (fun k : {k // k ≤ l.length} => ([(1, .ptr 1 0), (3, vi (total (l.take k.1) - a)), (4, vi k.1)], [(1, .box (stL l a nx))])) (fun k => l.length - k.1) ⟨0, by omega⟩ ?_ ?_
  · exact ⟨.refl _, .of_eq (by simp [total]), .refl _, OLe.refl _, trivial⟩
  · rintro ⟨k, hk⟩
    dsimp only
    conv => whnf
    split <;> rename_i hlt
    · have hlt : k < l.length := by simpa using hlt
      have ht := total_take l k hlt
      have hle := total_take_le l (k + 1)
      conv => whnf
      refine ⟨by first | omega | (simp only [Int.toNat_natCast]; omega) | (simp; done) | (simp; omega), ?_⟩
      conv => whnf
      refine ⟨by rw [Int.toNat_natCast]; omega, ?_⟩
      conv => whnf
      refine ⟨by first | omega | (simp only [Int.toNat_natCast]; omega) | (simp; done) | (simp; omega), ?_⟩
      conv => whnf
      refine ⟨⟨k + 1, by omega⟩, by dsimp only; omega, .refl _, ?_, .refl _, OLe.refl _, trivial⟩
      refine .of_eq ?_
      dsimp only
      rw [ht, Int.toNat_natCast, Int.natCast_add]
      congr 2; omega
    · have hge : ¬ k < l.length := by simpa using hlt
      obtain rfl : k = l.length := by omega
      conv => whnf
      exact ⟨_, .refl _, by rw [List.take_length], rfl⟩
theorem rpush_spec (l : List Msg) (a : Int) (nx : List Nat) (m : Msg) (h1 : total l ≤ 2 ^ 40) (h2 : -2 ^ 40 ≤ a) (h3 : a ≤ 2 ^ 40) (h4 : l.length ≤ 2 ^ 40) (h5 : m.stream ≤ 65535) :
    PSpec Try.prog 17 [stA l a nx, msgA m] (· = .tup [if pushE l a nx m = 0 then stA (l ++ [m]) a nx else stA [] 0 [], vi (pushE l a nx m)]) := by
  refine PSpec.run tysOk follows Try.func17 (by decide) rfl Try.ntmps17 (Nat.le_of_ble_eq_true rfl) rfl fun w0 R0 => ?_
  conv => whnf
  refine ⟨by first | omega | (simp only [Int.toNat_natCast]; omega) | (simp; done) | (simp; omega), ?_⟩
  conv => whnf
  split <;> rename_i h
  · have h : nx.length ≤ m.stream := by simpa using h
    conv => whnf
    refine ⟨_, ?_, rfl, by split <;> rfl⟩
    rw [show pushE l a nx m = 12 from by simp [pushE, h], if_neg (by omega)]
    exact .tup ⟨.agg ⟨.nil, .refl _, .nil, trivial⟩, .refl _, trivial⟩
  · have h : ¬ nx.length ≤ m.stream := by simpa using h
    conv => whnf
    split <;> rename_i hh
    · have hh : m.text = [] := by simpa using hh
      conv => whnf
      refine ⟨_, ?_, rfl, by split <;> rfl⟩
      rw [show pushE l a nx m = 1 from by simp [pushE, h, hh], if_neg (by omega)]
      exact .tup ⟨.agg ⟨.nil, .refl _, .nil, trivial⟩, .refl _, trivial⟩
    · have hh : ¬ m.text = [] := by simpa using hh
      conv => whnf
      split <;> rename_i h6
      · replace h6 := of_decide_eq_true h6
        try simp only [Int.toNat_natCast] at h6
        have h6 : 20000 < m.text.length := by omega
        conv => whnf
        refine ⟨_, ?_, rfl, by split <;> rfl⟩
        rw [show pushE l a nx m = 4 from by simp [pushE, h, hh, h6], if_neg (by omega)]
        exact .tup ⟨.agg ⟨.nil, .refl _, .nil, trivial⟩, .refl _, trivial⟩
      · replace h6 := of_decide_eq_false h6
        try simp only [Int.toNat_natCast] at h6
        have h6 : ¬ 20000 < m.text.length := by omega
        conv => whnf
        refine ⟨_, rbytes_spec l a nx h1 h2 h3 h4, ?_⟩
        conv => whnf
        refine ⟨by first | omega | (simp only [Int.toNat_natCast]; omega) | (simp; done) | (simp; omega), ?_⟩
        conv => whnf
        refine ⟨by kernel_rfl, ?_⟩
        conv => whnf
        split <;> rename_i h7
        · replace h7 := of_decide_eq_true h7
          try simp only [Int.toNat_natCast] at h7
          conv => whnf
          refine ⟨_, ?_, rfl, by split <;> rfl⟩
          rw [show pushE l a nx m = 10 from by simp [pushE, h, hh, h6, h7], if_neg (by omega)]
          exact .tup ⟨.agg ⟨.nil, .refl _, .nil, trivial⟩, .refl _, trivial⟩
        · replace h7 := of_decide_eq_false h7
          try simp only [Int.toNat_natCast] at h7
          conv => whnf
          refine ⟨⟨by omega, by omega, by simp only [ty55]; omega⟩, ?_⟩
          conv => whnf
          refine ⟨⟨⟨rfl, by omega, by simp only [ty55]; omega⟩, by omega⟩, ?_⟩
          conv => whnf
          refine ⟨by first | omega | (simp only [Int.toNat_natCast]; omega) | (simp; done) | (simp; omega), ?_⟩
          conv => whnf
          refine ⟨_, ?_, rfl, by split <;> rfl⟩
          rw [show pushE l a nx m = 0 from by simp [pushE, h, hh, h6, h7], if_pos rfl]
          refine .tup ⟨.agg ⟨.sl (by simp) (fun k hk => ?_), .refl _, .refl _, trivial⟩, .refl _, trivial⟩
          simp only [fcat, Nat.not_lt_zero, if_false, Nat.zero_add, Nat.sub_zero] at hk ⊢
          rw [← slT_app encM l m k hk (f := fun _ => encM m) rfl]
          simp only [fcat]
          split
          · rfl
          · have : k = l.length := by omega
            subst this; simp [encM]
theorem piece_spec (p : Pc) : PSpec Try.prog 25 [pcA p] (· = pcA p) := by
  refine PSpec.run tysOk follows Try.func25 (by decide) rfl Try.ntmps25 (Nat.le_of_ble_eq_true rfl) rfl fun w0 R0 => ?_
  conv => whnf
  exact ⟨_, .refl _, rfl, rfl⟩
theorem eq_of_getD {α : Type} [Inhabited α] {a b : List α} (h1 : a.length = b.length) (h : ∀ j, j < a.length → a.getD j default = b.getD j default) : a = b := by
  refine List.ext_getElem h1 fun i hi hi' => ?_
  have := h i hi
  simpa [List.getD_eq_getElem?_getD, hi, hi'] using this
theorem sameInts_spec (a b : List Int) (h4 : a.length ≤ 2 ^ 40) : PSpec Try.prog 24 [.d (slT 1 encI a), .d (slT 1 encI b)] (· = vb (decide (a = b))) := by
  refine PSpec.run tysOk follows Try.func24 (by decide) rfl Try.ntmps24 (Nat.le_of_ble_eq_true rfl) rfl fun w0 R0 => ?_
  conv => whnf
  split <;> rename_i h1
  · have h1 : a.length ≠ b.length := by intro e; rw [e] at h1; simp at h1
    conv => whnf
    exact ⟨_, .refl _, by rw [decide_eq_false (fun e => h1 (by rw [e]))], rfl⟩
  · have h1 : a.length = b.length := by have : ((a.length : Nat) : Int) = b.length := by simpa using h1
                                        omega
    conv => whnf
    refine ALoop.intro tysOk follows (fun k : {k // k ≤ a.length ∧ ∀ j, j < k → a.getD j default = b.getD j default} => ([(0, .d (slT 1 encI a)), (1, .d (slT 1 encI b)), (5, vi k.1)], [])) (fun k => a.length - k.1) ⟨0, by omega, fun j hj => by omega⟩ ?_ ?_
    · exact ⟨.refl _, .refl _, .refl _, trivial⟩
    · rintro ⟨k, hk, hall⟩
      dsimp only
      conv => whnf
      split <;> rename_i h2
      · have hlt : k < a.length := by simpa using h2
        conv => whnf
        refine ⟨by first | omega | (simp only [Int.toNat_natCast]; omega) | (simp; done) | (simp; omega), ?_⟩
        conv => whnf
        refine ⟨by first | omega | (simp only [Int.toNat_natCast]; omega) | (simp; done) | (simp; omega), ?_⟩
        conv => whnf
        refine ⟨by kernel_rfl, ?_⟩
        conv => whnf
        split <;> rename_i h3
        · have h3 : a.getD k default ≠ b.getD k default := by simpa using h3
          conv => whnf
          exact ⟨_, .refl _, by rw [decide_eq_false (fun e => h3 (by rw [e]))], rfl⟩
        · have h3 : a.getD k default = b.getD k default := by simpa using h3
          conv => whnf
          refine ⟨by first | omega | (simp only [Int.toNat_natCast]; omega) | (simp; done) | (simp; omega), ?_⟩
          conv => whnf
          refine ⟨⟨k + 1, by omega, fun j hj => ?_⟩, by dsimp only; omega, .refl _, .refl _, .refl _, trivial⟩
          rcases Nat.lt_or_eq_of_le (show j ≤ k from by omega) with h | rfl
          · exact hall j h
          · exact h3
      · have hlt : ¬ k < a.length := by simpa using h2
        obtain rfl : k = a.length := by omega
        conv => whnf
        exact ⟨_, .refl _, by rw [decide_eq_true (eq_of_getD h1 hall)], rfl⟩
end Go.Proofs.Yteblkbnkaogkmaa
