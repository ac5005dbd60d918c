/- The reference's functions over stores. -/
import Derived.Test.YteblkbnkaogkmaaStB
namespace Go.Proofs.Yteblkbnkaogkmaa
open Go Towline Towline.Store
set_option linter.unusedVariables false
set_option maxRecDepth 20000
set_option maxHeartbeats 2000000
theorem getD_mem {α : Type} [Inhabited α] {l : List α} {k : Nat} (h : k < l.length) : l.getD k default ∈ l := by rw [List.getD_eq_getElem?_getD, List.getElem?_eq_getElem h]; exact List.getElem_mem h
theorem small_spec (l : List Msg) (a : Int) (nx : List Nat) (hl4 : l.length ≤ maxLen) (hl5 : nx.length ≤ maxLen) :
    PSpec Try.prog 14 [stA l a nx] (· = vb (decide (l.length ≤ 40 ∧ nx.length ≤ 40 ∧ ∀ m ∈ l, m.text.length ≤ 21000))) := by
  have h4 : l.length ≤ 2 ^ 63 - 1 := hl4
  have h5 : nx.length ≤ 2 ^ 63 - 1 := hl5
  clear hl4 hl5
  refine PSpec.run tysOk follows Try.func14 (by decide) rfl Try.ntmps14 (Nat.le_of_ble_eq_true rfl) rfl fun w0 R0 => ?_
  conv => whnf
  split <;> rename_i h1
  · replace h1 := of_decide_eq_true h1
    try simp only [Int.toNat_natCast] at h1
    conv => whnf
    exact ⟨_, .refl _, by rw [decide_eq_false (by omega)], rfl⟩
  · replace h1 := of_decide_eq_false h1
    try simp only [Int.toNat_natCast] at h1
    conv => whnf
    split <;> rename_i h2
    · replace h2 := of_decide_eq_true h2
      try simp only [Int.toNat_natCast] at h2
      conv => whnf
      exact ⟨_, .refl _, by rw [decide_eq_false (by omega)], rfl⟩
    · replace h2 := of_decide_eq_false h2
      try simp only [Int.toNat_natCast] at h2
      conv => whnf
      refine ALoop.intro tysOk follows (fun k : {k // k ≤ l.length ∧ ∀ j, j < k → (l.getD j default).text.length ≤ 21000} => ([(1, .ptr 1 0), (3, vi k.1)], [(1, .box (stL l a nx))])) (fun k => l.length - k.1) ⟨0, by omega, fun j hj => by omega⟩ ?_ ?_
      · exact ⟨.refl _, .refl _, OLe.refl _, trivial⟩
      · rintro ⟨k, hk, hall⟩
        dsimp only
        conv => whnf
        split <;> rename_i h3
        · have hlt : k < l.length := by simpa using h3
          conv => whnf
          refine ⟨by first | omega | (simp only [Int.toNat_natCast]; omega) | (simp; done) | (simp; omega), ?_⟩
          conv => whnf
          split <;> rename_i h4
          · conv => whnf
            replace h4 := of_decide_eq_true h4
            try simp only [Int.toNat_natCast] at h4
            refine ⟨_, .refl _, ?_, rfl⟩
            rw [decide_eq_false]
            rintro ⟨_, _, hm⟩
            have := hm _ (getD_mem hlt)
            omega
          · conv => whnf
            replace h4 := of_decide_eq_false h4
            try simp only [Int.toNat_natCast] at h4
            refine ⟨by first | omega | (simp only [Int.toNat_natCast]; omega) | (simp; done) | (simp; omega), ?_⟩
            conv => whnf
            refine ⟨⟨k + 1, by omega, fun j hj => ?_⟩, by dsimp only; omega, .refl _, .refl _, OLe.refl _, trivial⟩
            rcases Nat.lt_or_eq_of_le (show j ≤ k from by omega) with h | rfl
            · exact hall j h
            · omega
        · have hlt : ¬ k < l.length := by simpa using h3
          conv => whnf
          refine ⟨_, .refl _, ?_, rfl⟩
          rw [decide_eq_true]
          refine ⟨by omega, by omega, fun m hm => ?_⟩
          obtain ⟨j, hj, rfl⟩ := List.getElem_of_mem hm
          have := hall j (by omega)
          simpa [List.getD_eq_getElem?_getD, hj] using this
theorem one_spec (m : Msg) : PSpec Try.prog 18 [msgA m] (· = msgA m) := by
  refine PSpec.run tysOk follows Try.func18 (by decide) rfl Try.ntmps18 (Nat.le_of_ble_eq_true rfl) rfl fun w0 R0 => ?_
  conv => whnf
  exact ⟨_, .refl _, rfl, rfl⟩
theorem as_spec (l : List Msg) (a : Int) (nx : List Nat) (h4 : l.length ≤ 2 ^ 40) :
    PSpec Try.prog 16 [stA l a nx] (· = stA l a nx) := by
  refine PSpec.run tysOk follows Try.func16 (by decide) rfl Try.ntmps16 (Nat.le_of_ble_eq_true rfl) rfl fun w0 R0 => ?_
  conv => whnf
  refine ALoop.adoptCell 3 0 1000 6 55 (fun j => encM (l.getD j default)) rfl rfl rfl rfl rfl ?_
  refine ALoop.introR tysOk follows (fun k : {k // k ≤ l.length} => ([(1, .ptr 1 0), (2, .ptr 2 0), (3, .ptr 3 0), (4, vi k.1)], [(1, .box (stL l a nx)), (2, .box [.d (.v (.slice none 0 0)), vi 0, .d (.v (.slice none 0 0))]), (3, .box [.rsl 1000 6 0 k.1, vi a, .d (slT 1 encN nx)]), (1000, .row 55 6 k.1 (fun j => encM (l.getD j default)))])) (fun k => l.length - k.1) ⟨0, by omega⟩ ?_ ?_
  · exact ⟨.refl _, .refl _, .refl _, .refl _, OLe.refl _, OLe.refl _, OLe.refl _, OLe.refl _, trivial⟩
  · rintro ⟨k, hk⟩
    dsimp only
    conv => whnf
    split <;> rename_i h1
    · have hlt : k < l.length := by simpa using h1
      conv => whnf
      refine ⟨by first | omega | (simp only [Int.toNat_natCast]; omega) | (simp; done) | (simp; omega), ?_⟩
      conv => whnf
      refine ⟨_, one_spec (l.getD k default), ?_⟩
      conv => whnf
      refine ⟨⟨⟨rfl, by omega, by simp only [ty55]; omega⟩, by omega⟩, ?_⟩
      conv => whnf
      refine ⟨by kernel_rfl, ?_⟩
      conv => whnf
      refine ⟨by first | omega | (simp only [Int.toNat_natCast]; omega) | (simp; done) | (simp; omega), ?_⟩
      conv => whnf
      refine ⟨⟨k + 1, by omega⟩, [(26, 1000)], by dsimp only; omega, .refl _, .refl _, .refl _, .refl _, OLe.refl _, OLe.refl _, OLe.refl _, ⟨rfl, rfl, rfl, ?_⟩, trivial⟩
      intro j hj
      simp only [fcat]
      split
      · rfl
      · have : j = k := by omega
        subst this; simp [encM]
    · have hlt : ¬ k < l.length := by simpa using h1
      obtain rfl : k = l.length := by omega
      conv => whnf
      refine ⟨by first | omega | (simp only [Int.toNat_natCast]; omega) | (simp; done) | (simp; omega), ?_⟩
      conv => whnf
      exact ⟨_, .refl _, rfl, rfl⟩
def okM (nx : List Nat) (m : Msg) : Prop := m.text ≠ [] ∧ m.stream < nx.length
instance (nx : List Nat) (m : Msg) : Decidable (okM nx m) := by unfold okM; exact inferInstance
def headOk (l : List Msg) (a : Int) : Prop := 0 ≤ a ∧ (a = 0 ∨ (0 < l.length ∧ a < (l.getD 0 default).text.length))
instance (l : List Msg) (a : Int) : Decidable (headOk l a) := by unfold headOk; exact inferInstance
theorem right_spec (l : List Msg) (a : Int) (nx : List Nat) (hu : ∀ m ∈ l, m.stream ≤ 65535) (h4 : l.length ≤ 2 ^ 40) (h5 : nx.length ≤ 2 ^ 40) :
    PSpec Try.prog 15 [stA l a nx] (· = vb (decide ((∀ m ∈ l, okM nx m) ∧ headOk l a))) := by
  refine PSpec.run tysOk follows Try.func15 (by decide) rfl Try.ntmps15 (Nat.le_of_ble_eq_true rfl) rfl fun w0 R0 => ?_
  conv => whnf
  refine ALoop.introR tysOk follows (fun k : {k // k ≤ l.length ∧ ∀ j, j < k → okM nx (l.getD j default)} => ([(1, .ptr 1 0), (3, vi k.1)], [(1, .box (stL l a nx))])) (fun k => l.length - k.1) ⟨0, by omega, fun j hj => by omega⟩ ?_ ?_
  · exact ⟨.refl _, .refl _, OLe.refl _, trivial⟩
  · rintro ⟨k, hk, hall⟩
    dsimp only
    conv => whnf
    split <;> rename_i h1
    · have hlt : k < l.length := by simpa using h1
      have hmem := getD_mem hlt
      have hst := hu _ hmem
      conv => whnf
      refine ⟨by first | omega | (simp only [Int.toNat_natCast]; omega) | (simp; done) | (simp; omega), ?_⟩
      conv => whnf
      split <;> rename_i h2
      · conv => whnf
        refine ⟨by kernel_rfl, ?_⟩
        conv => whnf
        refine ⟨_, .refl _, ?_, rfl⟩
        rw [decide_eq_false]
        rintro ⟨hm, _⟩
        exact (hm _ hmem).1 (by simpa using h2)
      · conv => whnf
        refine ⟨by first | omega | (simp only [Int.toNat_natCast]; omega) | (simp; done) | (simp; omega), ?_⟩
        conv => whnf
        refine ⟨by first | omega | (simp only [Int.toNat_natCast]; omega) | (simp; done) | (simp; omega), ?_⟩
        conv => whnf
        refine ⟨by kernel_rfl, ?_⟩
        conv => whnf
        split <;> rename_i h3
        · conv => whnf
          replace h3 := of_decide_eq_true h3
          try simp only [Int.toNat_natCast] at h3
          refine ⟨_, .refl _, ?_, rfl⟩
          rw [decide_eq_false]
          rintro ⟨hm, _⟩
          have := (hm _ hmem).2
          omega
        · conv => whnf
          replace h3 := of_decide_eq_false h3
          try simp only [Int.toNat_natCast] at h3
          refine ⟨by first | omega | (simp only [Int.toNat_natCast]; omega) | (simp; done) | (simp; omega), ?_⟩
          conv => whnf
          refine ⟨⟨k + 1, by omega, fun j hj => ?_⟩, [], by dsimp only; omega, .refl _, .refl _, OLe.refl _, trivial⟩
          rcases Nat.lt_or_eq_of_le (show j ≤ k from by omega) with h | rfl
          · exact hall j h
          · exact ⟨by simpa using h2, by omega⟩
    · have hlt : ¬ k < l.length := by simpa using h1
      obtain rfl : k = l.length := by omega
      have hall' : ∀ m ∈ l, okM nx m := by
        intro m hm
        obtain ⟨j, hj, rfl⟩ := List.getElem_of_mem hm
        have := hall j (by omega)
        simpa [List.getD_eq_getElem?_getD, hj] using this
      have hd : decide ((∀ m ∈ l, okM nx m) ∧ headOk l a) = decide (headOk l a) := by simp only [decide_eq_decide]; exact ⟨fun h => h.2, fun h => ⟨hall', h⟩⟩
      rw [hd]
      conv => whnf
      split <;> rename_i h2
      · replace h2 := of_decide_eq_true h2
        try simp only [Int.toNat_natCast] at h2
        conv => whnf
        split <;> rename_i h3
        · conv => whnf
          refine ⟨by kernel_rfl, ?_⟩
          conv => whnf
          have h3 : a = 0 := by simpa using h3
          refine ⟨_, .refl _, ?_, rfl⟩
          rw [decide_eq_true ⟨h2, .inl h3⟩]
        · have h3 : a ≠ 0 := by simpa using h3
          conv => whnf
          split <;> rename_i h4
          · replace h4 := of_decide_eq_true h4
            try simp only [Int.toNat_natCast] at h4
            conv => whnf
            refine ⟨by first | omega | (simp only [Int.toNat_natCast]; omega) | (simp; done) | (simp; omega), ?_⟩
            conv => whnf
            refine ⟨by kernel_rfl, ?_⟩
            conv => whnf
            refine ⟨_, .refl _, ?_, rfl⟩
            have : (a < ((l.getD 0 default).text.length : Int)) ↔ headOk l a := ⟨fun h => ⟨h2, .inr ⟨by omega, h⟩⟩, fun h => by rcases h.2 with h | h; exact absurd h h3; exact h.2⟩
            show AVal.d (D.b (decide (a < ((l.getD 0 default).text.length : Int)))) = _
            simp only [this]
          · replace h4 := of_decide_eq_false h4
            try simp only [Int.toNat_natCast] at h4
            conv => whnf
            refine ⟨by kernel_rfl, ?_⟩
            conv => whnf
            refine ⟨_, .refl _, ?_, rfl⟩
            rw [decide_eq_false]
            rintro ⟨_, h | ⟨h, _⟩⟩ <;> omega
      · replace h2 := of_decide_eq_false h2
        try simp only [Int.toNat_natCast] at h2
        conv => whnf
        refine ⟨by kernel_rfl, ?_⟩
        conv => whnf
        refine ⟨_, .refl _, ?_, rfl⟩
        rw [decide_eq_false fun h => h2 h.1]
end Go.Proofs.Yteblkbnkaogkmaa
