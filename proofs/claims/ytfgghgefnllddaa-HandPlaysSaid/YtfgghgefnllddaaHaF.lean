/- The laws of what is deaf, and of two that meet, as contracts. -/
import Derived.Test.YtfgghgefnllddaaHaE
namespace Go.Proofs.Ytfgghgefnllddaa
open Go Go.RowKit Go.ChangeShapes Go.WideShapes Towline Towline.Hand
set_option linter.unusedVariables false
set_option maxRecDepth 20000
set_option maxHeartbeats 4000000
theorem deaf_spec (h : H) (c : K) (s1 n1 s2 n2 : Nat) (f1 f2 : Nat → List D) (l : List It) (e : Bool) (h4 : l.length ≤ maxLen) (ht : -2 ^ 63 ≤ h.tries) :
    PSpec Try.prog 5 [hA h, gA c (.sl s1 n1 f1) (.sl s2 n2 f2) l, vb e] (· = vb true) := by
  refine PSpec.run tysOk follows Try.func5 (by decide) rfl Try.ntmps5 (Nat.le_of_ble_eq_true rfl) rfl fun w0 R0 => ?_
  conv => whnf
  refine ⟨_, shown_spec, ?_⟩
  rintro q rfl
  conv => whnf
  refine ⟨_, light_spec c s1 n1 s2 n2 f1 f2 l h4, ?_⟩
  rintro q ⟨b, rfl⟩
  conv => whnf
  cases b with
  | false =>
    conv => whnf
    exact ⟨_, .refl _, rfl, rfl⟩
  | true =>
    conv => whnf
    split <;> rename_i g1b
    · conv => whnf
      try (rw [g1b]; conv => whnf)
      exact ⟨_, .refl _, rfl, rfl⟩
    have g1 : ¬ c.ty = 2 := by simpa using g1b
    conv => whnf
    split <;> rename_i g2b
    · conv => whnf
      try (rw [g2b]; conv => whnf)
      exact ⟨_, .refl _, rfl, rfl⟩
    have g2 : ¬ c.ty = 6 := by simpa using g2b
    conv => whnf
    split <;> rename_i g3b
    · conv => whnf
      try (rw [g3b]; conv => whnf)
      exact ⟨_, .refl _, rfl, rfl⟩
    have g3 : ¬ c.ty = 7 := by simpa using g3b
    conv => whnf
    split <;> rename_i g4b
    · conv => whnf
      try (rw [g4b]; conv => whnf)
      exact ⟨_, .refl _, rfl, rfl⟩
    have g4 : ¬ c.ty = 8 := by simpa using g4b
    conv => whnf
    split <;> rename_i g5b
    · conv => whnf
      try (rw [g5b]; conv => whnf)
      exact ⟨_, .refl _, rfl, rfl⟩
    have g5 : ¬ c.ty = 9 := by simpa using g5b
    conv => whnf
    split <;> rename_i g6b
    · conv => whnf
      try (rw [g6b]; conv => whnf)
      exact ⟨_, .refl _, rfl, rfl⟩
    have g6 : ¬ c.ty = 11 := by simpa using g6b
    conv => whnf
    split <;> rename_i g7b
    · conv => whnf
      try (rw [g7b]; conv => whnf)
      exact ⟨_, .refl _, rfl, rfl⟩
    have g7 : ¬ c.ty = 14 := by simpa using g7b
    conv => whnf
    have hp := take_spec h c (.sl s1 n1 f1) (.sl s2 n2 f2) l e 50 h4 ht
    rw [show takeR h c l e 50 = ⟨h, [], 0⟩ from by simp [takeR, *]] at hp
    refine ⟨_, hp, ?_⟩
    rintro q rfl
    conv => whnf
    rw [hEq]
    conv => whnf
    exact ⟨_, .refl _, rfl, rfl⟩
theorem list_of {α : Type} [Inhabited α] {enc : α → List D} {p : α → Prop} {m : Nat} {f : Nat → List D} (h : ∀ k, k < m → ∃ a, f k = enc a ∧ p a) : ∃ l : List α, l.length = m ∧ (∀ a ∈ l, p a) ∧ ∀ k, k < m → f k = enc (l.getD k default) := by
  obtain ⟨g, hg⟩ := Go.Deep.choose_lt h
  refine ⟨(List.range m).map g, by simp, fun a ha => ?_, fun k hk => ?_⟩
  · obtain ⟨k, hk, rfl⟩ := List.mem_map.1 ha
    exact (hg k (List.mem_range.1 hk)).2
  · rw [(hg k hk).1]; simp [hk]
theorem wt_it {n : Nat} {l : List D} (h : wt tys (n + 2) 68 l) : ∃ x : It, l = encIt x := by
  obtain ⟨h0, h1, h2, _⟩ := h
  match l, h0 with
  | [a1, a2], _ =>
    obtain ⟨x1, rfl, _⟩ := wt_int h1
    obtain ⟨x2, rfl, _⟩ := wt_str h2
    exact ⟨⟨x1, x2⟩, rfl⟩
theorem wt_its {n : Nat} {a : D} (h : wt tys (n + 3) 61 [a]) : ∃ l : List It, l.length ≤ maxLen ∧ (AVal.d a).le (.d (slT 2 encIt l)) := by
  obtain ⟨m, f, ha, hm, hf⟩ := h
  obtain ⟨l, h1, h2, h3⟩ := list_of (enc := encIt) (p := fun _ => True) fun k hk => (wt_it (hf k hk).2).imp fun x hx => ⟨hx, trivial⟩
  obtain ⟨rfl, _⟩ := List.cons.inj ha
  exact ⟨l, by omega, .sl h1.symm fun k hk => h3 k hk⟩
theorem wt_chunk {n : Nat} {l : List D} (h : wt tys (n + 4) 63 l) : ∃ (c : K) (s1 n1 s2 n2 : Nat) (f1 f2 : Nat → List D) (its : List It), its.length ≤ maxLen ∧ (asV true l).le (gA c (.sl s1 n1 f1) (.sl s2 n2 f2) its) := by
  obtain ⟨h0, h1, h2, h3, h4, h5, h6, h7, h8, h9, h10, h11, h12, h13, h14, _⟩ := h
  match l, h0 with
  | [a1, a2, a3, a4, a5, a6, a7, a8, a9, a10, a11, a12, a13, a14], _ =>
    obtain ⟨x1, rfl, _⟩ := wt_int h1
    obtain ⟨x2, rfl, _⟩ := wt_int h2
    obtain ⟨x3, rfl, _⟩ := wt_u32 h3
    obtain ⟨x4, rfl, _⟩ := wt_u32 h4
    obtain ⟨x5, rfl, _⟩ := wt_u32 h5
    obtain ⟨x6, rfl, _⟩ := wt_u32 h6
    obtain ⟨x7, rfl, _⟩ := wt_u16 h7
    obtain ⟨x8, rfl, _⟩ := wt_u16 h8
    obtain ⟨x9, rfl, _⟩ := wt_u16 h9
    obtain ⟨x10, rfl, _⟩ := wt_u16 h10
    obtain ⟨m1, f1, e1, _⟩ := h11
    obtain ⟨rfl, _⟩ := List.cons.inj e1
    obtain ⟨m2, f2, e2, _⟩ := h12
    obtain ⟨rfl, _⟩ := List.cons.inj e2
    obtain ⟨its, k1, k2⟩ := wt_its h13
    obtain ⟨x14, rfl, _⟩ := wt_str h14
    exact ⟨⟨x1, x2, x3, x4, x5, x6, x7, x8, x9, x10, x14⟩, _, m1, _, m2, f1, f2, its, k1, .agg ⟨.refl _, .refl _, .refl _, .refl _, .refl _, .refl _, .refl _, .refl _, .refl _, .refl _, .refl _, .refl _, k2, .refl _, trivial⟩⟩
theorem handDeaf_of {l0 l1 l2 : List D} (h0 : wt tys 8 25 l0) (h1 : wt tys 8 63 l1) (h2 : wt tys 8 4 l2) :
    PSpec Try.prog 5 [asV true l0, asV true l1, asV false l2] (· = vb true) := by
  obtain ⟨x, e0, k0⟩ := wt_hand (n := 6) h0
  obtain ⟨c, s1, n1, s2, n2, f1, f2, its, k1, k2⟩ := wt_chunk (n := 4) h1
  obtain ⟨d2, rfl⟩ : ∃ d, l2 = [d] := by obtain ⟨x, hx⟩ := h2; exact ⟨_, hx⟩
  obtain ⟨b, rfl⟩ := wt_bool (n := 7) h2
  rw [e0]
  exact (deaf_spec x c s1 n1 s2 n2 f1 f2 its b k1 k0).argsC ⟨.refl _, k2, .refl _, trivial⟩
end Go.Proofs.Ytfgghgefnllddaa
