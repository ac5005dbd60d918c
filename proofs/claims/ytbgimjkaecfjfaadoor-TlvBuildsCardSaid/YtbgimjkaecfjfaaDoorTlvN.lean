/- Chapter 6: the statements, at any arguments of their types. -/
import Derived.Test.YtbgimjkaecfjfaaDoorTlvM
namespace Go.Proofs.YtbgimjkaecfjfaaDoor
open Go Go.RowKit Towline Towline.Tlv
set_option linter.unusedVariables false
set_option linter.unusedSimpArgs false
theorem wt_int {n : Nat} {a : D} (h : wt tys (n + 1) 3 [a]) : ∃ x : Int, a = .i .i64 x ∧ -2 ^ 63 ≤ x ∧ x < 2 ^ 63 := by
  obtain ⟨x, hx, hw⟩ := h
  have := bounds_i64 hw
  exact ⟨x, by simpa using hx, by omega, by omega⟩
theorem wt_str {n : Nat} {a : D} (h : wt tys (n + 1) 9 [a]) : ∃ x : List UInt8, a = .s x ∧ x.length ≤ maxLen := by
  obtain ⟨x, hx, hl⟩ := h
  exact ⟨x, by simpa using hx, hl⟩
theorem list_of {α : Type} [Inhabited α] {enc : α → List D} {p : α → Prop} {m : Nat} {f : Nat → List D} (h : ∀ k, k < m → ∃ a, f k = enc a ∧ p a) : ∃ l : List α, l.length = m ∧ (∀ a ∈ l, p a) ∧ ∀ k, k < m → f k = enc (l.getD k default) := by
  obtain ⟨g, hg⟩ := Go.Deep.choose_lt h
  refine ⟨(List.range m).map g, by simp, fun a ha => ?_, fun k hk => ?_⟩
  · obtain ⟨k, hk, rfl⟩ := List.mem_map.1 ha
    exact (hg k (List.mem_range.1 hk)).2
  · rw [(hg k hk).1]; simp [hk]
theorem wt_it {n : Nat} {l : List D} (h : wt tys (n + 2) 42 l) : ∃ x : Tlv.It, l = encI x := by
  obtain ⟨h0, h1, h2, _⟩ := h
  match l, h0 with
  | [a1, a2], _ =>
    obtain ⟨x1, rfl, _⟩ := wt_int h1
    obtain ⟨x2, rfl, _⟩ := wt_str h2
    exact ⟨⟨x1, x2⟩, rfl⟩
theorem wt_its {n : Nat} {a : D} (h : wt tys (n + 3) 23 [a]) : ∃ l : List Tlv.It, l.length ≤ maxLen ∧ (AVal.d a).le (.d (slT 2 encI l)) := by
  obtain ⟨m, f, ha, hm, hf⟩ := h
  obtain ⟨l, h1, h2, h3⟩ := list_of (enc := encI) (p := fun _ => True) fun k hk => (wt_it (hf k hk).2).imp fun x hx => ⟨hx, trivial⟩
  obtain ⟨rfl, _⟩ := List.cons.inj ha
  exact ⟨l, by omega, .sl h1.symm fun k hk => h3 k hk⟩
theorem tlvActs_of {l0 : List D} (h0 : wt tys 8 3 l0) : PSpec Tryd.prog 6 [asV false l0] (· = tvb true) := by
  obtain ⟨d0, rfl⟩ : ∃ d, l0 = [d] := by obtain ⟨x, hx, _⟩ := h0; exact ⟨_, hx⟩
  obtain ⟨x, rfl, _⟩ := wt_int (n := 7) h0
  exact acts_spec x
theorem tlvParses_of {l0 : List D} (h0 : wt tys 8 9 l0) : PSpec Tryd.prog 3 [asV false l0] (· = tvb true) := by
  obtain ⟨d0, rfl⟩ : ∃ d, l0 = [d] := by obtain ⟨x, hx, _⟩ := h0; exact ⟨_, hx⟩
  obtain ⟨x, rfl, _⟩ := wt_str (n := 7) h0
  exact parses_spec x
theorem tlvBuilds_of {l0 l1 : List D} (h0 : wt tys 8 23 l0) (h1 : wt tys 8 3 l1) : PSpec Tryd.prog 8 [asV false l0, asV false l1] (· = tvb true) := by
  obtain ⟨d0, rfl⟩ : ∃ d, l0 = [d] := by obtain ⟨m, f, hx, _⟩ := h0; exact ⟨_, hx⟩
  obtain ⟨d1, rfl⟩ : ∃ d, l1 = [d] := by obtain ⟨x, hx, _⟩ := h1; exact ⟨_, hx⟩
  obtain ⟨l, _, hl⟩ := wt_its (n := 5) h0
  obtain ⟨x, rfl, _, hx⟩ := wt_int (n := 7) h1
  exact (builds_spec l x hx).argsC ⟨hl, .refl _, trivial⟩
theorem tlvBack_of {l0 l1 : List D} (h0 : wt tys 8 23 l0) (h1 : wt tys 8 9 l1) : PSpec Tryd.prog 4 [asV false l0, asV false l1] (· = tvb true) := by
  obtain ⟨d0, rfl⟩ : ∃ d, l0 = [d] := by obtain ⟨m, f, hx, _⟩ := h0; exact ⟨_, hx⟩
  obtain ⟨d1, rfl⟩ : ∃ d, l1 = [d] := by obtain ⟨x, hx, _⟩ := h1; exact ⟨_, hx⟩
  obtain ⟨l, _, hl⟩ := wt_its (n := 5) h0
  obtain ⟨x, rfl, _⟩ := wt_str (n := 7) h1
  exact (back_spec l x).argsC ⟨hl, .refl _, trivial⟩
theorem tlvJoins_of {l0 l1 : List D} (h0 : wt tys 8 9 l0) (h1 : wt tys 8 9 l1) : PSpec Tryd.prog 5 [asV false l0, asV false l1] (· = tvb true) := by
  obtain ⟨d0, rfl⟩ : ∃ d, l0 = [d] := by obtain ⟨x, hx, _⟩ := h0; exact ⟨_, hx⟩
  obtain ⟨d1, rfl⟩ : ∃ d, l1 = [d] := by obtain ⟨x, hx, _⟩ := h1; exact ⟨_, hx⟩
  obtain ⟨x, rfl, _⟩ := wt_str (n := 7) h0
  obtain ⟨y, rfl, _⟩ := wt_str (n := 7) h1
  exact joins_spec x y
theorem tlvSizes_of {l0 l1 : List D} (h0 : wt tys 8 23 l0) (h1 : wt tys 8 42 l1) : PSpec Tryd.prog 7 [asV false l0, asV true l1] (· = tvb true) := by
  obtain ⟨d0, rfl⟩ : ∃ d, l0 = [d] := by obtain ⟨m, f, hx, _⟩ := h0; exact ⟨_, hx⟩
  obtain ⟨l, _, hl⟩ := wt_its (n := 5) h0
  obtain ⟨x, rfl⟩ := wt_it (n := 6) h1
  exact (sizes_spec l x).argsC ⟨hl, .refl _, trivial⟩
end Go.Proofs.YtbgimjkaecfjfaaDoor
