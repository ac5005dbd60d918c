/- What the laws are handed, as the contracts want it. -/
import Derived.Test.YteblkbnkaogkmaaStI
import Derived.OpenShut
namespace Go.Proofs.Yteblkbnkaogkmaa
open Go Go.RowKit Go.ChangeShapes Go.WideShapes Towline Towline.Store
set_option linter.unusedVariables false
set_option maxRecDepth 20000
set_option maxHeartbeats 2000000
theorem wt_int {n : Nat} {a : D} (h : wt tys (n + 1) 3 [a]) : ∃ x : Int, a = .i .i64 x ∧ -2 ^ 63 ≤ x ∧ x < 2 ^ 63 := by
  obtain ⟨x, hx, hw⟩ := h
  have := bounds_i64 hw
  exact ⟨x, by simpa using hx, by omega, by omega⟩
theorem wt_u16 {n : Nat} {a : D} (h : wt tys (n + 1) 31 [a]) : ∃ x : Nat, a = .i .u16 x ∧ x ≤ 65535 := by
  obtain ⟨x, hx, hw⟩ := h
  have := bounds_u16 hw
  obtain ⟨k, rfl⟩ := Int.eq_ofNat_of_zero_le this.1
  exact ⟨k, by simpa using hx, by omega⟩
theorem wt_u32 {n : Nat} {a : D} (h : wt tys (n + 1) 32 [a]) : ∃ x : Nat, a = .i .u32 x ∧ x ≤ 4294967295 := by
  obtain ⟨x, hx, hw⟩ := h
  have := bounds_u32 hw
  obtain ⟨k, rfl⟩ := Int.eq_ofNat_of_zero_le this.1
  exact ⟨k, by simpa using hx, by omega⟩
theorem wt_bool {n : Nat} {a : D} (h : wt tys (n + 1) 4 [a]) : ∃ x : Bool, a = .b x := by
  obtain ⟨x, hx⟩ := h
  exact ⟨x, by simpa using hx⟩
theorem wt_str {n : Nat} {a : D} (h : wt tys (n + 1) 9 [a]) : ∃ x : List UInt8, a = .s x ∧ x.length ≤ maxLen := by
  obtain ⟨x, hx, hl⟩ := h
  exact ⟨x, by simpa using hx, hl⟩
theorem wt_msg {n : Nat} {l : List D} (h : wt tys (n + 2) 34 l) : ∃ m : Msg, l = encM m ∧ m.stream ≤ 65535 ∧ m.text.length ≤ maxLen ∧ -2 ^ 63 ≤ m.til ∧ m.til < 2 ^ 63 := by
  obtain ⟨h0, h1, h2, h3, h4, h5, h6, _⟩ := h
  match l, h0 with
  | [a, b, c, d, e, f], _ =>
    obtain ⟨x1, rfl, _⟩ := wt_int h1
    obtain ⟨x2, rfl, hx2⟩ := wt_u16 h2
    obtain ⟨x3, rfl, _⟩ := wt_u32 h3
    obtain ⟨x4, rfl⟩ := wt_bool h4
    obtain ⟨x5, rfl, hx5⟩ := wt_str h5
    obtain ⟨x6, rfl, h61, h62⟩ := wt_int h6
    exact ⟨⟨x1, x2, x3, x4, x5, x6⟩, rfl, hx2, hx5, h61, h62⟩
/-- A slice whose elements can be told apart is a list. -/
theorem list_of {α : Type} [Inhabited α] {enc : α → List D} {p : α → Prop} {m : Nat} {f : Nat → List D} (h : ∀ k, k < m → ∃ a, f k = enc a ∧ p a) : ∃ l : List α, l.length = m ∧ (∀ a ∈ l, p a) ∧ ∀ k, k < m → f k = enc (l.getD k default) := by
  obtain ⟨g, hg⟩ := Go.Deep.choose_lt h
  refine ⟨(List.range m).map g, by simp, fun a ha => ?_, fun k hk => ?_⟩
  · obtain ⟨k, hk, rfl⟩ := List.mem_map.1 ha
    exact (hg k (List.mem_range.1 hk)).2
  · rw [(hg k hk).1]; simp [hk]
theorem wt_msgs {n : Nat} {a : D} (h : wt tys (n + 3) 22 [a]) : ∃ l : List Msg, l.length ≤ maxLen ∧ (∀ m ∈ l, m.stream ≤ 65535 ∧ m.text.length ≤ maxLen ∧ -2 ^ 63 ≤ m.til ∧ m.til < 2 ^ 63) ∧ (AVal.d a).le (.d (slT 6 encM l)) := by
  obtain ⟨m, f, ha, hm, hf⟩ := h
  obtain ⟨l, h1, h2, h3⟩ := list_of (enc := encM) fun k hk => wt_msg (hf k hk).2
  obtain ⟨rfl, _⟩ := List.cons.inj ha
  exact ⟨l, by omega, h2, .sl h1.symm fun k hk => h3 k hk⟩
theorem wt_nums {n : Nat} {a : D} (h : wt tys (n + 2) 25 [a]) : ∃ l : List Nat, l.length ≤ maxLen ∧ (∀ m ∈ l, m ≤ 65535) ∧ (AVal.d a).le (.d (slT 1 encN l)) := by
  obtain ⟨m, f, ha, hm, hf⟩ := h
  obtain ⟨l, h1, h2, h3⟩ := list_of (enc := encN) (p := fun x => x ≤ 65535) (f := f) (m := m) fun k hk => by
    obtain ⟨h4, h5⟩ := hf k hk
    match hfk : f k, h4 with
    | [b], _ =>
      rw [hfk] at h5
      obtain ⟨x, rfl, hx⟩ := wt_u16 h5
      exact ⟨x, rfl, hx⟩
  obtain ⟨rfl, _⟩ := List.cons.inj ha
  exact ⟨l, by omega, h2, .sl h1.symm fun k hk => h3 k hk⟩
theorem wt_ints {n : Nat} {a : D} (h : wt tys (n + 2) 23 [a]) : ∃ l : List Int, l.length ≤ maxLen ∧ (∀ m ∈ l, -2 ^ 63 ≤ m ∧ m < 2 ^ 63) ∧ (AVal.d a).le (.d (slT 1 encI l)) := by
  obtain ⟨m, f, ha, hm, hf⟩ := h
  obtain ⟨l, h1, h2, h3⟩ := list_of (enc := encI) (p := fun x => -2 ^ 63 ≤ x ∧ x < 2 ^ 63) (f := f) (m := m) fun k hk => by
    obtain ⟨h4, h5⟩ := hf k hk
    match hfk : f k, h4 with
    | [b], _ =>
      rw [hfk] at h5
      obtain ⟨x, rfl, hx⟩ := wt_int h5
      exact ⟨x, rfl, hx⟩
  obtain ⟨rfl, _⟩ := List.cons.inj ha
  exact ⟨l, by omega, h2, .sl h1.symm fun k hk => h3 k hk⟩
theorem wt_store {n : Nat} {l : List D} (h : wt tys (n + 4) 27 l) : ∃ (ms : List Msg) (a : Int) (nx : List Nat), ms.length ≤ maxLen ∧ (∀ m ∈ ms, m.stream ≤ 65535 ∧ m.text.length ≤ maxLen ∧ -2 ^ 63 ≤ m.til ∧ m.til < 2 ^ 63) ∧ nx.length ≤ maxLen ∧ (∀ x ∈ nx, x ≤ 65535) ∧ -2 ^ 63 ≤ a ∧ a < 2 ^ 63 ∧ (asV true l).le (stA ms a nx) := by
  obtain ⟨h0, h1, h2, h3, _⟩ := h
  match l, h0 with
  | [a, b, c], _ =>
    obtain ⟨ms, k1, k2, k3⟩ := wt_msgs h1
    obtain ⟨x, rfl, k4, k5⟩ := wt_int h2
    obtain ⟨nx, k6, k7, k8⟩ := wt_nums h3
    exact ⟨ms, x, nx, k1, k2, k6, k7, k4, k5, .agg ⟨k3, .refl _, k8, trivial⟩⟩
theorem wt_msgA {n : Nat} {l : List D} (h : wt tys (n + 2) 34 l) : ∃ m : Msg, m.stream ≤ 65535 ∧ m.text.length ≤ maxLen ∧ -2 ^ 63 ≤ m.til ∧ m.til < 2 ^ 63 ∧ asV true l = msgA m := by
  obtain ⟨m, rfl, h1, h2, h3, h4⟩ := wt_msg h
  exact ⟨m, h1, h2, h3, h4, rfl⟩
end Go.Proofs.Yteblkbnkaogkmaa
