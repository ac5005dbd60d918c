/- Chunks of any kind as arguments: what a well-typed one is, in plain words. -/
import Derived.Test.YtcdondbegnbdgaaDoorChE
namespace Go.Proofs.YtcdondbegnbdgaaDoor
open Go Go.RowKit Towline Towline.Tlv Towline.Chunk
set_option linter.unusedVariables false
set_option linter.unusedSimpArgs false
set_option maxRecDepth 20000
/-- Data that may be held for other data: slices in slices too. -/
structure DLe (x y : D) : Prop where
  out : ∀ (w : World) (gd : Nat → Prop) (v : Value), RepD w gd x v → RepD w gd y v
theorem DLe.refl (x : D) : DLe x x := ⟨fun _ _ _ h => h⟩
def DLeL : List D → List D → Prop
  | [], [] => True
  | x :: l, y :: m => DLe x y ∧ DLeL l m
  | _, _ => False
theorem DLeL.len : ∀ {l m : List D}, DLeL l m → l.length = m.length
  | [], [], _ => rfl
  | x :: l, y :: m, h => by rw [List.length_cons, List.length_cons, DLeL.len h.2]
  | [], _ :: _, h => h.elim
  | _ :: _, [], h => h.elim
theorem DLeL.get : ∀ {l m : List D}, DLeL l m → ∀ (j : Nat) (y : D), m[j]? = some y → ∃ x, l[j]? = some x ∧ DLe x y
  | [], [], _, j, y, hy => by simp at hy
  | x :: l, y :: m, h, 0, z, hz => by
    simp at hz
    exact ⟨x, by simp, hz ▸ h.1⟩
  | x :: l, y :: m, h, j + 1, z, hz => by
    simp at hz
    simpa using DLeL.get h.2 j z hz
  | [], _ :: _, h, _, _, _ => h.elim
  | _ :: _, [], h, _, _, _ => h.elim
theorem DLeL.refl : ∀ l : List D, DLeL l l
  | [] => trivial
  | x :: l => ⟨.refl x, DLeL.refl l⟩
theorem DLeL.of_eq {l m : List D} (h : l = m) : DLeL l m := h ▸ DLeL.refl l
theorem DLe.sl {sz n m : Nat} {f g : Nat → List D} (hn : n = m) (h : ∀ k, k < n → DLeL (f k) (g k)) : DLe (.sl sz n f) (.sl sz m g) := by
  subst hn
  refine ⟨fun w gd v hd => ?_⟩
  cases hd with
  | sl0 _ _ A c hc => exact .sl0 _ _ _ _ hc
  | sl _ _ _ b o c cs hn hc hm hg hb hz hcell hrep =>
    refine .sl _ _ _ b o c cs hn hc hm hg hb (fun k hk => by rw [← (h k hk).len]; exact hz k hk) hcell fun k hk j y hy => ?_
    obtain ⟨x, hx, hle⟩ := (h k hk).get j y hy
    exact hle.out _ _ _ (hrep k hk j x hx)
theorem DLe.of_eq {x y : D} (h : x = y) : DLe x y := h ▸ .refl x
theorem DLe.av {x y : D} (h : DLe x y) : (AVal.d x).le (.d y) := ⟨fun w L gd v hv => by cases hv with | d h1 => exact .d (h.out _ _ _ h1)⟩
theorem wt_int {n : Nat} {a : D} (h : wt tys (n + 1) 3 [a]) : ∃ x : Int, a = .i .i64 x ∧ -2 ^ 63 ≤ x ∧ x < 2 ^ 63 := by
  obtain ⟨x, hx, hw⟩ := h
  have := bounds_i64 hw
  exact ⟨x, by simpa using hx, by omega, by omega⟩
theorem wt_u16 {n : Nat} {a : D} (h : wt tys (n + 1) 22 [a]) : ∃ x : Int, a = .i .u16 x ∧ in16 x := by
  obtain ⟨x, hx, hw⟩ := h
  have := bounds_u16 hw
  exact ⟨x, by simpa using hx, by unfold in16; omega⟩
theorem wt_u32 {n : Nat} {a : D} (h : wt tys (n + 1) 23 [a]) : ∃ x : Int, a = .i .u32 x ∧ in32 x := by
  obtain ⟨x, hx, hw⟩ := h
  have := bounds_u32 hw
  exact ⟨x, by simpa using hx, by unfold in32; omega⟩
theorem wt_str {n : Nat} {a : D} (h : wt tys (n + 1) 9 [a]) : ∃ x : List UInt8, a = .s x ∧ x.length ≤ maxLen := by
  obtain ⟨x, hx, hl⟩ := h
  exact ⟨x, by simpa using hx, hl⟩
theorem list_of {α : Type} [Inhabited α] {enc : α → List D} {p : α → Prop} {m : Nat} {f : Nat → List D} (h : ∀ k, k < m → ∃ a, DLeL (f k) (enc a) ∧ p a) : ∃ l : List α, l.length = m ∧ (∀ a ∈ l, p a) ∧ ∀ k, k < m → DLeL (f k) (enc (l.getD k default)) := by
  obtain ⟨g, hg⟩ := Go.Deep.choose_lt h
  refine ⟨(List.range m).map g, by simp, fun a ha => ?_, fun k hk => ?_⟩
  · obtain ⟨k, hk, rfl⟩ := List.mem_map.1 ha
    exact (hg k (List.mem_range.1 hk)).2
  · have := (hg k hk).1
    simpa [hk] using this
theorem wt_it {n : Nat} {l : List D} (h : wt tys (n + 2) 80 l) : ∃ x : Tlv.It, l = encI x := by
  obtain ⟨h0, h1, h2, _⟩ := h
  match l, h0 with
  | [a1, a2], _ =>
    obtain ⟨x1, rfl, _⟩ := wt_int h1
    obtain ⟨x2, rfl, _⟩ := wt_str h2
    exact ⟨⟨x1, x2⟩, rfl⟩
theorem wt_its {n : Nat} {a : D} (h : wt tys (n + 3) 33 [a]) : ∃ l : List Tlv.It, l.length ≤ maxLen ∧ DLe a (slT 2 encI l) := by
  obtain ⟨m, f, ha, hm, hf⟩ := h
  obtain ⟨l, h1, h2, h3⟩ := list_of (enc := encI) (p := fun _ => True) fun k hk => (wt_it (hf k hk).2).imp fun x hx => ⟨DLeL.of_eq hx, trivial⟩
  obtain ⟨rfl, _⟩ := List.cons.inj ha
  exact ⟨l, by omega, .sl h1.symm fun k hk => h3 k hk⟩
theorem wt_gap {n : Nat} {l : List D} (h : wt tys (n + 2) 98 l) : ∃ g : Int × Int, l = encG g ∧ (in16 g.1 ∧ in16 g.2) := by
  obtain ⟨hz, hk⟩ := h
  match l, hz with
  | [a1, a2], _ =>
    obtain ⟨x1, rfl, k1⟩ := wt_u16 (hk 0 (by decide))
    obtain ⟨x2, rfl, k2⟩ := wt_u16 (hk 1 (by decide))
    exact ⟨(x1, x2), rfl, k1, k2⟩
theorem wt_gaps {n : Nat} {a : D} (h : wt tys (n + 3) 31 [a]) : ∃ l : List (Int × Int), DLe a (slT 2 encG l) ∧ (∀ g ∈ l, in16 g.1 ∧ in16 g.2) := by
  obtain ⟨m, f, ha, hm, hf⟩ := h
  obtain ⟨l, h1, h2, h3⟩ := list_of (enc := encG) (p := fun g => in16 g.1 ∧ in16 g.2) fun k hk => (wt_gap (hf k hk).2).imp fun g hg => ⟨DLeL.of_eq hg.1, hg.2⟩
  obtain ⟨rfl, _⟩ := List.cons.inj ha
  exact ⟨l, .sl h1.symm fun k hk => h3 k hk, h2⟩
theorem wt_dups {n : Nat} {a : D} (h : wt tys (n + 2) 32 [a]) : ∃ l : List Int, DLe a (slT 1 enc32 l) ∧ ∀ x ∈ l, in32 x := by
  obtain ⟨m, f, ha, hm, hf⟩ := h
  obtain ⟨l, h1, h2, h3⟩ := list_of (enc := enc32) (p := in32) (f := f) (m := m) fun k hk => by
    obtain ⟨h4, h5⟩ := hf k hk
    match hfk : f k, h4 with
    | [b], _ =>
      rw [hfk] at h5
      obtain ⟨x, rfl, hx⟩ := wt_u32 h5
      exact ⟨x, .refl _, hx⟩
  obtain ⟨rfl, _⟩ := List.cons.inj ha
  exact ⟨l, .sl h1.symm fun k hk => h3 k hk, h2⟩
def encCh (c : Ch) : List D := [.i .i64 c.ty, .i .i64 c.flags, .i .u32 c.tsn, .i .u32 c.tag, .i .u32 c.window, .i .u32 c.ppid, .i .u16 c.stream, .i .u16 c.ssn, .i .u16 c.outs, .i .u16 c.ins, slT 2 encG c.gaps, slT 1 enc32 c.dups, slT 2 encI c.items, .s c.text]
theorem wt_ch {n : Nat} {l : List D} (h : wt tys (n + 4) 35 l) : ∃ c : Ch, DLeL l (encCh c) ∧ ChR c := by
  obtain ⟨h0, h1, h2, h3, h4, h5, h6, h7, h8, h9, h10, h11, h12, h13, h14, _⟩ := h
  match l, h0 with
  | [a1, a2, a3, a4, a5, a6, a7, a8, a9, a10, a11, a12, a13, a14], _ =>
    obtain ⟨x1, rfl, _⟩ := wt_int h1
    obtain ⟨x2, rfl, _⟩ := wt_int h2
    obtain ⟨x3, rfl, k3⟩ := wt_u32 h3
    obtain ⟨x4, rfl, k4⟩ := wt_u32 h4
    obtain ⟨x5, rfl, k5⟩ := wt_u32 h5
    obtain ⟨x6, rfl, k6⟩ := wt_u32 h6
    obtain ⟨x7, rfl, k7⟩ := wt_u16 h7
    obtain ⟨x8, rfl, k8⟩ := wt_u16 h8
    obtain ⟨x9, rfl, k9⟩ := wt_u16 h9
    obtain ⟨x10, rfl, k10⟩ := wt_u16 h10
    obtain ⟨l1, e1, g1⟩ := wt_gaps h11
    obtain ⟨l2, e2, g2⟩ := wt_dups h12
    obtain ⟨l3, _, e3⟩ := wt_its h13
    obtain ⟨x14, rfl, _⟩ := wt_str h14
    exact ⟨⟨x1, x2, x3, x4, x5, x6, x7, x8, x9, x10, l1, l2, l3, x14⟩, ⟨.refl _, .refl _, .refl _, .refl _, .refl _, .refl _, .refl _, .refl _, .refl _, .refl _, e1, e2, e3, .refl _, trivial⟩, ⟨k3, k4, k5, k6, k7, k8, k9, k10, g1, g2⟩⟩
theorem DLeL.agg {l m : List D} (h : DLeL l m) : OLe.CLe (l.map AVal.d) (m.map AVal.d) := by
  induction l generalizing m with
  | nil => cases m with
    | nil => trivial
    | cons _ _ => exact h.elim
  | cons x l ih => cases m with
    | nil => exact h.elim
    | cons y m => exact ⟨h.1.av, ih h.2⟩
theorem wt_chunk {n : Nat} {l : List D} (h : wt tys (n + 4) 35 l) : ∃ c : Ch, (asV true l).le (cA c) ∧ ChR c := by
  obtain ⟨c, h1, h2⟩ := wt_ch h
  exact ⟨c, .agg h1.agg, h2⟩
theorem wt_chunks {n : Nat} {a : D} (h : wt tys (n + 5) 24 [a]) : ∃ l : List Ch, l.length ≤ maxLen ∧ DLe a (slT 14 encCh l) ∧ ∀ c ∈ l, ChR c := by
  obtain ⟨m, f, ha, hm, hf⟩ := h
  obtain ⟨l, h1, h2, h3⟩ := list_of (enc := encCh) (p := ChR) fun k hk => wt_ch (n := n) (hf k hk).2
  obtain ⟨rfl, _⟩ := List.cons.inj ha
  exact ⟨l, by omega, .sl h1.symm fun k hk => h3 k hk, h2⟩
end Go.Proofs.YtcdondbegnbdgaaDoor
