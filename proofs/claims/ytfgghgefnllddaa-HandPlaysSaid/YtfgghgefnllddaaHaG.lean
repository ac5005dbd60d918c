/- The law of two that meet, as a contract. -/
import Derived.Test.YtfgghgefnllddaaHaF
namespace Go.Proofs.Ytfgghgefnllddaa
open Go Go.RowKit Go.ChangeShapes Go.WideShapes Towline Towline.Hand
set_option linter.unusedVariables false
set_option maxRecDepth 20000
set_option maxHeartbeats 4000000
theorem open_nil (a tsn streams : Int) (g1 : ¬ a = 0) (g3 : ¬ streams = 0) : openR H.nil a tsn 5 streams 0 = ⟨⟨1, 1, 1000, a, 0, tsn, 0, 5, 0, streams, streams, []⟩, [⟨1, 0, tsn, a, 5, 0, 0, 0, streams, streams, []⟩], 0⟩ := by
  unfold openR
  rw [if_neg (by simp [H.nil]), if_neg (by simp [g1, g3])]
  rfl
theorem rA_one {f : FuncId} {args : List AVal} {h : H} {c : K} {n : Int} (hp : PSpec Try.prog f args (· = rA ⟨h, [c], n⟩)) : PSpec Try.prog f args (· = .tup [hA h, .d (.sl 14 1 fun _ => encK c), vi n]) :=
  hp.weaken (fun r hr _ => by
    subst hr
    refine ⟨.tup [hA h, .d (.sl 14 1 fun _ => encK c), vi n], ?_, rfl, rfl⟩
    refine .tup ⟨.refl _, .sl rfl (fun k hk => ?_), .refl _, trivial⟩
    have : k = 0 := by simpa using hk
    subst this
    rfl) (by rintro t sz n g h; cases h)
theorem accept_one (s : S) (m : Int) : PSpec Try.prog 11 [sA s, v32 m] (· = .tup [hA (accepted s m), .d (.sl 14 1 fun _ => encK (K.of 11))]) :=
  (accept_spec s m).weaken (fun r hr _ => by
    subst hr
    refine ⟨.tup [hA (accepted s m), .d (.sl 14 1 fun _ => encK (K.of 11))], ?_, rfl, rfl⟩
    refine .tup ⟨.refl _, .sl rfl (fun k hk => ?_), trivial⟩
    have : k = 0 := by simpa using hk
    subst this
    rfl) (by rintro t sz n g h; cases h)
abbrev ck : List UInt8 := [99, 111, 111, 107, 105, 101]
theorem take_ack (a b tsn other streams theirs : Int) : takeR ⟨1, 1, 1000, a, 0, tsn, 0, 5, 0, streams, streams, []⟩ ⟨2, 0, other, b, 9, 0, 0, 0, theirs, theirs, []⟩ [⟨7, ck⟩] true 10 = ⟨⟨2, 1, 1010, a, b, tsn, other, 5, 9, min streams theirs, min streams theirs, ck⟩, [⟨10, 0, 0, 0, 0, 0, 0, 0, 0, 0, ck⟩], 0⟩ := by
  rfl
theorem take_done (h : H) (hs : h.st = 2) : takeR h (K.of 11) [] true 20 = ⟨{ h with st := 3, tries := 0, due := 0 }, [], 1⟩ := by
  obtain ⟨st, tries, due, _, _, _, _, _, _, _, _, _⟩ := h
  simp only at hs
  subst hs
  rfl
theorem meets_spec (a b tsn other streams theirs : Int) :
    PSpec Try.prog 6 [v32 a, v32 b, v32 tsn, v32 other, v16 streams, v16 theirs] (· = vb true) := by
  refine PSpec.run (tysPOk [89]) follows Try.func6 (by decide) rfl Try.ntmps6 (Nat.le_of_ble_eq_true rfl) rfl fun w0 R0 => ?_
  conv => whnf
  refine ⟨_, shown_spec, ?_⟩
  rintro q rfl
  conv => whnf
  split <;> rename_i g1
  · conv => whnf
    exact ⟨_, .refl _, rfl, rfl⟩
  have g1 : ¬ a = 0 := by simpa using g1
  conv => whnf
  split <;> rename_i g2
  · conv => whnf
    exact ⟨_, .refl _, rfl, rfl⟩
  have g2 : ¬ b = 0 := by simpa using g2
  conv => whnf
  split <;> rename_i g3
  · conv => whnf
    exact ⟨_, .refl _, rfl, rfl⟩
  have g3 : ¬ streams = 0 := by simpa using g3
  conv => whnf
  split <;> rename_i g4
  · conv => whnf
    exact ⟨_, .refl _, rfl, rfl⟩
  have g4 : ¬ theirs = 0 := by simpa using g4
  conv => whnf
  have hp := open_spec H.nil a tsn 5 streams 0
  rw [open_nil a tsn streams g1 g3] at hp
  refine ⟨_, rA_one hp, ?_⟩
  rintro q rfl
  conv => whnf
  refine ⟨by decide, ?_⟩
  conv => whnf
  refine ⟨by decide, ?_⟩
  conv => whnf
  have hq := take_spec ⟨1, 1, 1000, a, 0, tsn, 0, 5, 0, streams, streams, []⟩ ⟨2, 0, other, b, 9, 0, 0, 0, theirs, theirs, []⟩ (.v (.slice none 0 0)) (.v (.slice none 0 0)) [⟨7, ck⟩] true 10 (by show 1 ≤ maxLen; decide) (by show (-2 ^ 63 : Int) ≤ 1; decide)
  rw [take_ack] at hq
  refine ⟨_, (rA_one hq).argsC ⟨.refl _, .agg ⟨.refl _, .refl _, .refl _, .refl _, .refl _, .refl _, .refl _, .refl _, .refl _, .refl _, .refl _, .refl _, .sl rfl (fun k hk => ?_), .refl _, trivial⟩, .refl _, .refl _, trivial⟩, ?_⟩
  · have : k = 0 := by omega
    subst this
    rfl
  rintro q rfl
  conv => whnf
  repeat (refine ⟨by decide, ?_⟩; conv => whnf)
  refine ⟨_, accept_one ⟨b, a, other, tsn, 0, 0, 5, min theirs streams, min theirs streams, 0, 0, [], 0, 0⟩ 9, ?_⟩
  rintro q rfl
  conv => whnf
  repeat (refine ⟨by decide, ?_⟩; conv => whnf)
  have hz := take_spec ⟨2, 1, 1010, a, b, tsn, other, 5, 9, min streams theirs, min streams theirs, ck⟩ (K.of 11) (.v (.slice none 0 0)) (.v (.slice none 0 0)) [] true 20 (by show 0 ≤ maxLen; decide) (by show (-2 ^ 63 : Int) ≤ 1; decide)
  rw [take_done _ rfl] at hz
  refine ⟨_, hz.argsC ⟨.refl _, .agg ⟨.refl _, .refl _, .refl _, .refl _, .refl _, .refl _, .refl _, .refl _, .refl _, .refl _, .refl _, .refl _, .nil, .refl _, trivial⟩, .refl _, .refl _, trivial⟩, ?_⟩
  conv => whnf
  refine ⟨by kernel_rfl, ?_⟩
  conv => whnf
  repeat' (split <;> rename_i g <;> (try (exfalso; simp [accepted, Int.min_comm] at g; done)) <;> conv => whnf)
  exact ⟨_, .refl _, rfl, rfl⟩
theorem handMeets_of {l0 l1 l2 l3 l4 l5 : List D} (h0 : wt tys 8 22 l0) (h1 : wt tys 8 22 l1) (h2 : wt tys 8 22 l2) (h3 : wt tys 8 22 l3) (h4 : wt tys 8 23 l4) (h5 : wt tys 8 23 l5) :
    PSpec Try.prog 6 [asV false l0, asV false l1, asV false l2, asV false l3, asV false l4, asV false l5] (· = vb true) := by
  obtain ⟨d0, rfl⟩ : ∃ d, l0 = [d] := by obtain ⟨x, hx, _⟩ := h0; exact ⟨_, hx⟩
  obtain ⟨d1, rfl⟩ : ∃ d, l1 = [d] := by obtain ⟨x, hx, _⟩ := h1; exact ⟨_, hx⟩
  obtain ⟨d2, rfl⟩ : ∃ d, l2 = [d] := by obtain ⟨x, hx, _⟩ := h2; exact ⟨_, hx⟩
  obtain ⟨d3, rfl⟩ : ∃ d, l3 = [d] := by obtain ⟨x, hx, _⟩ := h3; exact ⟨_, hx⟩
  obtain ⟨d4, rfl⟩ : ∃ d, l4 = [d] := by obtain ⟨x, hx, _⟩ := h4; exact ⟨_, hx⟩
  obtain ⟨d5, rfl⟩ : ∃ d, l5 = [d] := by obtain ⟨x, hx, _⟩ := h5; exact ⟨_, hx⟩
  obtain ⟨x0, rfl, _⟩ := wt_u32 (n := 7) h0
  obtain ⟨x1, rfl, _⟩ := wt_u32 (n := 7) h1
  obtain ⟨x2, rfl, _⟩ := wt_u32 (n := 7) h2
  obtain ⟨x3, rfl, _⟩ := wt_u32 (n := 7) h3
  obtain ⟨x4, rfl, _⟩ := wt_u16 (n := 7) h4
  obtain ⟨x5, rfl, _⟩ := wt_u16 (n := 7) h5
  exact meets_spec x0 x1 x2 x3 x4 x5
end Go.Proofs.Ytfgghgefnllddaa
