/- Chapter 19: the law of adoption. -/
import Derived.Test.YtnnaeedpojpejaaAsD
namespace Go.Proofs.Ytnnaeedpojpejaa
open Go Go.RowKit Towline Towline.Hand
set_option linter.unusedVariables false
set_option linter.unusedSimpArgs false
set_option maxRecDepth 20000
set_option maxHeartbeats 4000000
theorem shownA_spec : PSpec Try.prog 4 [] (· = vb true) := by
  refine PSpec.run (tysAOk) followsB Try.func4 (by decide) rfl Try.ntmps4 (Nat.le_of_ble_eq_true rfl) rfl fun w0 R0 hG => ?_
  conv => whnf
  refine ⟨by first | omega | decide +kernel, ?_⟩
  conv => whnf
  refine ⟨_, (LSpec.argsC (openA_spec 5 6 (by decide) 2 (by decide)) ⟨.sl rfl fun k hk => by cases k0 hk; rfl, .refl _, .refl _, .refl _, .refl _, .refl _, trivial⟩), ?_⟩
  rintro q hq ⟨rfl, rfl⟩
  conv => whnf
  refine ⟨_, (openN_spec 5 6 2), ?_⟩
  rintro q hq ⟨rfl, rfl⟩
  conv => whnf
  refine ⟨by first | omega | decide +kernel, ?_⟩
  conv => whnf
  refine ⟨_, (LSpec.argsC (open0_spec 6 2 (by decide)) ⟨.sl rfl fun k hk => by cases k0 hk; rfl, .refl _, .refl _, .refl _, .refl _, .refl _, trivial⟩), ?_⟩
  rintro q hq ⟨rfl, rfl⟩
  conv => whnf
  refine ⟨by first | omega | decide +kernel, ?_⟩
  conv => whnf
  refine ⟨by first | omega | decide +kernel, ?_⟩
  conv => whnf
  refine ⟨by first | omega | decide +kernel, ?_⟩
  conv => whnf
  refine ⟨_, (state_spec (hO 5 6 2) _ _ _ _ _ _ _ _ _), ?_⟩
  rintro q rfl
  conv => whnf
  refine ⟨_, (flushII_spec (hO 5 6 2) (zeros 2) 5 0 nilD 60000 (cO 5 6 2) rfl), ?_⟩
  rintro q hq ⟨rfl, rfl⟩
  conv => whnf
  refine ⟨by first | omega | decide +kernel, ?_⟩
  conv => whnf
  refine ⟨by first | omega | decide +kernel, ?_⟩
  conv => whnf
  refine ⟨by first | omega | decide +kernel, ?_⟩
  conv => whnf
  refine ⟨by first | omega | decide +kernel, ?_⟩
  conv => whnf
  refine ⟨by first | omega | decide +kernel, ?_⟩
  conv => whnf
  refine ⟨by first | omega | decide +kernel, ?_⟩
  conv => whnf
  refine ⟨by first | omega | decide +kernel, ?_⟩
  conv => whnf
  exact ⟨_, .refl _, rfl, rfl⟩
theorem adopts_spec (s : S) (ts : TypS s) (tag : Int) : PSpec Try.prog 3 [sA s, v32 tag] (· = vb true) := by
  obtain ⟨m, hm⟩ : ∃ m : Nat, s.outs = m := ⟨s.outs.toNat, (Int.toNat_of_nonneg ts.o.1).symm⟩
  obtain ⟨k, hk⟩ : ∃ k : Nat, s.ins = k := ⟨s.ins.toNat, (Int.toNat_of_nonneg ts.i.1).symm⟩
  refine PSpec.run (tysAOk) followsB Try.func3 (by decide) rfl Try.ntmps3 (Nat.le_of_ble_eq_true rfl) rfl fun w0 R0 hG => ?_
  conv => whnf
  refine ⟨_, shownA_spec, ?_⟩
  rintro q rfl
  conv => whnf
  by_cases ht : tag = 0
  · rw [show (tag == 0) = true from beq_iff_eq.2 ht]
    conv => whnf
    exact ⟨_, .refl _, rfl, rfl⟩
  rw [show (tag == 0) = false from beq_eq_false_iff_ne.2 ht]
  conv => whnf
  by_cases hp : 100 < s.peer.length
  · rw [show decide ((100 : Int) < (s.peer.length : Int)) = true from decide_eq_true (by omega)]
    conv => whnf
    exact ⟨_, .refl _, rfl, rfl⟩
  rw [show decide ((100 : Int) < (s.peer.length : Int)) = false from decide_eq_false (by omega)]
  conv => whnf
  refine ⟨by first | omega | decide +kernel, ?_⟩
  conv => whnf
  refine ⟨_, (LSpec.argsC (openA_spec tag 7 ht 4 (by decide)) ⟨.sl rfl fun k hk => by cases k0 hk; rfl, .refl _, .refl _, .refl _, .refl _, .refl _, trivial⟩), ?_⟩
  rintro q hq ⟨rfl, rfl⟩
  conv => whnf
  refine ⟨_, (flushII_spec (hO tag 7 4) (zeros 4) (IntKind.u32.wrap (7 - 1)) 0 nilD 60000 (cO tag 7 4) rfl), ?_⟩
  rintro q hq ⟨rfl, rfl⟩
  conv => whnf
  refine ⟨_, (right_spec s ts.o ts.i ts.p ts.q), ?_⟩
  rintro q rfl
  conv => whnf
  have hfe : fits s tag = (rightB s && decide (s.outs ≤ 16) && decide (s.ins ≤ 16) && decide (s.ourTag = tag)) := rfl
  by_cases g1 : rightB s = true
  rotate_left
  · have g1 : rightB s = false := by simpa using g1
    have hf : fits s tag = false := by rw [hfe, g1]; rfl
    rw [g1]
    conv => whnf
    refine ⟨_, (adoptF_spec (hO tag 7 4) (zeros 4) (IntKind.u32.wrap (7 - 1)) 0 nilD 60000 s ts rfl hf), ?_⟩
    rintro q hq ⟨rfl, rfl⟩
    conv => whnf
    refine ⟨_, (adoptF_spec (hO tag 7 4) (zeros 4) (IntKind.u32.wrap (7 - 1)) 0 nilD 60000 s ts rfl hf), ?_⟩
    rintro q hq ⟨rfl, rfl⟩
    conv => whnf
    refine ⟨by first | omega | decide +kernel, ?_⟩
    conv => whnf
    refine ⟨by first | omega | decide +kernel, ?_⟩
    conv => whnf
    refine ⟨_, (state_spec (hO tag 7 4) _ _ _ _ _ _ _ _ _), ?_⟩
    rintro q rfl
    conv => whnf
    refine ⟨_, (notesI_spec (hO tag 7 4) (zeros 4) (IntKind.u32.wrap (7 - 1)) 0 nilD 60000), ?_⟩
    rintro q hq ⟨rfl, rfl⟩
    conv => whnf
    refine ⟨_, (flushI_spec (hO tag 7 4) (zeros 4) (IntKind.u32.wrap (7 - 1)) 0 nilD 60000 rfl), ?_⟩
    rintro q hq ⟨rfl, rfl⟩
    conv => whnf
    exact ⟨_, .refl _, rfl, rfl⟩
  rw [g1]
  conv => whnf
  by_cases g2 : s.outs ≤ 16
  rotate_left
  · have hf : fits s tag = false := by rw [hfe, decide_eq_false g2, Bool.and_false]; rfl
    rw [show decide (s.outs ≤ 16) = false from decide_eq_false g2]
    conv => whnf
    refine ⟨_, (adoptF_spec (hO tag 7 4) (zeros 4) (IntKind.u32.wrap (7 - 1)) 0 nilD 60000 s ts rfl hf), ?_⟩
    rintro q hq ⟨rfl, rfl⟩
    conv => whnf
    refine ⟨_, (adoptF_spec (hO tag 7 4) (zeros 4) (IntKind.u32.wrap (7 - 1)) 0 nilD 60000 s ts rfl hf), ?_⟩
    rintro q hq ⟨rfl, rfl⟩
    conv => whnf
    refine ⟨by first | omega | decide +kernel, ?_⟩
    conv => whnf
    refine ⟨by first | omega | decide +kernel, ?_⟩
    conv => whnf
    refine ⟨_, (state_spec (hO tag 7 4) _ _ _ _ _ _ _ _ _), ?_⟩
    rintro q rfl
    conv => whnf
    refine ⟨_, (notesI_spec (hO tag 7 4) (zeros 4) (IntKind.u32.wrap (7 - 1)) 0 nilD 60000), ?_⟩
    rintro q hq ⟨rfl, rfl⟩
    conv => whnf
    refine ⟨_, (flushI_spec (hO tag 7 4) (zeros 4) (IntKind.u32.wrap (7 - 1)) 0 nilD 60000 rfl), ?_⟩
    rintro q hq ⟨rfl, rfl⟩
    conv => whnf
    exact ⟨_, .refl _, rfl, rfl⟩
  rw [show decide (s.outs ≤ 16) = true from decide_eq_true g2]
  conv => whnf
  by_cases g3 : s.ins ≤ 16
  rotate_left
  · have hf : fits s tag = false := by rw [hfe, decide_eq_false g3, Bool.and_false]; rfl
    rw [show decide (s.ins ≤ 16) = false from decide_eq_false g3]
    conv => whnf
    refine ⟨_, (adoptF_spec (hO tag 7 4) (zeros 4) (IntKind.u32.wrap (7 - 1)) 0 nilD 60000 s ts rfl hf), ?_⟩
    rintro q hq ⟨rfl, rfl⟩
    conv => whnf
    refine ⟨_, (adoptF_spec (hO tag 7 4) (zeros 4) (IntKind.u32.wrap (7 - 1)) 0 nilD 60000 s ts rfl hf), ?_⟩
    rintro q hq ⟨rfl, rfl⟩
    conv => whnf
    refine ⟨by first | omega | decide +kernel, ?_⟩
    conv => whnf
    refine ⟨by first | omega | decide +kernel, ?_⟩
    conv => whnf
    refine ⟨_, (state_spec (hO tag 7 4) _ _ _ _ _ _ _ _ _), ?_⟩
    rintro q rfl
    conv => whnf
    refine ⟨_, (notesI_spec (hO tag 7 4) (zeros 4) (IntKind.u32.wrap (7 - 1)) 0 nilD 60000), ?_⟩
    rintro q hq ⟨rfl, rfl⟩
    conv => whnf
    refine ⟨_, (flushI_spec (hO tag 7 4) (zeros 4) (IntKind.u32.wrap (7 - 1)) 0 nilD 60000 rfl), ?_⟩
    rintro q hq ⟨rfl, rfl⟩
    conv => whnf
    exact ⟨_, .refl _, rfl, rfl⟩
  rw [show decide (s.ins ≤ 16) = true from decide_eq_true g3]
  conv => whnf
  by_cases g4 : s.ourTag = tag
  rotate_left
  · have hf : fits s tag = false := by rw [hfe, decide_eq_false g4, Bool.and_false]
    rw [show (s.ourTag == tag) = false from beq_eq_false_iff_ne.2 g4]
    conv => whnf
    refine ⟨_, (adoptF_spec (hO tag 7 4) (zeros 4) (IntKind.u32.wrap (7 - 1)) 0 nilD 60000 s ts rfl hf), ?_⟩
    rintro q hq ⟨rfl, rfl⟩
    conv => whnf
    refine ⟨_, (adoptF_spec (hO tag 7 4) (zeros 4) (IntKind.u32.wrap (7 - 1)) 0 nilD 60000 s ts rfl hf), ?_⟩
    rintro q hq ⟨rfl, rfl⟩
    conv => whnf
    refine ⟨by first | omega | decide +kernel, ?_⟩
    conv => whnf
    refine ⟨by first | omega | decide +kernel, ?_⟩
    conv => whnf
    refine ⟨_, (state_spec (hO tag 7 4) _ _ _ _ _ _ _ _ _), ?_⟩
    rintro q rfl
    conv => whnf
    refine ⟨_, (notesI_spec (hO tag 7 4) (zeros 4) (IntKind.u32.wrap (7 - 1)) 0 nilD 60000), ?_⟩
    rintro q hq ⟨rfl, rfl⟩
    conv => whnf
    refine ⟨_, (flushI_spec (hO tag 7 4) (zeros 4) (IntKind.u32.wrap (7 - 1)) 0 nilD 60000 rfl), ?_⟩
    rintro q hq ⟨rfl, rfl⟩
    conv => whnf
    exact ⟨_, .refl _, rfl, rfl⟩
  have hf : fits s tag = true := by rw [hfe, g1, decide_eq_true g2, decide_eq_true g3, decide_eq_true g4]; rfl
  rw [show (s.ourTag == tag) = true from beq_iff_eq.2 g4]
  conv => whnf
  refine ⟨_, (adoptT_spec (hO tag 7 4) 4 (by decide) (IntKind.u32.wrap (7 - 1)) 60000 s ts rfl hf k m hk hm), ?_⟩
  rintro q hq ⟨rfl, rfl⟩
  conv => whnf
  refine ⟨_, (adoptU_spec (adopted (hO tag 7 4) s) (zeros (min 4 m)) (IntKind.u32.wrap (7 - 1)) (IntKind.u32.wrap (s.peerTsn - 1)) (zeros k) 60000 (K.of 11) s rfl), ?_⟩
  rintro q hq ⟨rfl, rfl⟩
  conv => whnf
  refine ⟨_, (flushIV_spec (adopted (hO tag 7 4) s) (zeros (min 4 m)) (IntKind.u32.wrap (7 - 1)) (IntKind.u32.wrap (s.peerTsn - 1)) (zeros k) 60000 (K.of 11) rfl), ?_⟩
  rintro q hq ⟨rfl, rfl⟩
  conv => whnf
  refine ⟨_, (notesIII_spec (adopted (hO tag 7 4) s) (zeros (min 4 m)) (IntKind.u32.wrap (7 - 1)) (IntKind.u32.wrap (s.peerTsn - 1)) (zeros k) 60000), ?_⟩
  rintro q hq ⟨rfl, rfl⟩
  conv => whnf
  refine ⟨by first | omega | decide +kernel, ?_⟩
  conv => whnf
  refine ⟨by first | omega | decide +kernel, ?_⟩
  conv => whnf
  refine ⟨_, (state_spec (adopted (hO tag 7 4) s) _ _ _ _ _ _ _ _ _), ?_⟩
  conv => whnf
  repeat (refine ⟨by omega, ?_⟩; conv => whnf)
  refine ⟨_, (hand_spec (adopted (hO tag 7 4) s) _ _ _ _ _ _ _ _ _), ?_⟩
  conv => whnf
  refine ⟨by kernel_rfl, ?_⟩
  conv => whnf
  exact ⟨_, .refl _, congrArg vb (beq_self_eq_true _), rfl⟩
theorem wt_cookie {n : Nat} {l : List D} (h : wt tys (n + 2) 25 l) : ∃ x : S, asV true l = sA x ∧ TypS x := by
  obtain ⟨h0, h1, h2, h3, h4, h5, h6, h7, h8, h9, h10, h11, h12, h13, h14, _⟩ := h
  have i32 : ∀ {a : D} {n : Nat}, wt tys (n + 1) 22 [a] → ∃ x : Int, a = .i .u32 x := fun h => by
    obtain ⟨x, hx, _⟩ := h
    exact ⟨x, by simpa using hx⟩
  have i64 : ∀ {a : D} {n : Nat}, wt tys (n + 1) 3 [a] → ∃ x : Int, a = .i .i64 x := fun h => by
    obtain ⟨x, hx, _⟩ := h
    exact ⟨x, by simpa using hx⟩
  have i16 : ∀ {a : D} {n : Nat}, wt tys (n + 1) 23 [a] → ∃ x : Int, a = .i .u16 x ∧ 0 ≤ x ∧ x < 65536 := fun h => by
    obtain ⟨x, hx, hw⟩ := h
    have := bounds_u16 hw
    exact ⟨x, by simpa using hx, by omega, by omega⟩
  have is : ∀ {a : D} {n : Nat}, wt tys (n + 1) 9 [a] → ∃ x : List UInt8, a = .s x := fun h => by
    obtain ⟨x, hx, _⟩ := h
    exact ⟨x, by simpa using hx⟩
  match l, h0 with
  | [a1, a2, a3, a4, a5, a6, a7, a8, a9, a10, a11, a12, a13, a14], _ =>
    obtain ⟨x1, rfl⟩ := i32 h1
    obtain ⟨x2, rfl⟩ := i32 h2
    obtain ⟨x3, rfl⟩ := i32 h3
    obtain ⟨x4, rfl⟩ := i32 h4
    obtain ⟨x5, rfl⟩ := i32 h5
    obtain ⟨x6, rfl⟩ := i32 h6
    obtain ⟨x7, rfl⟩ := i32 h7
    obtain ⟨x8, rfl, p1⟩ := i16 h8
    obtain ⟨x9, rfl, p2⟩ := i16 h9
    obtain ⟨x10, rfl, p3⟩ := i16 h10
    obtain ⟨x11, rfl, p4⟩ := i16 h11
    obtain ⟨x12, rfl⟩ := is h12
    obtain ⟨x13, rfl⟩ := i64 h13
    obtain ⟨x14, rfl⟩ := i64 h14
    exact ⟨⟨x1, x2, x3, x4, x5, x6, x7, x8, x9, x10, x11, x12, x13, x14⟩, rfl, ⟨p1, p2, p3, p4⟩⟩
theorem assocAdopts_of {l0 l1 : List D} (h0 : wt tys 8 25 l0) (h1 : wt tys 8 22 l1) : PSpec Try.prog 3 [asV true l0, asV false l1] (· = .d (.b true)) := by
  obtain ⟨s, e0, ts⟩ := wt_cookie (n := 6) h0
  obtain ⟨x, hx, _⟩ := h1
  subst hx
  rw [e0]
  exact adopts_spec s ts x
end Go.Proofs.Ytnnaeedpojpejaa
