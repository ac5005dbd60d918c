/- Chapter 19: the law of adoption. -/
import Derived.Test.YtbghocipmlobnaaGreatAsD
namespace Go.Proofs.YtbghocipmlobnaaGreat
open Go Go.RowKit Towline Towline.Hand
set_option linter.unusedVariables false
set_option linter.unusedSimpArgs false
set_option maxRecDepth 20000
set_option maxHeartbeats 4000000
theorem shownA_spec : PSpec Tryz.prog 4 [] (· = vb true) := by
  refine PSpec.run (tysAOk) followsB Tryz.func4 (by decide) rfl Tryz.ntmps4 (Nat.le_of_ble_eq_true rfl) rfl fun w0 R0 hGw => ?_
  conv => whnf
  refine ⟨by first | omega | decide +kernel, ?_⟩
  conv => whnf
  refine ⟨_, (LSpec.argsC (openA_spec 5 6 (by decide) 2 (by decide)) ⟨.sl rfl fun k hk => by cases k0 hk; rfl, .refl _, .refl _, .refl _, .refl _, .refl _, trivial⟩), ?_⟩
  rintro q hq ⟨rfl, rfl⟩
  conv => whnf
  refine ⟨_, (openN_spec 5 6 2), ?_⟩
  rintro q hq ⟨rfl, rfl⟩
  conv => whnf
  refine ⟨by first | omega | decide +kernel, ?_⟩
  conv => whnf
  refine ⟨_, (LSpec.argsC (open0_spec 6 2 (by decide)) ⟨.sl rfl fun k hk => by cases k0 hk; rfl, .refl _, .refl _, .refl _, .refl _, .refl _, trivial⟩), ?_⟩
  rintro q hq ⟨rfl, rfl⟩
  conv => whnf
  refine ⟨by first | omega | decide +kernel, ?_⟩
  conv => whnf
  refine ⟨by first | omega | decide +kernel, ?_⟩
  conv => whnf
  refine ⟨by first | omega | decide +kernel, ?_⟩
  conv => whnf
  refine ⟨_, (state_spec (hO 5 6 2) _ _ _ _ _ _ _ _ _), ?_⟩
  rintro q rfl
  conv => whnf
  refine ⟨_, (flushII_spec (hO 5 6 2) (zeros 2) 5 0 nilD 60000 (cO 5 6 2) rfl), ?_⟩
  rintro q hq ⟨rfl, rfl⟩
  conv => whnf
  refine ⟨by first | omega | decide +kernel, ?_⟩
  conv => whnf
  refine ⟨by first | omega | decide +kernel, ?_⟩
  conv => whnf
  refine ⟨by first | omega | decide +kernel, ?_⟩
  conv => whnf
  refine ⟨by first | omega | decide +kernel, ?_⟩
  conv => whnf
  refine ⟨by first | omega | decide +kernel, ?_⟩
  conv => whnf
  refine ⟨by first | omega | decide +kernel, ?_⟩
  conv => whnf
  refine ⟨by first | omega | decide +kernel, ?_⟩
  conv => whnf
  exact ⟨_, .refl _, rfl, rfl⟩
theorem wt_cookie {n : Nat} {l : List D} (h : wt tys (n + 2) 66 l) : ∃ x : S, asV true l = sA x ∧ TypS x := by
  obtain ⟨h0, h1, h2, h3, h4, h5, h6, h7, h8, h9, h10, h11, h12, h13, h14, _⟩ := h
  have i32 : ∀ {a : D} {n : Nat}, wt tys (n + 1) 22 [a] → ∃ x : Int, a = .i .u32 x := fun h => by
    obtain ⟨x, hx, _⟩ := h
    exact ⟨x, by simpa using hx⟩
  have i64 : ∀ {a : D} {n : Nat}, wt tys (n + 1) 3 [a] → ∃ x : Int, a = .i .i64 x := fun h => by
    obtain ⟨x, hx, _⟩ := h
    exact ⟨x, by simpa using hx⟩
  have i16 : ∀ {a : D} {n : Nat}, wt tys (n + 1) 37 [a] → ∃ x : Int, a = .i .u16 x ∧ 0 ≤ x ∧ x < 65536 := fun h => by
    obtain ⟨x, hx, hw⟩ := h
    have := bounds_u16 hw
    exact ⟨x, by simpa using hx, by omega, by omega⟩
  have is : ∀ {a : D} {n : Nat}, wt tys (n + 1) 9 [a] → ∃ x : List UInt8, a = .s x := fun h => by
    obtain ⟨x, hx, _⟩ := h
    exact ⟨x, by simpa using hx⟩
  match l, h0 with
  | [a1, a2, a3, a4, a5, a6, a7, a8, a9, a10, a11, a12, a13, a14], _ =>
    obtain ⟨x1, rfl⟩ := i32 h1
    obtain ⟨x2, rfl⟩ := i32 h2
    obtain ⟨x3, rfl⟩ := i32 h3
    obtain ⟨x4, rfl⟩ := i32 h4
    obtain ⟨x5, rfl⟩ := i32 h5
    obtain ⟨x6, rfl⟩ := i32 h6
    obtain ⟨x7, rfl⟩ := i32 h7
    obtain ⟨x8, rfl, p1⟩ := i16 h8
    obtain ⟨x9, rfl, p2⟩ := i16 h9
    obtain ⟨x10, rfl, p3⟩ := i16 h10
    obtain ⟨x11, rfl, p4⟩ := i16 h11
    obtain ⟨x12, rfl⟩ := is h12
    obtain ⟨x13, rfl⟩ := i64 h13
    obtain ⟨x14, rfl⟩ := i64 h14
    exact ⟨⟨x1, x2, x3, x4, x5, x6, x7, x8, x9, x10, x11, x12, x13, x14⟩, rfl, ⟨p1, p2, p3, p4⟩⟩
end Go.Proofs.YtbghocipmlobnaaGreat
