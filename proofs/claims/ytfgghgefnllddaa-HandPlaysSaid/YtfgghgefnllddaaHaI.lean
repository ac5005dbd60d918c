/- Whatever happens: the small functions. -/
import Derived.Test.YtfgghgefnllddaaHaH
namespace Towline.Hand
def nextL (a : Int) : List Int :=
  if a = 0 then [0, 1] else if a = 1 then [0, 1, 2] else if a = 2 then [0, 1, 2, 3] else if a = 3 then [0, 3, 4, 5, 6, 7]
  else if a = 4 then [0, 4, 5, 6, 7] else if a = 5 then [0, 5, 7] else if a = 6 then [0, 6, 7] else [0, 7]
def goesB (a b : Int) : Bool := (nextL a).contains b
end Towline.Hand
namespace Go.Proofs.Ytfgghgefnllddaa
open Go Towline Towline.Hand
set_option linter.unusedVariables false
set_option linter.unusedSimpArgs false
set_option maxRecDepth 20000
set_option maxHeartbeats 4000000
-- (goes)
abbrev litD (l : List Int) : D := .sl 1 l.length (fun k => ((l.map fun x => [D.i .i64 x]) ++ replF 0 ty3.zero).getD k [])
abbrev nextRow : Nat → List D := fun k => ([litD [0, 1]] :: [litD [0, 1, 2]] :: [litD [0, 1, 2, 3]] :: [litD [0, 3, 4, 5, 6, 7]] :: [litD [0, 4, 5, 6, 7]] :: [litD [0, 5, 7]] :: [litD [0, 6, 7]] :: [litD [0, 7]] :: replF 0 ty72.zero).getD k []
theorem goes_spec (a b : Int) (h : 0 ≤ a ∧ a < 8) : PSpec Try.prog 32 [vi a, vi b] (· = vb (goesB a b)) := by
  obtain ⟨a, rfl⟩ : ∃ n : Nat, a = n := ⟨a.toNat, by omega⟩
  have h : a < 8 := by omega
  match a, h with
  | 0, _ =>
    refine PSpec.run tysOk follows Try.func32 (by decide) rfl Try.ntmps32 (Nat.le_of_ble_eq_true rfl) rfl fun w0 R0 => ?_
    conv => whnf
    repeat (refine ⟨by first | decide | omega, ?_⟩; conv => whnf)
    refine ALoop.introR tysOk follows (fun k : {k : Nat // k ≤ 2 ∧ ∀ j, j < k → ([0, 1] : List Int).getD j 0 ≠ b} => ([(0, vi 0), (1, vi b), (5, .rsl 15 1 0 8), (6, vi k.1)], [(15, .row 72 1 8 nextRow)])) (fun k => 2 - k.1) ⟨0, by omega, fun j hj => by omega⟩ ⟨.refl _, .refl _, .refl _, .refl _, ⟨rfl, rfl, rfl, fun _ _ => rfl⟩, trivial⟩ ?_
    rintro ⟨k, hk, hj⟩
    dsimp only
    match k, hk, hj with
    | 0, _, hj =>
      conv => whnf
      repeat (refine ⟨by first | decide | omega, ?_⟩; conv => whnf)
      split <;> rename_i g
      · have g : (0 : Int) = b := by simpa using g
        conv => whnf
        rw [show goesB (((0 : Nat)) : Int) b = true from by rw [← g]; rfl]
        exact ⟨_, .refl _, rfl, rfl⟩
      · have g : ¬ (0 : Int) = b := by simpa using g
        conv => whnf
        repeat (refine ⟨by first | decide | omega, ?_⟩; conv => whnf)
        refine ⟨⟨1, by omega, fun j hj' => ?_⟩, [], by dsimp only; omega, .refl _, .refl _, .refl _, .refl _, ⟨rfl, rfl, rfl, fun _ _ => rfl⟩, trivial⟩
        rcases Nat.lt_or_eq_of_le (Nat.le_of_lt_succ hj') with h | rfl
        · exact hj j h
        · exact g
    | 1, _, hj =>
      conv => whnf
      repeat (refine ⟨by first | decide | omega, ?_⟩; conv => whnf)
      split <;> rename_i g
      · have g : (1 : Int) = b := by simpa using g
        conv => whnf
        rw [show goesB (((0 : Nat)) : Int) b = true from by rw [← g]; rfl]
        exact ⟨_, .refl _, rfl, rfl⟩
      · have g : ¬ (1 : Int) = b := by simpa using g
        conv => whnf
        repeat (refine ⟨by first | decide | omega, ?_⟩; conv => whnf)
        refine ⟨⟨2, by omega, fun j hj' => ?_⟩, [], by dsimp only; omega, .refl _, .refl _, .refl _, .refl _, ⟨rfl, rfl, rfl, fun _ _ => rfl⟩, trivial⟩
        rcases Nat.lt_or_eq_of_le (Nat.le_of_lt_succ hj') with h | rfl
        · exact hj j h
        · exact g
    | 2, _, hj =>
      conv => whnf
      repeat (refine ⟨by first | decide | omega, ?_⟩; conv => whnf)
      rw [show goesB (((0 : Nat)) : Int) b = false from by
        simp only [goesB, nextL]
        simp
        exact ⟨fun e => hj 0 (by omega) (by rw [e]; rfl), fun e => hj 1 (by omega) (by rw [e]; rfl)⟩]
      exact ⟨_, .refl _, rfl, rfl⟩
    | _ + 3, hk, _ => exact absurd hk (by omega)
  | 1, _ =>
    refine PSpec.run tysOk follows Try.func32 (by decide) rfl Try.ntmps32 (Nat.le_of_ble_eq_true rfl) rfl fun w0 R0 => ?_
    conv => whnf
    repeat (refine ⟨by first | decide | omega, ?_⟩; conv => whnf)
    refine ALoop.introR tysOk follows (fun k : {k : Nat // k ≤ 3 ∧ ∀ j, j < k → ([0, 1, 2] : List Int).getD j 0 ≠ b} => ([(0, vi 1), (1, vi b), (5, .rsl 15 1 0 8), (6, vi k.1)], [(15, .row 72 1 8 nextRow)])) (fun k => 3 - k.1) ⟨0, by omega, fun j hj => by omega⟩ ⟨.refl _, .refl _, .refl _, .refl _, ⟨rfl, rfl, rfl, fun _ _ => rfl⟩, trivial⟩ ?_
    rintro ⟨k, hk, hj⟩
    dsimp only
    match k, hk, hj with
    | 0, _, hj =>
      conv => whnf
      repeat (refine ⟨by first | decide | omega, ?_⟩; conv => whnf)
      split <;> rename_i g
      · have g : (0 : Int) = b := by simpa using g
        conv => whnf
        rw [show goesB (((1 : Nat)) : Int) b = true from by rw [← g]; rfl]
        exact ⟨_, .refl _, rfl, rfl⟩
      · have g : ¬ (0 : Int) = b := by simpa using g
        conv => whnf
        repeat (refine ⟨by first | decide | omega, ?_⟩; conv => whnf)
        refine ⟨⟨1, by omega, fun j hj' => ?_⟩, [], by dsimp only; omega, .refl _, .refl _, .refl _, .refl _, ⟨rfl, rfl, rfl, fun _ _ => rfl⟩, trivial⟩
        rcases Nat.lt_or_eq_of_le (Nat.le_of_lt_succ hj') with h | rfl
        · exact hj j h
        · exact g
    | 1, _, hj =>
      conv => whnf
      repeat (refine ⟨by first | decide | omega, ?_⟩; conv => whnf)
      split <;> rename_i g
      · have g : (1 : Int) = b := by simpa using g
        conv => whnf
        rw [show goesB (((1 : Nat)) : Int) b = true from by rw [← g]; rfl]
        exact ⟨_, .refl _, rfl, rfl⟩
      · have g : ¬ (1 : Int) = b := by simpa using g
        conv => whnf
        repeat (refine ⟨by first | decide | omega, ?_⟩; conv => whnf)
        refine ⟨⟨2, by omega, fun j hj' => ?_⟩, [], by dsimp only; omega, .refl _, .refl _, .refl _, .refl _, ⟨rfl, rfl, rfl, fun _ _ => rfl⟩, trivial⟩
        rcases Nat.lt_or_eq_of_le (Nat.le_of_lt_succ hj') with h | rfl
        · exact hj j h
        · exact g
    | 2, _, hj =>
      conv => whnf
      repeat (refine ⟨by first | decide | omega, ?_⟩; conv => whnf)
      split <;> rename_i g
      · have g : (2 : Int) = b := by simpa using g
        conv => whnf
        rw [show goesB (((1 : Nat)) : Int) b = true from by rw [← g]; rfl]
        exact ⟨_, .refl _, rfl, rfl⟩
      · have g : ¬ (2 : Int) = b := by simpa using g
        conv => whnf
        repeat (refine ⟨by first | decide | omega, ?_⟩; conv => whnf)
        refine ⟨⟨3, by omega, fun j hj' => ?_⟩, [], by dsimp only; omega, .refl _, .refl _, .refl _, .refl _, ⟨rfl, rfl, rfl, fun _ _ => rfl⟩, trivial⟩
        rcases Nat.lt_or_eq_of_le (Nat.le_of_lt_succ hj') with h | rfl
        · exact hj j h
        · exact g
    | 3, _, hj =>
      conv => whnf
      repeat (refine ⟨by first | decide | omega, ?_⟩; conv => whnf)
      rw [show goesB (((1 : Nat)) : Int) b = false from by
        simp only [goesB, nextL]
        simp
        exact ⟨fun e => hj 0 (by omega) (by rw [e]; rfl), fun e => hj 1 (by omega) (by rw [e]; rfl), fun e => hj 2 (by omega) (by rw [e]; rfl)⟩]
      exact ⟨_, .refl _, rfl, rfl⟩
    | _ + 4, hk, _ => exact absurd hk (by omega)
  | 2, _ =>
    refine PSpec.run tysOk follows Try.func32 (by decide) rfl Try.ntmps32 (Nat.le_of_ble_eq_true rfl) rfl fun w0 R0 => ?_
    conv => whnf
    repeat (refine ⟨by first | decide | omega, ?_⟩; conv => whnf)
    refine ALoop.introR tysOk follows (fun k : {k : Nat // k ≤ 4 ∧ ∀ j, j < k → ([0, 1, 2, 3] : List Int).getD j 0 ≠ b} => ([(0, vi 2), (1, vi b), (5, .rsl 15 1 0 8), (6, vi k.1)], [(15, .row 72 1 8 nextRow)])) (fun k => 4 - k.1) ⟨0, by omega, fun j hj => by omega⟩ ⟨.refl _, .refl _, .refl _, .refl _, ⟨rfl, rfl, rfl, fun _ _ => rfl⟩, trivial⟩ ?_
    rintro ⟨k, hk, hj⟩
    dsimp only
    match k, hk, hj with
    | 0, _, hj =>
      conv => whnf
      repeat (refine ⟨by first | decide | omega, ?_⟩; conv => whnf)
      split <;> rename_i g
      · have g : (0 : Int) = b := by simpa using g
        conv => whnf
        rw [show goesB (((2 : Nat)) : Int) b = true from by rw [← g]; rfl]
        exact ⟨_, .refl _, rfl, rfl⟩
      · have g : ¬ (0 : Int) = b := by simpa using g
        conv => whnf
        repeat (refine ⟨by first | decide | omega, ?_⟩; conv => whnf)
        refine ⟨⟨1, by omega, fun j hj' => ?_⟩, [], by dsimp only; omega, .refl _, .refl _, .refl _, .refl _, ⟨rfl, rfl, rfl, fun _ _ => rfl⟩, trivial⟩
        rcases Nat.lt_or_eq_of_le (Nat.le_of_lt_succ hj') with h | rfl
        · exact hj j h
        · exact g
    | 1, _, hj =>
      conv => whnf
      repeat (refine ⟨by first | decide | omega, ?_⟩; conv => whnf)
      split <;> rename_i g
      · have g : (1 : Int) = b := by simpa using g
        conv => whnf
        rw [show goesB (((2 : Nat)) : Int) b = true from by rw [← g]; rfl]
        exact ⟨_, .refl _, rfl, rfl⟩
      · have g : ¬ (1 : Int) = b := by simpa using g
        conv => whnf
        repeat (refine ⟨by first | decide | omega, ?_⟩; conv => whnf)
        refine ⟨⟨2, by omega, fun j hj' => ?_⟩, [], by dsimp only; omega, .refl _, .refl _, .refl _, .refl _, ⟨rfl, rfl, rfl, fun _ _ => rfl⟩, trivial⟩
        rcases Nat.lt_or_eq_of_le (Nat.le_of_lt_succ hj') with h | rfl
        · exact hj j h
        · exact g
    | 2, _, hj =>
      conv => whnf
      repeat (refine ⟨by first | decide | omega, ?_⟩; conv => whnf)
      split <;> rename_i g
      · have g : (2 : Int) = b := by simpa using g
        conv => whnf
        rw [show goesB (((2 : Nat)) : Int) b = true from by rw [← g]; rfl]
        exact ⟨_, .refl _, rfl, rfl⟩
      · have g : ¬ (2 : Int) = b := by simpa using g
        conv => whnf
        repeat (refine ⟨by first | decide | omega, ?_⟩; conv => whnf)
        refine ⟨⟨3, by omega, fun j hj' => ?_⟩, [], by dsimp only; omega, .refl _, .refl _, .refl _, .refl _, ⟨rfl, rfl, rfl, fun _ _ => rfl⟩, trivial⟩
        rcases Nat.lt_or_eq_of_le (Nat.le_of_lt_succ hj') with h | rfl
        · exact hj j h
        · exact g
    | 3, _, hj =>
      conv => whnf
      repeat (refine ⟨by first | decide | omega, ?_⟩; conv => whnf)
      split <;> rename_i g
      · have g : (3 : Int) = b := by simpa using g
        conv => whnf
        rw [show goesB (((2 : Nat)) : Int) b = true from by rw [← g]; rfl]
        exact ⟨_, .refl _, rfl, rfl⟩
      · have g : ¬ (3 : Int) = b := by simpa using g
        conv => whnf
        repeat (refine ⟨by first | decide | omega, ?_⟩; conv => whnf)
        refine ⟨⟨4, by omega, fun j hj' => ?_⟩, [], by dsimp only; omega, .refl _, .refl _, .refl _, .refl _, ⟨rfl, rfl, rfl, fun _ _ => rfl⟩, trivial⟩
        rcases Nat.lt_or_eq_of_le (Nat.le_of_lt_succ hj') with h | rfl
        · exact hj j h
        · exact g
    | 4, _, hj =>
      conv => whnf
      repeat (refine ⟨by first | decide | omega, ?_⟩; conv => whnf)
      rw [show goesB (((2 : Nat)) : Int) b = false from by
        simp only [goesB, nextL]
        simp
        exact ⟨fun e => hj 0 (by omega) (by rw [e]; rfl), fun e => hj 1 (by omega) (by rw [e]; rfl), fun e => hj 2 (by omega) (by rw [e]; rfl), fun e => hj 3 (by omega) (by rw [e]; rfl)⟩]
      exact ⟨_, .refl _, rfl, rfl⟩
    | _ + 5, hk, _ => exact absurd hk (by omega)
  | 3, _ =>
    refine PSpec.run tysOk follows Try.func32 (by decide) rfl Try.ntmps32 (Nat.le_of_ble_eq_true rfl) rfl fun w0 R0 => ?_
    conv => whnf
    repeat (refine ⟨by first | decide | omega, ?_⟩; conv => whnf)
    refine ALoop.introR tysOk follows (fun k : {k : Nat // k ≤ 6 ∧ ∀ j, j < k → ([0, 3, 4, 5, 6, 7] : List Int).getD j 0 ≠ b} => ([(0, vi 3), (1, vi b), (5, .rsl 15 1 0 8), (6, vi k.1)], [(15, .row 72 1 8 nextRow)])) (fun k => 6 - k.1) ⟨0, by omega, fun j hj => by omega⟩ ⟨.refl _, .refl _, .refl _, .refl _, ⟨rfl, rfl, rfl, fun _ _ => rfl⟩, trivial⟩ ?_
    rintro ⟨k, hk, hj⟩
    dsimp only
    match k, hk, hj with
    | 0, _, hj =>
      conv => whnf
      repeat (refine ⟨by first | decide | omega, ?_⟩; conv => whnf)
      split <;> rename_i g
      · have g : (0 : Int) = b := by simpa using g
        conv => whnf
        rw [show goesB (((3 : Nat)) : Int) b = true from by rw [← g]; rfl]
        exact ⟨_, .refl _, rfl, rfl⟩
      · have g : ¬ (0 : Int) = b := by simpa using g
        conv => whnf
        repeat (refine ⟨by first | decide | omega, ?_⟩; conv => whnf)
        refine ⟨⟨1, by omega, fun j hj' => ?_⟩, [], by dsimp only; omega, .refl _, .refl _, .refl _, .refl _, ⟨rfl, rfl, rfl, fun _ _ => rfl⟩, trivial⟩
        rcases Nat.lt_or_eq_of_le (Nat.le_of_lt_succ hj') with h | rfl
        · exact hj j h
        · exact g
    | 1, _, hj =>
      conv => whnf
      repeat (refine ⟨by first | decide | omega, ?_⟩; conv => whnf)
      split <;> rename_i g
      · have g : (3 : Int) = b := by simpa using g
        conv => whnf
        rw [show goesB (((3 : Nat)) : Int) b = true from by rw [← g]; rfl]
        exact ⟨_, .refl _, rfl, rfl⟩
      · have g : ¬ (3 : Int) = b := by simpa using g
        conv => whnf
        repeat (refine ⟨by first | decide | omega, ?_⟩; conv => whnf)
        refine ⟨⟨2, by omega, fun j hj' => ?_⟩, [], by dsimp only; omega, .refl _, .refl _, .refl _, .refl _, ⟨rfl, rfl, rfl, fun _ _ => rfl⟩, trivial⟩
        rcases Nat.lt_or_eq_of_le (Nat.le_of_lt_succ hj') with h | rfl
        · exact hj j h
        · exact g
    | 2, _, hj =>
      conv => whnf
      repeat (refine ⟨by first | decide | omega, ?_⟩; conv => whnf)
      split <;> rename_i g
      · have g : (4 : Int) = b := by simpa using g
        conv => whnf
        rw [show goesB (((3 : Nat)) : Int) b = true from by rw [← g]; rfl]
        exact ⟨_, .refl _, rfl, rfl⟩
      · have g : ¬ (4 : Int) = b := by simpa using g
        conv => whnf
        repeat (refine ⟨by first | decide | omega, ?_⟩; conv => whnf)
        refine ⟨⟨3, by omega, fun j hj' => ?_⟩, [], by dsimp only; omega, .refl _, .refl _, .refl _, .refl _, ⟨rfl, rfl, rfl, fun _ _ => rfl⟩, trivial⟩
        rcases Nat.lt_or_eq_of_le (Nat.le_of_lt_succ hj') with h | rfl
        · exact hj j h
        · exact g
    | 3, _, hj =>
      conv => whnf
      repeat (refine ⟨by first | decide | omega, ?_⟩; conv => whnf)
      split <;> rename_i g
      · have g : (5 : Int) = b := by simpa using g
        conv => whnf
        rw [show goesB (((3 : Nat)) : Int) b = true from by rw [← g]; rfl]
        exact ⟨_, .refl _, rfl, rfl⟩
      · have g : ¬ (5 : Int) = b := by simpa using g
        conv => whnf
        repeat (refine ⟨by first | decide | omega, ?_⟩; conv => whnf)
        refine ⟨⟨4, by omega, fun j hj' => ?_⟩, [], by dsimp only; omega, .refl _, .refl _, .refl _, .refl _, ⟨rfl, rfl, rfl, fun _ _ => rfl⟩, trivial⟩
        rcases Nat.lt_or_eq_of_le (Nat.le_of_lt_succ hj') with h | rfl
        · exact hj j h
        · exact g
    | 4, _, hj =>
      conv => whnf
      repeat (refine ⟨by first | decide | omega, ?_⟩; conv => whnf)
      split <;> rename_i g
      · have g : (6 : Int) = b := by simpa using g
        conv => whnf
        rw [show goesB (((3 : Nat)) : Int) b = true from by rw [← g]; rfl]
        exact ⟨_, .refl _, rfl, rfl⟩
      · have g : ¬ (6 : Int) = b := by simpa using g
        conv => whnf
        repeat (refine ⟨by first | decide | omega, ?_⟩; conv => whnf)
        refine ⟨⟨5, by omega, fun j hj' => ?_⟩, [], by dsimp only; omega, .refl _, .refl _, .refl _, .refl _, ⟨rfl, rfl, rfl, fun _ _ => rfl⟩, trivial⟩
        rcases Nat.lt_or_eq_of_le (Nat.le_of_lt_succ hj') with h | rfl
        · exact hj j h
        · exact g
    | 5, _, hj =>
      conv => whnf
      repeat (refine ⟨by first | decide | omega, ?_⟩; conv => whnf)
      split <;> rename_i g
      · have g : (7 : Int) = b := by simpa using g
        conv => whnf
        rw [show goesB (((3 : Nat)) : Int) b = true from by rw [← g]; rfl]
        exact ⟨_, .refl _, rfl, rfl⟩
      · have g : ¬ (7 : Int) = b := by simpa using g
        conv => whnf
        repeat (refine ⟨by first | decide | omega, ?_⟩; conv => whnf)
        refine ⟨⟨6, by omega, fun j hj' => ?_⟩, [], by dsimp only; omega, .refl _, .refl _, .refl _, .refl _, ⟨rfl, rfl, rfl, fun _ _ => rfl⟩, trivial⟩
        rcases Nat.lt_or_eq_of_le (Nat.le_of_lt_succ hj') with h | rfl
        · exact hj j h
        · exact g
    | 6, _, hj =>
      conv => whnf
      repeat (refine ⟨by first | decide | omega, ?_⟩; conv => whnf)
      rw [show goesB (((3 : Nat)) : Int) b = false from by
        simp only [goesB, nextL]
        simp
        exact ⟨fun e => hj 0 (by omega) (by rw [e]; rfl), fun e => hj 1 (by omega) (by rw [e]; rfl), fun e => hj 2 (by omega) (by rw [e]; rfl), fun e => hj 3 (by omega) (by rw [e]; rfl), fun e => hj 4 (by omega) (by rw [e]; rfl), fun e => hj 5 (by omega) (by rw [e]; rfl)⟩]
      exact ⟨_, .refl _, rfl, rfl⟩
    | _ + 7, hk, _ => exact absurd hk (by omega)
  | 4, _ =>
    refine PSpec.run tysOk follows Try.func32 (by decide) rfl Try.ntmps32 (Nat.le_of_ble_eq_true rfl) rfl fun w0 R0 => ?_
    conv => whnf
    repeat (refine ⟨by first | decide | omega, ?_⟩; conv => whnf)
    refine ALoop.introR tysOk follows (fun k : {k : Nat // k ≤ 5 ∧ ∀ j, j < k → ([0, 4, 5, 6, 7] : List Int).getD j 0 ≠ b} => ([(0, vi 4), (1, vi b), (5, .rsl 15 1 0 8), (6, vi k.1)], [(15, .row 72 1 8 nextRow)])) (fun k => 5 - k.1) ⟨0, by omega, fun j hj => by omega⟩ ⟨.refl _, .refl _, .refl _, .refl _, ⟨rfl, rfl, rfl, fun _ _ => rfl⟩, trivial⟩ ?_
    rintro ⟨k, hk, hj⟩
    dsimp only
    match k, hk, hj with
    | 0, _, hj =>
      conv => whnf
      repeat (refine ⟨by first | decide | omega, ?_⟩; conv => whnf)
      split <;> rename_i g
      · have g : (0 : Int) = b := by simpa using g
        conv => whnf
        rw [show goesB (((4 : Nat)) : Int) b = true from by rw [← g]; rfl]
        exact ⟨_, .refl _, rfl, rfl⟩
      · have g : ¬ (0 : Int) = b := by simpa using g
        conv => whnf
        repeat (refine ⟨by first | decide | omega, ?_⟩; conv => whnf)
        refine ⟨⟨1, by omega, fun j hj' => ?_⟩, [], by dsimp only; omega, .refl _, .refl _, .refl _, .refl _, ⟨rfl, rfl, rfl, fun _ _ => rfl⟩, trivial⟩
        rcases Nat.lt_or_eq_of_le (Nat.le_of_lt_succ hj') with h | rfl
        · exact hj j h
        · exact g
    | 1, _, hj =>
      conv => whnf
      repeat (refine ⟨by first | decide | omega, ?_⟩; conv => whnf)
      split <;> rename_i g
      · have g : (4 : Int) = b := by simpa using g
        conv => whnf
        rw [show goesB (((4 : Nat)) : Int) b = true from by rw [← g]; rfl]
        exact ⟨_, .refl _, rfl, rfl⟩
      · have g : ¬ (4 : Int) = b := by simpa using g
        conv => whnf
        repeat (refine ⟨by first | decide | omega, ?_⟩; conv => whnf)
        refine ⟨⟨2, by omega, fun j hj' => ?_⟩, [], by dsimp only; omega, .refl _, .refl _, .refl _, .refl _, ⟨rfl, rfl, rfl, fun _ _ => rfl⟩, trivial⟩
        rcases Nat.lt_or_eq_of_le (Nat.le_of_lt_succ hj') with h | rfl
        · exact hj j h
        · exact g
    | 2, _, hj =>
      conv => whnf
      repeat (refine ⟨by first | decide | omega, ?_⟩; conv => whnf)
      split <;> rename_i g
      · have g : (5 : Int) = b := by simpa using g
        conv => whnf
        rw [show goesB (((4 : Nat)) : Int) b = true from by rw [← g]; rfl]
        exact ⟨_, .refl _, rfl, rfl⟩
      · have g : ¬ (5 : Int) = b := by simpa using g
        conv => whnf
        repeat (refine ⟨by first | decide | omega, ?_⟩; conv => whnf)
        refine ⟨⟨3, by omega, fun j hj' => ?_⟩, [], by dsimp only; omega, .refl _, .refl _, .refl _, .refl _, ⟨rfl, rfl, rfl, fun _ _ => rfl⟩, trivial⟩
        rcases Nat.lt_or_eq_of_le (Nat.le_of_lt_succ hj') with h | rfl
        · exact hj j h
        · exact g
    | 3, _, hj =>
      conv => whnf
      repeat (refine ⟨by first | decide | omega, ?_⟩; conv => whnf)
      split <;> rename_i g
      · have g : (6 : Int) = b := by simpa using g
        conv => whnf
        rw [show goesB (((4 : Nat)) : Int) b = true from by rw [← g]; rfl]
        exact ⟨_, .refl _, rfl, rfl⟩
      · have g : ¬ (6 : Int) = b := by simpa using g
        conv => whnf
        repeat (refine ⟨by first | decide | omega, ?_⟩; conv => whnf)
        refine ⟨⟨4, by omega, fun j hj' => ?_⟩, [], by dsimp only; omega, .refl _, .refl _, .refl _, .refl _, ⟨rfl, rfl, rfl, fun _ _ => rfl⟩, trivial⟩
        rcases Nat.lt_or_eq_of_le (Nat.le_of_lt_succ hj') with h | rfl
        · exact hj j h
        · exact g
    | 4, _, hj =>
      conv => whnf
      repeat (refine ⟨by first | decide | omega, ?_⟩; conv => whnf)
      split <;> rename_i g
      · have g : (7 : Int) = b := by simpa using g
        conv => whnf
        rw [show goesB (((4 : Nat)) : Int) b = true from by rw [← g]; rfl]
        exact ⟨_, .refl _, rfl, rfl⟩
      · have g : ¬ (7 : Int) = b := by simpa using g
        conv => whnf
        repeat (refine ⟨by first | decide | omega, ?_⟩; conv => whnf)
        refine ⟨⟨5, by omega, fun j hj' => ?_⟩, [], by dsimp only; omega, .refl _, .refl _, .refl _, .refl _, ⟨rfl, rfl, rfl, fun _ _ => rfl⟩, trivial⟩
        rcases Nat.lt_or_eq_of_le (Nat.le_of_lt_succ hj') with h | rfl
        · exact hj j h
        · exact g
    | 5, _, hj =>
      conv => whnf
      repeat (refine ⟨by first | decide | omega, ?_⟩; conv => whnf)
      rw [show goesB (((4 : Nat)) : Int) b = false from by
        simp only [goesB, nextL]
        simp
        exact ⟨fun e => hj 0 (by omega) (by rw [e]; rfl), fun e => hj 1 (by omega) (by rw [e]; rfl), fun e => hj 2 (by omega) (by rw [e]; rfl), fun e => hj 3 (by omega) (by rw [e]; rfl), fun e => hj 4 (by omega) (by rw [e]; rfl)⟩]
      exact ⟨_, .refl _, rfl, rfl⟩
    | _ + 6, hk, _ => exact absurd hk (by omega)
  | 5, _ =>
    refine PSpec.run tysOk follows Try.func32 (by decide) rfl Try.ntmps32 (Nat.le_of_ble_eq_true rfl) rfl fun w0 R0 => ?_
    conv => whnf
    repeat (refine ⟨by first | decide | omega, ?_⟩; conv => whnf)
    refine ALoop.introR tysOk follows (fun k : {k : Nat // k ≤ 3 ∧ ∀ j, j < k → ([0, 5, 7] : List Int).getD j 0 ≠ b} => ([(0, vi 5), (1, vi b), (5, .rsl 15 1 0 8), (6, vi k.1)], [(15, .row 72 1 8 nextRow)])) (fun k => 3 - k.1) ⟨0, by omega, fun j hj => by omega⟩ ⟨.refl _, .refl _, .refl _, .refl _, ⟨rfl, rfl, rfl, fun _ _ => rfl⟩, trivial⟩ ?_
    rintro ⟨k, hk, hj⟩
    dsimp only
    match k, hk, hj with
    | 0, _, hj =>
      conv => whnf
      repeat (refine ⟨by first | decide | omega, ?_⟩; conv => whnf)
      split <;> rename_i g
      · have g : (0 : Int) = b := by simpa using g
        conv => whnf
        rw [show goesB (((5 : Nat)) : Int) b = true from by rw [← g]; rfl]
        exact ⟨_, .refl _, rfl, rfl⟩
      · have g : ¬ (0 : Int) = b := by simpa using g
        conv => whnf
        repeat (refine ⟨by first | decide | omega, ?_⟩; conv => whnf)
        refine ⟨⟨1, by omega, fun j hj' => ?_⟩, [], by dsimp only; omega, .refl _, .refl _, .refl _, .refl _, ⟨rfl, rfl, rfl, fun _ _ => rfl⟩, trivial⟩
        rcases Nat.lt_or_eq_of_le (Nat.le_of_lt_succ hj') with h | rfl
        · exact hj j h
        · exact g
    | 1, _, hj =>
      conv => whnf
      repeat (refine ⟨by first | decide | omega, ?_⟩; conv => whnf)
      split <;> rename_i g
      · have g : (5 : Int) = b := by simpa using g
        conv => whnf
        rw [show goesB (((5 : Nat)) : Int) b = true from by rw [← g]; rfl]
        exact ⟨_, .refl _, rfl, rfl⟩
      · have g : ¬ (5 : Int) = b := by simpa using g
        conv => whnf
        repeat (refine ⟨by first | decide | omega, ?_⟩; conv => whnf)
        refine ⟨⟨2, by omega, fun j hj' => ?_⟩, [], by dsimp only; omega, .refl _, .refl _, .refl _, .refl _, ⟨rfl, rfl, rfl, fun _ _ => rfl⟩, trivial⟩
        rcases Nat.lt_or_eq_of_le (Nat.le_of_lt_succ hj') with h | rfl
        · exact hj j h
        · exact g
    | 2, _, hj =>
      conv => whnf
      repeat (refine ⟨by first | decide | omega, ?_⟩; conv => whnf)
      split <;> rename_i g
      · have g : (7 : Int) = b := by simpa using g
        conv => whnf
        rw [show goesB (((5 : Nat)) : Int) b = true from by rw [← g]; rfl]
        exact ⟨_, .refl _, rfl, rfl⟩
      · have g : ¬ (7 : Int) = b := by simpa using g
        conv => whnf
        repeat (refine ⟨by first | decide | omega, ?_⟩; conv => whnf)
        refine ⟨⟨3, by omega, fun j hj' => ?_⟩, [], by dsimp only; omega, .refl _, .refl _, .refl _, .refl _, ⟨rfl, rfl, rfl, fun _ _ => rfl⟩, trivial⟩
        rcases Nat.lt_or_eq_of_le (Nat.le_of_lt_succ hj') with h | rfl
        · exact hj j h
        · exact g
    | 3, _, hj =>
      conv => whnf
      repeat (refine ⟨by first | decide | omega, ?_⟩; conv => whnf)
      rw [show goesB (((5 : Nat)) : Int) b = false from by
        simp only [goesB, nextL]
        simp
        exact ⟨fun e => hj 0 (by omega) (by rw [e]; rfl), fun e => hj 1 (by omega) (by rw [e]; rfl), fun e => hj 2 (by omega) (by rw [e]; rfl)⟩]
      exact ⟨_, .refl _, rfl, rfl⟩
    | _ + 4, hk, _ => exact absurd hk (by omega)
  | 6, _ =>
    refine PSpec.run tysOk follows Try.func32 (by decide) rfl Try.ntmps32 (Nat.le_of_ble_eq_true rfl) rfl fun w0 R0 => ?_
    conv => whnf
    repeat (refine ⟨by first | decide | omega, ?_⟩; conv => whnf)
    refine ALoop.introR tysOk follows (fun k : {k : Nat // k ≤ 3 ∧ ∀ j, j < k → ([0, 6, 7] : List Int).getD j 0 ≠ b} => ([(0, vi 6), (1, vi b), (5, .rsl 15 1 0 8), (6, vi k.1)], [(15, .row 72 1 8 nextRow)])) (fun k => 3 - k.1) ⟨0, by omega, fun j hj => by omega⟩ ⟨.refl _, .refl _, .refl _, .refl _, ⟨rfl, rfl, rfl, fun _ _ => rfl⟩, trivial⟩ ?_
    rintro ⟨k, hk, hj⟩
    dsimp only
    match k, hk, hj with
    | 0, _, hj =>
      conv => whnf
      repeat (refine ⟨by first | decide | omega, ?_⟩; conv => whnf)
      split <;> rename_i g
      · have g : (0 : Int) = b := by simpa using g
        conv => whnf
        rw [show goesB (((6 : Nat)) : Int) b = true from by rw [← g]; rfl]
        exact ⟨_, .refl _, rfl, rfl⟩
      · have g : ¬ (0 : Int) = b := by simpa using g
        conv => whnf
        repeat (refine ⟨by first | decide | omega, ?_⟩; conv => whnf)
        refine ⟨⟨1, by omega, fun j hj' => ?_⟩, [], by dsimp only; omega, .refl _, .refl _, .refl _, .refl _, ⟨rfl, rfl, rfl, fun _ _ => rfl⟩, trivial⟩
        rcases Nat.lt_or_eq_of_le (Nat.le_of_lt_succ hj') with h | rfl
        · exact hj j h
        · exact g
    | 1, _, hj =>
      conv => whnf
      repeat (refine ⟨by first | decide | omega, ?_⟩; conv => whnf)
      split <;> rename_i g
      · have g : (6 : Int) = b := by simpa using g
        conv => whnf
        rw [show goesB (((6 : Nat)) : Int) b = true from by rw [← g]; rfl]
        exact ⟨_, .refl _, rfl, rfl⟩
      · have g : ¬ (6 : Int) = b := by simpa using g
        conv => whnf
        repeat (refine ⟨by first | decide | omega, ?_⟩; conv => whnf)
        refine ⟨⟨2, by omega, fun j hj' => ?_⟩, [], by dsimp only; omega, .refl _, .refl _, .refl _, .refl _, ⟨rfl, rfl, rfl, fun _ _ => rfl⟩, trivial⟩
        rcases Nat.lt_or_eq_of_le (Nat.le_of_lt_succ hj') with h | rfl
        · exact hj j h
        · exact g
    | 2, _, hj =>
      conv => whnf
      repeat (refine ⟨by first | decide | omega, ?_⟩; conv => whnf)
      split <;> rename_i g
      · have g : (7 : Int) = b := by simpa using g
        conv => whnf
        rw [show goesB (((6 : Nat)) : Int) b = true from by rw [← g]; rfl]
        exact ⟨_, .refl _, rfl, rfl⟩
      · have g : ¬ (7 : Int) = b := by simpa using g
        conv => whnf
        repeat (refine ⟨by first | decide | omega, ?_⟩; conv => whnf)
        refine ⟨⟨3, by omega, fun j hj' => ?_⟩, [], by dsimp only; omega, .refl _, .refl _, .refl _, .refl _, ⟨rfl, rfl, rfl, fun _ _ => rfl⟩, trivial⟩
        rcases Nat.lt_or_eq_of_le (Nat.le_of_lt_succ hj') with h | rfl
        · exact hj j h
        · exact g
    | 3, _, hj =>
      conv => whnf
      repeat (refine ⟨by first | decide | omega, ?_⟩; conv => whnf)
      rw [show goesB (((6 : Nat)) : Int) b = false from by
        simp only [goesB, nextL]
        simp
        exact ⟨fun e => hj 0 (by omega) (by rw [e]; rfl), fun e => hj 1 (by omega) (by rw [e]; rfl), fun e => hj 2 (by omega) (by rw [e]; rfl)⟩]
      exact ⟨_, .refl _, rfl, rfl⟩
    | _ + 4, hk, _ => exact absurd hk (by omega)
  | 7, _ =>
    refine PSpec.run tysOk follows Try.func32 (by decide) rfl Try.ntmps32 (Nat.le_of_ble_eq_true rfl) rfl fun w0 R0 => ?_
    conv => whnf
    repeat (refine ⟨by first | decide | omega, ?_⟩; conv => whnf)
    refine ALoop.introR tysOk follows (fun k : {k : Nat // k ≤ 2 ∧ ∀ j, j < k → ([0, 7] : List Int).getD j 0 ≠ b} => ([(0, vi 7), (1, vi b), (5, .rsl 15 1 0 8), (6, vi k.1)], [(15, .row 72 1 8 nextRow)])) (fun k => 2 - k.1) ⟨0, by omega, fun j hj => by omega⟩ ⟨.refl _, .refl _, .refl _, .refl _, ⟨rfl, rfl, rfl, fun _ _ => rfl⟩, trivial⟩ ?_
    rintro ⟨k, hk, hj⟩
    dsimp only
    match k, hk, hj with
    | 0, _, hj =>
      conv => whnf
      repeat (refine ⟨by first | decide | omega, ?_⟩; conv => whnf)
      split <;> rename_i g
      · have g : (0 : Int) = b := by simpa using g
        conv => whnf
        rw [show goesB (((7 : Nat)) : Int) b = true from by rw [← g]; rfl]
        exact ⟨_, .refl _, rfl, rfl⟩
      · have g : ¬ (0 : Int) = b := by simpa using g
        conv => whnf
        repeat (refine ⟨by first | decide | omega, ?_⟩; conv => whnf)
        refine ⟨⟨1, by omega, fun j hj' => ?_⟩, [], by dsimp only; omega, .refl _, .refl _, .refl _, .refl _, ⟨rfl, rfl, rfl, fun _ _ => rfl⟩, trivial⟩
        rcases Nat.lt_or_eq_of_le (Nat.le_of_lt_succ hj') with h | rfl
        · exact hj j h
        · exact g
    | 1, _, hj =>
      conv => whnf
      repeat (refine ⟨by first | decide | omega, ?_⟩; conv => whnf)
      split <;> rename_i g
      · have g : (7 : Int) = b := by simpa using g
        conv => whnf
        rw [show goesB (((7 : Nat)) : Int) b = true from by rw [← g]; rfl]
        exact ⟨_, .refl _, rfl, rfl⟩
      · have g : ¬ (7 : Int) = b := by simpa using g
        conv => whnf
        repeat (refine ⟨by first | decide | omega, ?_⟩; conv => whnf)
        refine ⟨⟨2, by omega, fun j hj' => ?_⟩, [], by dsimp only; omega, .refl _, .refl _, .refl _, .refl _, ⟨rfl, rfl, rfl, fun _ _ => rfl⟩, trivial⟩
        rcases Nat.lt_or_eq_of_le (Nat.le_of_lt_succ hj') with h | rfl
        · exact hj j h
        · exact g
    | 2, _, hj =>
      conv => whnf
      repeat (refine ⟨by first | decide | omega, ?_⟩; conv => whnf)
      rw [show goesB (((7 : Nat)) : Int) b = false from by
        simp only [goesB, nextL]
        simp
        exact ⟨fun e => hj 0 (by omega) (by rw [e]; rfl), fun e => hj 1 (by omega) (by rw [e]; rfl)⟩]
      exact ⟨_, .refl _, rfl, rfl⟩
    | _ + 3, hk, _ => exact absurd hk (by omega)
-- (goes end)
def waitsB (s : Int) : Bool := s == 1 || s == 2 || s == 5 || s == 7
theorem waits_spec (s : Int) : PSpec Try.prog 34 [vi s] (· = vb (waitsB s)) := by
  refine PSpec.run tysOk follows Try.func34 (by decide) rfl Try.ntmps34 (Nat.le_of_ble_eq_true rfl) rfl fun w0 R0 => ?_
  conv => whnf
  repeat' (split <;> (conv => whnf))
  all_goals exact ⟨_, .refl _, by simp [waitsB, *], rfl⟩
def notedB (a b n : Int) : Bool := if ((n == 1) != ((a == 2) && (b == 3))) then false else if ((n == 2 || n == 3) && (a == 0 || b != 0)) then false else (decide (a < 3) || (b != 0) || (n == 2 || n == 3))
theorem noted_spec (a b n : Int) : PSpec Try.prog 33 [vi a, vi b, vi n] (· = vb (notedB a b n)) := by
  refine PSpec.run tysOk follows Try.func33 (by decide) rfl Try.ntmps33 (Nat.le_of_ble_eq_true rfl) rfl fun w0 R0 => ?_
  conv => whnf
  repeat' (split <;> (conv => whnf))
  all_goals exact ⟨_, .refl _, by simp [notedB, *], rfl⟩
end Go.Proofs.Ytfgghgefnllddaa
