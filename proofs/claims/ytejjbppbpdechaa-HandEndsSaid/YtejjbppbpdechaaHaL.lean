/- Both ends close: plain. -/
import Derived.Test.YtejjbppbpdechaaHaE
namespace Towline.Hand
set_option linter.unusedVariables false
/-- A side: its state, what of its is on its way, its note. -/
structure Sd where
  h : H
  w : List K
  n : Int
def eat1 (e : Bool) (s : Sd) (c : K) : Sd := ⟨(takeR s.h c [] e 10).h, s.w ++ (takeR s.h c [] e 10).l, max s.n (takeR s.h c [] e 10).n⟩
def after (s : Sd) : Sd := ⟨(emptyR s.h 6 20).h, s.w ++ (emptyR s.h 6 20).l, s.n⟩
def clear (s : Sd) : Sd := ⟨s.h, [], s.n⟩
def h0 (a b : Int) : H := ⟨3, 0, 0, a, b, 0, 0, 0, 0, 0, 0, []⟩
def cls (h : H) (e : Bool) : Sd := ⟨(closeR h 5 e 0).h, (closeR h 5 e 0).l, 0⟩
def emp0 (f : Bool) (r : Nat) : Bool := match r with | 0 => f | _ + 1 => true
def emp1 (s : Bool) (r : Nat) : Bool := match r with | 0 => s | 1 => s | _ + 2 => true
def endSt (f s b : Bool) : Nat → Sd × Sd
  | 0 => (cls (h0 1 2) f, if b then cls (h0 2 1) s else ⟨h0 2 1, [], 0⟩)
  | r + 1 => if r % 2 = 0 then (after ((endSt f s b r).2.w.foldl (eat1 (emp0 f r)) (endSt f s b r).1), clear (endSt f s b r).2)
    else (clear (endSt f s b r).1, after ((endSt f s b r).1.w.foldl (eat1 (emp1 s r)) (endSt f s b r).2))
theorem end_all : ∀ f s b, (endSt f s b 12).1.h.st = 0 ∧ (endSt f s b 12).2.h.st = 0 ∧ (endSt f s b 12).1.n = 2 ∧ (endSt f s b 12).2.n = 2 := by
  intro f s b
  cases f <;> cases s <;> cases b <;> decide +kernel
theorem end_small : ∀ f s b, ∀ r, r < 13 → (endSt f s b r).1.w.length ≤ 9 ∧ (endSt f s b r).2.w.length ≤ 9 ∧ 0 ≤ (endSt f s b r).1.h.tries ∧ 0 ≤ (endSt f s b r).2.h.tries := by
  intro f s b
  cases f <;> cases s <;> cases b <;> decide +kernel
theorem end_nil : ∀ f s b, ∀ r, r < 12 → (if r % 2 = 0 then (endSt f s b (r + 1)).2.w = [] else (endSt f s b (r + 1)).1.w = []) := by
  intro f s b r hr
  show (if r % 2 = 0 then (if r % 2 = 0 then _ else _ : Sd × Sd).2.w = [] else (if r % 2 = 0 then _ else _ : Sd × Sd).1.w = [])
  split <;> rfl
theorem takeR_len (h : H) (c : K) (e : Bool) (now : Int) : (takeR h c [] e now).l.length ≤ 1 := by
  unfold takeR answeredR refusedR dropR
  repeat' (first | (dsimp only; exact sends_len _ _) | (simp; done) | split)
theorem entered_tries (h : H) (st cum now : Int) : 0 ≤ (entered h st cum now).tries := by
  unfold entered; split <;> (dsimp only; decide)
theorem takeR_tries {h : H} (ht : 0 ≤ h.tries) (c : K) (e : Bool) (now : Int) : 0 ≤ (takeR h c [] e now).h.tries := by
  unfold takeR answeredR refusedR dropR
  repeat' (first | (dsimp only; exact entered_tries _ _ _ _) | exact ht | (show (0 : Int) ≤ 0; decide) | (show (0 : Int) ≤ h.tries + 1; omega) | split)
end Towline.Hand
