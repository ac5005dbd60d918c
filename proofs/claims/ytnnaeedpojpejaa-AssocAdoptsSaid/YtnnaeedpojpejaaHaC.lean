/- Opening, closing, waiting, dropping. -/
import Derived.Test.YtnnaeedpojpejaaHaB
namespace Towline.Hand
structure R where
  h : H
  l : List K
  n : Int
def openR (h : H) (tag tsn win streams now : Int) : R :=
  if ¬ h.st = 0 then ⟨H.nil, [], 11⟩ else if tag = 0 ∨ streams = 0 then ⟨H.nil, [], 1⟩
  else ⟨entered { h with ourTag := tag, ourTsn := tsn, mine := win, outs := streams, ins := streams } 1 0 now, enters { h with ourTag := tag, ourTsn := tsn, mine := win, outs := streams, ins := streams } 1 0, 0⟩
def closeR (h : H) (cum : Int) (empty : Bool) (now : Int) : R :=
  if h.st = 1 ∨ h.st = 2 then ⟨H.nil, [], 0⟩ else if h.st = 3 then ⟨entered h (if empty then 5 else 4) cum now, enters h (if empty then 5 else 4) cum, 0⟩ else ⟨H.nil, [], 11⟩
def emptyR (h : H) (cum now : Int) : R :=
  if h.st = 4 then ⟨entered h 5 cum now, enters h 5 cum, 0⟩ else if h.st = 6 then ⟨entered h 7 cum now, enters h 7 cum, 0⟩ else ⟨h, [], 0⟩
def dropR (h : H) : R := if h.st = 0 then ⟨h, [], 0⟩ else ⟨H.nil, [K.of 6], 3⟩
def wait (t : Int) : Int := min (w64 (1000 * 2 ^ min (max t 0).toNat 64)) 60000
def tickR (h : H) (cum now : Int) : R :=
  if h.due = 0 ∨ now < h.due then ⟨h, [], 0⟩ else if 8 ≤ h.tries then ⟨H.nil, [K.of 6], 3⟩
  else ⟨{ h with due := w64 (now + wait h.tries), tries := h.tries + 1 }, sends h cum, 0⟩
/-- The reference's way: doubled so often. -/
def dbl : Nat → Int
  | 0 => 1000
  | k + 1 => min (2 * dbl k) 60000
theorem dbl_eq (t : Int) (h : t < 8) : dbl t.toNat = wait t := by
  rcases Int.le_total t 0 with h0 | h0
  · have e1 : t.toNat = 0 := by omega
    have e2 : max t 0 = 0 := by omega
    rw [e1, wait, e2]; decide
  · obtain ⟨k, rfl⟩ := Int.eq_ofNat_of_zero_le h0
    have : k < 8 := by omega
    match k, this with
    | 0, _ => decide
    | 1, _ => decide
    | 2, _ => decide
    | 3, _ => decide
    | 4, _ => decide
    | 5, _ => decide
    | 6, _ => decide
    | 7, _ => decide
theorem dbl_le : ∀ k, 0 ≤ dbl k ∧ dbl k ≤ 60000
  | 0 => by decide
  | k + 1 => by have := dbl_le k; simp only [dbl]; omega
theorem wait_le (t : Int) (h : t < 8) : 0 ≤ wait t ∧ wait t ≤ 60000 := by rw [← dbl_eq t h]; exact dbl_le _
end Towline.Hand
namespace Go.Proofs.Ytnnaeedpojpejaa
open Go Towline Towline.Hand
set_option linter.unusedVariables false
set_option maxRecDepth 20000
set_option maxHeartbeats 4000000
def encN (n : Int) : List D := [.i .i64 n]
abbrev rA (r : R) : AVal := .tup [hA r.h, ksA r.l, vi r.n]
abbrev rA2 (r : R) : AVal := .tup [hA r.h, ksA r.l]
theorem open_spec (h : H) (tag tsn win streams now : Int) : PSpec Try.prog 14 [hA h, v32 tag, v32 tsn, v32 win, v16 streams, vi now] (· = rA (openR h tag tsn win streams now)) := by
  refine PSpec.run tysOk follows Try.func14 (by decide) rfl Try.ntmps14 (Nat.le_of_ble_eq_true rfl) rfl fun w0 R0 hG => ?_
  conv => whnf
  split <;> rename_i g1
  · have g1 : ¬ h.st = 0 := by simpa using g1
    conv => whnf
    rw [openR, if_pos g1]
    refine ⟨_, ?_, rfl, rfl⟩
    exact .tup ⟨.refl _, .nil, .refl _, trivial⟩
  · have g1 : h.st = 0 := by simpa using g1
    conv => whnf
    split <;> rename_i g2
    · have g2 : tag = 0 := by simpa using g2
      conv => whnf
      rw [openR, if_neg (by simpa using g1), if_pos (.inl g2)]
      refine ⟨_, ?_, rfl, rfl⟩
      exact .tup ⟨.refl _, .nil, .refl _, trivial⟩
    · have g2 : ¬ tag = 0 := by simpa using g2
      conv => whnf
      split <;> rename_i g3
      · have g3 : streams = 0 := by simpa using g3
        conv => whnf
        rw [openR, if_neg (by simpa using g1), if_pos (.inr g3)]
        refine ⟨_, ?_, rfl, rfl⟩
        exact .tup ⟨.refl _, .nil, .refl _, trivial⟩
      · have g3 : ¬ streams = 0 := by simpa using g3
        conv => whnf
        refine ⟨_, enter_spec { h with ourTag := tag, ourTsn := tsn, mine := win, outs := streams, ins := streams } 1 0 now, ?_⟩
        rintro q rfl
        conv => whnf
        rw [openR, if_neg (by simpa using g1), if_neg (by simp [g2, g3])]
        exact ⟨_, .refl _, rfl, rfl⟩
end Go.Proofs.Ytnnaeedpojpejaa
