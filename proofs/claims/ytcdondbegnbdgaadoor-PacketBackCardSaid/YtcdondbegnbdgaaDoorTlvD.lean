/- Chapter 6: bytes read as items, in plain words. -/
import Derived.Test.YtcdondbegnbdgaaDoorTlvC
import Derived.Lib.TrimByte
namespace Towline.Tlv
open Go
set_option linter.unusedVariables false
set_option linter.unusedSimpArgs false
def b2 (s : List UInt8) (i : Nat) : Nat := (s.getD i 0).toNat * 256 + (s.getD (i + 1) 0).toNat
def endN (s : List UInt8) : Nat := min (b2 s 2 + padN (b2 s 2)) s.length
/-- The item that bytes begin with, how many it has, and what is wrong. -/
def firstL (s : List UInt8) : It × Nat × Int :=
  if s.length < 4 then (⟨0, []⟩, 0, 3)
  else if b2 s 2 < 4 then (⟨0, []⟩, 0, 2)
  else if s.length < b2 s 2 then (⟨0, []⟩, 0, 3)
  else if 1404 < b2 s 2 then (⟨0, []⟩, 0, 4)
  else if ((s.take (endN s)).drop (b2 s 2)).any (· != 0) = true then (⟨0, []⟩, 0, 2)
  else (⟨b2 s 0, (s.take (b2 s 2)).drop 4⟩, endN s, 0)
theorem firstL_pos {s : List UInt8} (h : (firstL s).2.2 = 0) : 4 ≤ (firstL s).2.1 ∧ (firstL s).2.1 ≤ s.length := by
  unfold firstL at h ⊢
  split at h
  · cases h
  · split at h
    · cases h
    · split at h
      · cases h
      · split at h
        · cases h
        · split at h
          · cases h
          · rename_i h1 h2 h3 h4 h5
            rw [if_neg h1, if_neg h2, if_neg h3, if_neg h4, if_neg h5]
            simp only [endN]
            omega
/-- What is handed on in a round. -/
structure Rd where
  place : Nat
  err : Int
  x : It
  deriving Inhabited
/-- The rounds over what is left. -/
def yl (t : List UInt8) (p : Nat) : List Rd :=
  if h : 0 < t.length then
    ⟨p, (firstL t).2.2, (firstL t).1⟩ :: (if h2 : (firstL t).2.2 = 0 then yl (t.drop (firstL t).2.1) (p + (firstL t).2.1) else [])
  else []
termination_by t.length
decreasing_by
  have := firstL_pos h2
  rw [List.length_drop]
  omega
theorem yl_nil {t : List UInt8} {p : Nat} (h : t.length = 0) : yl t p = [] := by
  rw [yl, dif_neg (by omega)]
theorem yl_go {t : List UInt8} {p : Nat} (h : 0 < t.length) (h2 : (firstL t).2.2 = 0) : yl t p = ⟨p, 0, (firstL t).1⟩ :: yl (t.drop (firstL t).2.1) (p + (firstL t).2.1) := by
  rw [yl, dif_pos h, dif_pos h2, h2]
theorem yl_bad {t : List UInt8} {p : Nat} (h : 0 < t.length) (h2 : (firstL t).2.2 ≠ 0) : yl t p = [⟨p, (firstL t).2.2, (firstL t).1⟩] := by
  rw [yl, dif_pos h, dif_neg h2]
theorem yl_len (t : List UInt8) (p : Nat) : (yl t p).length ≤ t.length := by
  induction hn : t.length using Nat.strongRecOn generalizing t p with
  | _ n ih =>
    by_cases h : 0 < t.length
    · by_cases h2 : (firstL t).2.2 = 0
      · have h3 := firstL_pos h2
        rw [yl_go h h2, List.length_cons]
        have := ih (t.drop (firstL t).2.1).length (by rw [List.length_drop]; omega) (t.drop (firstL t).2.1) (p + (firstL t).2.1) rfl
        rw [List.length_drop] at this
        omega
      · rw [yl_bad h h2]; simp; omega
    · rw [yl_nil (by omega)]; simp
/-- Behind what is wrong nothing comes. -/
theorem yl_stop {pre : List Rd} {r : Rd} (hr : r.err ≠ 0) : ∀ {t : List UInt8} {p : Nat}, pre ++ [r] <+: yl t p → pre ++ [r] = yl t p := by
  induction pre with
  | nil =>
    intro t p h
    by_cases h0 : 0 < t.length
    · by_cases h2 : (firstL t).2.2 = 0
      · rw [yl_go h0 h2] at h
        obtain ⟨z, hz⟩ := h
        simp only [List.nil_append, List.cons_append, List.cons.injEq] at hz
        rw [hz.1] at hr
        exact absurd rfl hr
      · rw [yl_bad h0 h2] at h ⊢
        obtain ⟨z, hz⟩ := h
        simp only [List.nil_append, List.cons_append, List.cons.injEq] at hz
        rw [hz.1]; rfl
    · rw [yl_nil (by omega)] at h
      exact absurd (List.prefix_nil.1 h) (by simp)
  | cons q pre ih =>
    intro t p h
    by_cases h0 : 0 < t.length
    · by_cases h2 : (firstL t).2.2 = 0
      · rw [yl_go h0 h2] at h ⊢
        obtain ⟨e1, e2⟩ := List.cons_prefix_cons.1 (show q :: (pre ++ [r]) <+: _ from h)
        rw [← ih e2, e1]; rfl
      · rw [yl_bad h0 h2] at h
        obtain ⟨e1, e2⟩ := List.cons_prefix_cons.1 (show q :: (pre ++ [r]) <+: _ from h)
        exact absurd (List.prefix_nil.1 e2) (by simp)
    · rw [yl_nil (by omega)] at h
      exact absurd (List.prefix_nil.1 h) (by simp)
def okR (r : Rd) : Bool := r.err == 0
/-- The items of bytes, or the place of the one that is wrong. -/
def parseY (y : List Rd) : List It × Int × Int := if y.all okR = true then (y.map (·.x), 0, 0) else ([], (y.getLastD default).place, (y.getLastD default).err)
def parseL (s : List UInt8) : List It × Int × Int := if 4000 < s.length then ([], 0, 4) else parseY (yl s 0)
theorem dropWhile_nil {α : Type} (p : α → Bool) : ∀ l : List α, l.dropWhile p = [] ↔ ∀ x ∈ l, p x = true
  | [] => by simp
  | a :: l => by
    rw [List.dropWhile_cons]
    split
    · rename_i h
      rw [dropWhile_nil p l]
      simp [h]
    · rename_i h
      simp [h]
theorem trim_all (l : List UInt8) : (Go.Lib.trimB l 0 = []) ↔ ∀ x ∈ l, x = 0 := by
  unfold Go.Lib.trimB Go.Lib.trimLeftB Go.Lib.trimRightB
  rw [dropWhile_nil]
  constructor
  · intro h x hx
    by_cases hz : (l.reverse.dropWhile (· == 0)) = []
    · rw [dropWhile_nil] at hz
      simpa using hz x (by simpa using hx)
    · exfalso
      have hh := List.head_dropWhile_not (p := fun x : UInt8 => x == 0) (l := l.reverse) hz
      have := h ((l.reverse.dropWhile (· == 0)).head hz) (by rw [List.mem_reverse]; exact List.head_mem hz)
      rw [this] at hh
      cases hh
  · intro h x hx
    rw [List.mem_reverse] at hx
    have := h x (by rw [← List.mem_reverse]; exact (List.dropWhile_sublist _).mem hx)
    simp [this]
end Towline.Tlv
