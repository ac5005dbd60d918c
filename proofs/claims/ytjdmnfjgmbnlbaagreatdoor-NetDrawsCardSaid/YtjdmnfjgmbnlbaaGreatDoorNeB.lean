/- Chapter 21: a net: whose an address is, endpoints that are added. -/
import Derived.Test.YtjdmnfjgmbnlbaaGreatDoorNeA
namespace Go.Proofs.YtjdmnfjgmbnlbaaGreatDoor
open Go Go.RowKit Towline
set_option linter.unusedVariables false
set_option linter.unusedSimpArgs false
set_option maxRecDepth 20000
set_option maxHeartbeats 4000000
/-- Whose addresses are. -/
abbrev Own := List (List UInt8 × Nat)
def ownM (O : Own) : List (D × D) := O.map fun x => (.s x.1, .i .i64 x.2)
def ofind (a : List UInt8) : Own → Nat → Option (Nat × Nat)
  | [], _ => none
  | (b, n) :: r, i => match a == b with | true => some (i, n) | false => ofind a r (i + 1)
def oput (O : Own) (a : List UInt8) (n : Nat) : Own := match ofind a O 0 with | some (i, _) => O.set i (a, n) | none => O ++ [(a, n)]
def olook (O : Own) (a : List UInt8) : Option Nat := (ofind a O 0).map (·.2)
abbrev oD (f : Option (Nat × Nat)) : Option (Nat × D) := f.map fun x => (x.1, .i .i64 x.2)
theorem findD0_own (a : List UInt8) : ∀ (O : Own) (i : Nat), findD0 (.s a) (ownM O) i = some (oD (ofind a O i))
  | [], i => rfl
  | (b, n) :: r, i => by
    show (match some (a == b) with | some true => some (some (i, D.i .i64 n)) | some false => findD0 (.s a) (ownM r) (i + 1) | none => none) = _
    unfold ofind
    cases a == b with
    | true => rfl
    | false => exact findD0_own a r (i + 1)
theorem findD_own (a : List UInt8) (O : Own) : findD (.s a) (ownM O) = some (oD (ofind a O 0)) := by
  unfold findD
  exact findD0_own a O 0
theorem putM_own (a : List UInt8) (O : Own) (n : Nat) : putM (oD (ofind a O 0)) (.s a) (.i .i64 n) (ownM O) = ownM (oput O a n) := by
  unfold putM oput
  cases ofind a O 0 with
  | none => simp [oD, ownM]
  | some p => simp [oD, ownM, List.map_set]
theorem ofind_shift (a : List UInt8) : ∀ (O : Own) (i : Nat), ofind a O (i + 1) = (ofind a O i).map fun x => (x.1 + 1, x.2)
  | [], i => rfl
  | (b, n) :: r, i => by
    unfold ofind
    cases a == b with
    | true => rfl
    | false => exact ofind_shift a r (i + 1)
theorem ofind_cons (a b : List UInt8) (n : Nat) (r : Own) (i : Nat) : ofind a ((b, n) :: r) i = if a = b then some (i, n) else ofind a r (i + 1) := by
  show (match a == b with | true => some (i, n) | false => ofind a r (i + 1)) = _
  by_cases h : a = b
  · simp [h]
  · have : (a == b) = false := by simpa using h
    rw [this, if_neg h]
theorem olook_cons (b : List UInt8) (n : Nat) (r : Own) (a : List UInt8) : olook ((b, n) :: r) a = if a = b then some n else olook r a := by
  unfold olook
  rw [ofind_cons]
  split
  · rfl
  · rw [ofind_shift]
    cases ofind a r 0 <;> rfl
theorem oput_cons (b : List UInt8) (m : Nat) (r : Own) (a : List UInt8) (n : Nat) : oput ((b, m) :: r) a n = if a = b then (a, n) :: r else (b, m) :: oput r a n := by
  unfold oput
  rw [ofind_cons]
  by_cases h : a = b
  · rw [if_pos h, if_pos h]; rfl
  · rw [if_neg h, if_neg h, ofind_shift]
    cases ofind a r 0 <;> rfl
theorem olook_oput (a : List UInt8) (n : Nat) (b : List UInt8) : ∀ O : Own, olook (oput O a n) b = if b = a then some n else olook O b
  | [] => by
    show olook [(a, n)] b = _
    rw [olook_cons]
  | (c, m) :: r => by
    rw [oput_cons]
    split
    · rename_i h
      subst h
      rw [olook_cons, olook_cons]
      split <;> rfl
    · rename_i h
      rw [olook_cons, olook_oput a n b r, olook_cons]
      by_cases h1 : b = c
      · rw [if_pos h1, if_pos h1, if_neg (by rw [h1]; exact fun e => h e.symm)]
      · rw [if_neg h1, if_neg h1]
/-- Whose an address is, as the program says it. -/
def ownI (o : Option Nat) : Int := match o with | some n => n | none => -1
theorem ofind_none {a : List UInt8} {O : Own} : ofind a O 0 = none ↔ olook O a = none := by unfold olook; cases ofind a O 0 <;> simp
/-- The cells of a net. -/
abbrev netC (seed : List UInt8) (dr now : Int) (ends : AVal) (ow wi : Nat) (last : Int) : List AVal := [ns seed, ni dr, ni now, ends, .mref ow, .mref wi, ni last]
abbrev tgN : List Nat := [7000000000 + 58, 4000000000 + 59, 3000000000 + 38]
abbrev TNg : Tys := tysX false [] lentN tgN
theorem tysNgOk : TysOk Tryz.prog TNg := tysXOk _ _ _ _
theorem netNew_spec (seed : List UInt8) : LSpec Tryz.prog 7 [ns seed] [] (fun r hl => r = .ptr 7 0 ∧ hl = [(7, .box (netC seed 0 0 nnil 4 5 0)), (4, .dmp []), (5, .mp [])]) := by
  refine LSpec.run (tysNgOk) followsB Tryz.func7 (by decide) rfl Tryz.ntmps7 (Nat.le_of_ble_eq_true rfl) rfl rfl fun w0 R0 Lo hGw => ?_
  conv => whnf
  refine ⟨_, _, .refl _, ?_, rfl, rfl⟩
  exact ⟨OLe.refl _, OLe.refl _, OLe.refl _, trivial⟩
/-- A net, lent: its endpoints are pointers that nobody turns. -/
abbrev netH (seed : List UInt8) (dr now : Int) (m : Nat) (ef : Nat → List D) (O : Own) (last : Int) : Heap :=
  [(Z0, .box (netC seed dr now (.rsl Z1 1 0 m) Z2 Z3 last)), (Z1, .row 38 1 m ef), (Z2, .dmp (ownM O)), (Z3, .mp [])]
theorem owner_spec (seed : List UInt8) (dr now : Int) (m : Nat) (ef : Nat → List D) (O : Own) (last : Int) (a : List UInt8) : LSpec Tryz.prog 9 [.ptr Z0 0, ns a] (netH seed dr now m ef O last)
    (fun r hl => r = ni (ownI (olook O a)) ∧ hl = netH seed dr now m ef O last) := by
  refine LSpec.run (tysNgOk) followsB Tryz.func9 (by decide) rfl Tryz.ntmps9 (Nat.le_of_ble_eq_true rfl) rfl rfl fun w0 R0 Lo hGw => ?_
  conv => whnf
  cases hf : ofind a O 0 with
  | none =>
    refine ⟨none, by rw [findD_own, hf]; rfl, ?_⟩
    conv => whnf
    refine ⟨_, _, .refl _, ?_, ?_, rfl⟩
    exact ⟨OLe.refl _, OLe.refl _, OLe.refl _, OLe.refl _, trivial⟩
    unfold olook
    rw [hf]
    rfl
  | some p =>
    refine ⟨some (p.1, .i .i64 p.2), by rw [findD_own, hf]; rfl, ?_⟩
    conv => whnf
    refine ⟨_, _, .refl _, ?_, ?_, rfl⟩
    exact ⟨OLe.refl _, OLe.refl _, OLe.refl _, OLe.refl _, trivial⟩
    unfold olook
    rw [hf]
    rfl
theorem netEnd_spec (seed : List UInt8) (dr now : Int) (m : Nat) (ds : Nat → List D) (O : Own) (last : Int) (i : Int) : LSpec Tryz.prog 10 [.ptr Z0 0, ni i] (netH seed dr now m (fun k => [.pt (ds k)]) O last)
    (fun r hl => r = (if 0 ≤ i ∧ i < m then .d (.pt (ds i.toNat)) else nptr) ∧ hl = netH seed dr now m (fun k => [.pt (ds k)]) O last) := by
  refine LSpec.run (tysNgOk) followsB Tryz.func10 (by decide) rfl Tryz.ntmps10 (Nat.le_of_ble_eq_true rfl) rfl rfl fun w0 R0 Lo hGw => ?_
  conv => whnf
  by_cases h0 : i < 0
  · rw [decide_eq_true h0]
    conv => whnf
    refine ⟨nptr, _, .refl _, ?_, by rw [if_neg (by omega)], rfl⟩
    exact ⟨OLe.refl _, OLe.refl _, OLe.refl _, OLe.refl _, trivial⟩
  · rw [decide_eq_false h0]
    conv => whnf
    by_cases h1 : (m : Int) ≤ i
    · rw [decide_eq_true h1]
      conv => whnf
      refine ⟨nptr, _, .refl _, ?_, by rw [if_neg (by omega)], rfl⟩
      exact ⟨OLe.refl _, OLe.refl _, OLe.refl _, OLe.refl _, trivial⟩
    · rw [decide_eq_false h1]
      conv => whnf
      refine ⟨by first | omega | (simp only [Int.toNat_natCast]; omega) | (simp; done) | (simp; omega), ?_⟩
      conv => whnf
      refine ⟨by first | omega | (simp only [Int.toNat_natCast]; omega) | (simp; done) | (simp; omega), ?_⟩
      conv => whnf
      refine ⟨.d (.pt (ds (0 + i.toNat))), _, .refl _, ?_, by rw [if_pos (by omega), Nat.zero_add], rfl⟩
      exact ⟨OLe.refl _, OLe.refl _, OLe.refl _, OLe.refl _, trivial⟩
end Go.Proofs.YtjdmnfjgmbnlbaaGreatDoor
