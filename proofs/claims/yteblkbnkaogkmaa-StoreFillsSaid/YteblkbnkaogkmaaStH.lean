/- The contracts in the form that the laws want; the law of steps. -/
import Derived.Test.YteblkbnkaogkmaaStG
namespace Go.Proofs.Yteblkbnkaogkmaa
open Go Towline Towline.Store
set_option linter.unusedVariables false
set_option maxRecDepth 20000
set_option maxHeartbeats 2000000
def pushS (l : List Msg) (a : Int) (nx : List Nat) (m : Msg) : List Msg := if pushE l a nx m = 0 then l ++ [m] else []
def pushA (l : List Msg) (a : Int) (nx : List Nat) (m : Msg) : Int := if pushE l a nx m = 0 then a else 0
def pushN (l : List Msg) (a : Int) (nx : List Nat) (m : Msg) : List Nat := if pushE l a nx m = 0 then nx else []
theorem push_form (l : List Msg) (a : Int) (nx : List Nat) (m : Msg) : (AVal.tup [if pushE l a nx m = 0 then stA (l ++ [m]) a nx else stA [] 0 [], vi (pushE l a nx m)]) = .tup [stA (pushS l a nx m) (pushA l a nx m) (pushN l a nx m), vi (pushE l a nx m)] := by
  unfold pushS pushA pushN; split <;> rfl
theorem push_spec2 (l : List Msg) (a : Int) (nx : List Nat) (m : Msg) (h1 : total l ≤ 2 ^ 40) (h2 : -2 ^ 40 ≤ a) (h3 : a ≤ 2 ^ 40) (h4 : l.length ≤ 2 ^ 40) (h5 : m.stream ≤ 65535) :
    PSpec Try.prog 10 [stA l a nx, msgA m] (· = .tup [stA (pushS l a nx m) (pushA l a nx m) (pushN l a nx m), vi (pushE l a nx m)]) := by
  rw [← push_form]; exact push_spec l a nx m h1 h2 h3 h4 h5
theorem rpush_spec2 (l : List Msg) (a : Int) (nx : List Nat) (m : Msg) (h1 : total l ≤ 2 ^ 40) (h2 : -2 ^ 40 ≤ a) (h3 : a ≤ 2 ^ 40) (h4 : l.length ≤ 2 ^ 40) (h5 : m.stream ≤ 65535) :
    PSpec Try.prog 17 [stA l a nx, msgA m] (· = .tup [stA (pushS l a nx m) (pushA l a nx m) (pushN l a nx m), vi (pushE l a nx m)]) := by
  rw [← push_form]; exact rpush_spec l a nx m h1 h2 h3 h4 h5
/-- A store that is right, as the laws are told. -/
structure Ok (l : List Msg) (a : Nat) (nx : List Nat) : Prop where
  msg : ∀ m ∈ l, m.text ≠ [] ∧ m.stream < nx.length ∧ m.stream ≤ 65535 ∧ m.text.length ≤ 21000
  head : ∀ m r, l = m :: r → a < m.text.length
  none : l = [] → a = 0
  len : l.length ≤ 40
  nlen : nx.length ≤ 40
def takeS (l : List Msg) (a : Nat) (nx : List Nat) (most : Int) : S2 := match l with
  | [] => ⟨[], a, nx⟩
  | m :: r => after m r a nx most
def takeP (l : List Msg) (a : Nat) (nx : List Nat) (most : Int) : Pc := match l with
  | [] => ⟨0, false, false, false, 0, 0, 0, []⟩
  | m :: r => pieceOf m a nx most
def takeI : List Msg → Int
  | [] => 0
  | m :: _ => m.id
def takeB : List Msg → Bool
  | [] => false
  | _ :: _ => true
theorem take_any {l : List Msg} {a : Nat} {nx : List Nat} (h : Ok l a nx) (most : Int) : PSpec Try.prog 11 [stA l a nx, vi most] (· = .tup [stA (takeS l a nx most).l (takeS l a nx most).a (takeS l a nx most).next, pcA (takeP l a nx most), vi (takeI l), vb (takeB l)]) := by
  cases l with
  | nil => exact take_none a nx most
  | cons m r =>
    obtain ⟨h1, h2, h3, h4⟩ := h.msg m (by simp)
    have h5 := h.len
    have h6 := h.nlen
    rw [List.length_cons] at h5
    exact take_spec m r a nx most h2 h3 (h.head m r rfl) (by omega) (by omega) (by omega)
theorem rtake_any {l : List Msg} {a : Nat} {nx : List Nat} (h : Ok l a nx) (most : Int) : PSpec Try.prog 21 [stA l a nx, vi most] (· = .tup [stA (takeS l a nx most).l (takeS l a nx most).a (takeS l a nx most).next, pcA (takeP l a nx most), vi (takeI l), vb (takeB l)]) := by
  cases l with
  | nil => exact rtake_none a nx most
  | cons m r =>
    obtain ⟨h1, h2, h3, h4⟩ := h.msg m (by simp)
    have h5 := h.len
    have h6 := h.nlen
    rw [List.length_cons] at h5
    exact rtake_spec m r a nx most h2 h3 (h.head m r rfl) (by omega) (by omega) (by omega)
def newL (n : Int) : List Nat := if 1 ≤ n ∧ n ≤ 16 then List.replicate n.toNat 0 else []
def newE (n : Int) : Int := if 1 ≤ n ∧ n ≤ 16 then 0 else 1
theorem new_any (n : Int) : PSpec Try.prog 9 [vi n] (· = .tup [stA [] 0 (newL n), vi (newE n)]) := by
  by_cases h : 1 ≤ n ∧ n ≤ 16
  · obtain ⟨k, rfl⟩ := Int.eq_ofNat_of_zero_le (show 0 ≤ n from by omega)
    rw [newL, newE, if_pos h, if_pos h]
    exact new_ok k (by omega) (by omega)
  · rw [newL, newE, if_neg h, if_neg h]
    exact new_bad n (by omega)
theorem rnew_any (n : Int) : PSpec Try.prog 22 [vi n] (· = .tup [stA [] 0 (newL n), vi (newE n)]) := by
  by_cases h : 1 ≤ n ∧ n ≤ 16
  · obtain ⟨k, rfl⟩ := Int.eq_ofNat_of_zero_le (show 0 ≤ n from by omega)
    rw [newL, newE, if_pos h, if_pos h]
    exact rnew_ok k (by omega) (by omega)
  · rw [newL, newE, if_neg h, if_neg h]
    exact rnew_bad n (by omega)
theorem same_refl (l : List Msg) (a : Int) (x : List Nat) (h4 : l.length ≤ 2 ^ 40) (h5 : x.length ≤ 2 ^ 40) : PSpec Try.prog 23 [stA l a x, stA l a x] (· = vb true) := by
  have := same_spec l l a a x x h4 h5
  simpa using this
theorem sameInts_refl (a : List Int) (h : a.length ≤ 2 ^ 40) : PSpec Try.prog 24 [.d (slT 1 encI a), .d (slT 1 encI a)] (· = vb true) := by
  have := sameInts_spec a a h
  simpa using this
end Go.Proofs.Yteblkbnkaogkmaa
