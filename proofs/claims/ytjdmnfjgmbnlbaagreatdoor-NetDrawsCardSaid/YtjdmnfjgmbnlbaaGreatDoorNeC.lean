/- Chapter 21: an endpoint is added to a net. -/
import Derived.Test.YtjdmnfjgmbnlbaaGreatDoorNeB
namespace Go.Proofs.YtjdmnfjgmbnlbaaGreatDoor
open Go Go.RowKit Towline
set_option linter.unusedVariables false
set_option linter.unusedSimpArgs false
set_option maxRecDepth 20000
set_option maxHeartbeats 4000000
abbrev epD (l : List (List UInt8)) (port : Int) (key : List UInt8) (win st now : Int) : List D :=
  [.sl 1 l.length (txF l), .i .u16 port, .s key, .i .u32 win, .i .u16 st, .b false, .sl 1 1 fun _ => [.s key], .i .i64 now, .v (.slice none 0 0), .v (.slice none 0 0)]
def oputs (O : Own) (m : Nat) (l : List (List UInt8)) : Own := l.foldl (fun O s => oput O s m) O
theorem oputs_take (O : Own) (m : Nat) (l : List (List UInt8)) (j : Nat) (h : j < l.length) : oputs O m (l.take (j + 1)) = oput (oputs O m (l.take j)) l[j] m := by
  unfold oputs
  rw [List.take_add_one, List.getElem?_eq_getElem h, List.foldl_append]
  rfl
abbrev addE (m : Nat) (ef : Nat → List D) (d : List D) : Nat → List D := fun k => if k < m then ef k else [.pt d]
theorem add_full (seed : List UInt8) (dr now : Int) (m : Nat) (hm : 8 ≤ m) (ef : Nat → List D) (O : Own) (last : Int) (l : List (List UInt8)) (port : Int) (key : List UInt8) (win st : Int) : LSpec Tryz.prog 8 [.ptr Z0 0, cfA l port key win st] (netH seed dr now m ef O last)
    (fun r hl => r = .tup [ni 0, ni 10] ∧ hl = netH seed dr now m ef O last) := by
  refine LSpec.run (tysNgOk) followsB Tryz.func8 (by decide) rfl Tryz.ntmps8 (Nat.le_of_ble_eq_true rfl) rfl rfl fun w0 R0 Lo hGw => ?_
  conv => whnf
  rw [decide_eq_true (show (8 : Int) ≤ m by omega)]
  conv => whnf
  refine ⟨_, _, .refl _, ?_, rfl, rfl⟩
  exact ⟨OLe.refl _, OLe.refl _, OLe.refl _, OLe.refl _, trivial⟩
/-- The loop that looks whether an address is somebody's. -/
theorem add_there (seed : List UInt8) (dr now : Int) (m : Nat) (hm : m < 8) (ef : Nat → List D) (O : Own) (last : Int) (l : List (List UInt8)) (hl : l.length ≤ 100) (hth : ∃ s ∈ l, olook O s ≠ none) (port : Int) (key : List UInt8) (win st : Int) : LSpec Tryz.prog 8 [.ptr Z0 0, cfA l port key win st] (netH seed dr now m ef O last)
    (fun r hl => r = .tup [ni 0, ni 9] ∧ hl = netH seed dr now m ef O last) := by
  refine LSpec.run (tysNgOk) followsB Tryz.func8 (by decide) rfl Tryz.ntmps8 (Nat.le_of_ble_eq_true rfl) rfl rfl fun w0 R0 Lo hGw => ?_
  conv => whnf
  rw [decide_eq_false (show ¬ (8 : Int) ≤ m by omega)]
  conv => whnf
  refine ALoop.intro tysNgOk followsB (fun j : {j : Nat // j ≤ l.length ∧ ∀ s ∈ l.take j, olook O s = none} => ([(0, .ptr Z0 0), (3, .ptr 3 0), (21, txD l), (22, ni l.length), (23, ni j.1)], (3, .box [txD l, n16 port, ns key, n32 win, n16 st]) :: netH seed dr now m ef O last)) (fun j => l.length - j.1) ⟨0, by omega, fun s hs => by simp at hs⟩ ?_ ?_
  · exact ⟨.refl _, .refl _, .refl _, .refl _, .refl _, OLe.refl _, OLe.refl _, OLe.refl _, OLe.refl _, OLe.refl _, trivial⟩
  rintro ⟨j, hj, hall⟩
  dsimp only
  conv => whnf
  split <;> rename_i h1
  · have hlt : j < l.length := by have := of_decide_eq_true h1; omega
    conv => whnf
    refine ⟨by first | omega | (simp only [Int.toNat_natCast]; omega) | (simp; done) | (simp; omega), ?_⟩
    conv => whnf
    have hget : l.getD (j : Int).toNat [] = l[j] := by simp [List.getD_eq_getElem?_getD, hlt]
    rw [hget]
    cases hf : ofind l[j] O 0 with
    | none =>
      refine ⟨none, by rw [findD_own, hf]; rfl, ?_⟩
      conv => whnf
      refine ⟨by first | omega | (simp only [Int.toNat_natCast]; omega) | (simp; done) | (simp; omega), ?_⟩
      conv => whnf
      refine ⟨⟨j + 1, by omega, fun s hs => ?_⟩, by dsimp only; omega, .refl _, .refl _, .refl _, .refl _, .refl _, OLe.refl _, OLe.refl _, OLe.refl _, OLe.refl _, OLe.refl _, trivial⟩
      rw [List.take_add_one, List.getElem?_eq_getElem hlt] at hs
      rcases List.mem_append.1 hs with hs | hs
      · exact hall s hs
      · obtain rfl : s = l[j] := by simpa using hs
        exact ofind_none.1 hf
    | some p =>
      refine ⟨some (p.1, .i .i64 p.2), by rw [findD_own, hf]; rfl, ?_⟩
      conv => whnf
      refine ⟨_, _, .refl _, ?_, rfl, rfl⟩
      exact ⟨OLe.refl _, OLe.refl _, OLe.refl _, OLe.refl _, trivial⟩
  · exfalso
    obtain ⟨s, hs, hne⟩ := hth
    exact hne (hall s (by rw [List.take_of_length_le (by have := of_decide_eq_false h1; omega)]; exact hs))
theorem add_ok (seed : List UInt8) (dr now : Int) (m : Nat) (hm : m < 8) (ef : Nat → List D) (O : Own) (last : Int) (l : List (List UInt8)) (hl : l.length ≤ 100) (hne : l ≠ []) (hall : ∀ s ∈ l, s.length = 4) (hfree : ∀ s ∈ l, olook O s = none) (port : Int) (hp : port ≠ 0) (key : List UInt8) (win st : Int) (h1 : 1 ≤ st) (h2 : st ≤ 16) :
    LSpec Tryz.prog 8 [.ptr Z0 0, cfA l port key win st] (netH seed dr now m ef O last)
    (fun r hl' => r = .tup [ni m, ni 0] ∧ hl' = [(Z0, .box (netC seed dr now (.rsl 75 1 0 (m + 1)) Z2 Z3 last)), (75, .row 38 1 (m + 1) (addE m ef (epD l port key win st now))), (Z2, .dmp (ownM (oputs O m l))), (Z3, .mp [])]) := by
  refine LSpec.run (tysNgOk) followsB Tryz.func8 (by decide) rfl Tryz.ntmps8 (Nat.le_of_ble_eq_true rfl) rfl rfl fun w0 R0 Lo hGw => ?_
  conv => whnf
  rw [decide_eq_false (show ¬ (8 : Int) ≤ m by omega)]
  conv => whnf
  refine ALoop.intro tysNgOk followsB (fun j : {j : Nat // j ≤ l.length} => ([(0, .ptr Z0 0), (3, .ptr 3 0), (21, txD l), (22, ni l.length), (23, ni j.1)], (3, .box [txD l, n16 port, ns key, n32 win, n16 st]) :: netH seed dr now m ef O last)) (fun j => l.length - j.1) ⟨0, by omega⟩ ?_ ?_
  · exact ⟨.refl _, .refl _, .refl _, .refl _, .refl _, OLe.refl _, OLe.refl _, OLe.refl _, OLe.refl _, OLe.refl _, trivial⟩
  rintro ⟨j, hj⟩
  dsimp only
  conv => whnf
  split <;> rename_i h3
  · have hlt : j < l.length := by have := of_decide_eq_true h3; omega
    conv => whnf
    refine ⟨by first | omega | (simp only [Int.toNat_natCast]; omega) | (simp; done) | (simp; omega), ?_⟩
    conv => whnf
    have hget : l.getD (j : Int).toNat [] = l[j] := by simp [List.getD_eq_getElem?_getD, hlt]
    rw [hget]
    have hf : ofind l[j] O 0 = none := ofind_none.2 (hfree _ (List.getElem_mem hlt))
    refine ⟨none, by rw [findD_own, hf]; rfl, ?_⟩
    conv => whnf
    refine ⟨by first | omega | (simp only [Int.toNat_natCast]; omega) | (simp; done) | (simp; omega), ?_⟩
    conv => whnf
    exact ⟨⟨j + 1, by omega⟩, by dsimp only; omega, .refl _, .refl _, .refl _, .refl _, .refl _, OLe.refl _, OLe.refl _, OLe.refl _, OLe.refl _, OLe.refl _, trivial⟩
  · conv => whnf
    refine ⟨_, _, (sockNew_spec l hl 4 rfl hne hall port hp key win st now h1 h2), ?_⟩
    conv => whnf
    refine ⟨by kernel_rfl, ?_⟩
    conv => whnf
    refine ALoop.pub 45000 6 45001 rfl rfl rfl (by omega) rfl rfl ?_
    refine ALoop.frzB 10 ?_
    conv => whnf
    refine ALoop.intro tysNgOk followsB (fun j : {j : Nat // j ≤ l.length} => ([(0, .ptr Z0 0), (10, .d (.pt (epD l port key win st now))), (51, txD l), (52, ni l.length), (53, ni j.1)], netH seed dr now m ef (oputs O m (l.take j.1)) last)) (fun j => l.length - j.1) ⟨0, by omega⟩ ?_ ?_
    · exact ⟨.refl _, .refl _, .refl _, .refl _, .refl _, OLe.refl _, OLe.refl _, OLe.refl _, OLe.refl _, trivial⟩
    rintro ⟨j, hj⟩
    dsimp only
    conv => whnf
    split <;> rename_i h4
    · have hlt : j < l.length := by have := of_decide_eq_true h4; omega
      conv => whnf
      refine ⟨by first | omega | (simp only [Int.toNat_natCast]; omega) | (simp; done) | (simp; omega), ?_⟩
      conv => whnf
      have hget : l.getD (j : Int).toNat [] = l[j] := by simp [List.getD_eq_getElem?_getD, hlt]
      rw [hget]
      refine ⟨_, findD_own _ _, _, putM_own _ _ _, ?_⟩
      conv => whnf
      refine ⟨by kernel_rfl, ?_⟩
      conv => whnf
      refine ⟨by first | omega | (simp only [Int.toNat_natCast]; omega) | (simp; done) | (simp; omega), ?_⟩
      conv => whnf
      refine ⟨⟨j + 1, by omega⟩, by dsimp only; omega, .refl _, .refl _, .refl _, .refl _, .refl _, OLe.refl _, OLe.refl _, ?_, OLe.refl _, trivial⟩
      show ownM _ = ownM _
      rw [oputs_take O m l j hlt]
    · have hj' : l.take j = l := List.take_of_length_le (by have := of_decide_eq_false h4; omega)
      rw [hj']
      conv => whnf
      refine ⟨⟨rfl, by omega, by simp only [ty38]; omega⟩, ?_⟩
      conv => whnf
      refine ⟨by first | omega | (simp only [Int.toNat_natCast]; omega) | (simp; done) | (simp; omega), ?_⟩
      conv => whnf
      refine ⟨.tup [ni m, ni 0], _, .tup ?_, ?_, rfl, rfl⟩
      · exact ⟨.of_eq (by show ni (((m + 1 : Nat) : Int) - 1) = ni m; congr 2; omega), .refl _, trivial⟩
      refine ⟨OLe.refl _, ⟨rfl, rfl, rfl, fun k hk => ?_⟩, OLe.refl _, OLe.refl _, trivial⟩
      unfold addE fcat
      split
      · rfl
      · obtain rfl : k = m := by omega
        simp
end Go.Proofs.YtjdmnfjgmbnlbaaGreatDoor
