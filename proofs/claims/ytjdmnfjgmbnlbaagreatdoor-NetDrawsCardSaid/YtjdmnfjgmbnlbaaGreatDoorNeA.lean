/- Chapter 20: an endpoint that begins. -/
import Derived.Test.YtjdmnfjgmbnlbaaGreatDoorFol
namespace Go.Proofs.YtjdmnfjgmbnlbaaGreatDoor
open Go Go.RowKit Towline
set_option linter.unusedVariables false
set_option linter.unusedSimpArgs false
set_option maxRecDepth 20000
set_option maxHeartbeats 4000000
/-- Texts, as elements. -/
abbrev txF (l : List (List UInt8)) : Nat → List D := fun k => [.s (l.getD k [])]
abbrev txD (l : List (List UInt8)) : AVal := .d (.sl 1 l.length (txF l))
abbrev lentN : List (Nat × List Bool) := [(40, []), (23, [true, false])]
theorem newC_spec (s : List UInt8) (n : Nat) : PSpec Tryz.prog 38 [ns s, .eptr 1 1 (fun _ => [.i .i64 n]) 0 0] (· = nb ((s.length : Int) != n)) := by
  refine PSpec.run (tysOk) followsB Tryz.func38 (by decide) rfl Tryz.ntmps38 (Nat.le_of_ble_eq_true rfl) rfl fun w0 R0 hGw => ?_
  conv => whnf
  exact ⟨_, .refl _, rfl, rfl⟩
theorem clone_spec (l : List (List UInt8)) (hl : l.length ≤ 100) : PSpec Tryz.prog 39 [txD l] (· = txD l) := by
  refine PSpec.run (tysOk) followsB Tryz.func39 (by decide) rfl Tryz.ntmps39 (Nat.le_of_ble_eq_true rfl) rfl fun w0 R0 hGw => ?_
  conv => whnf
  intro b hb
  cases b with
  | true =>
    conv => whnf
    have h0 : l.length = 0 := by
      rcases Nat.eq_zero_or_pos l.length with h | h
      · exact h
      · cases hb h
    refine ⟨_, ?_, rfl, rfl⟩
    unfold txD
    rw [h0]
    exact .nil
  | false =>
    conv => whnf
    refine ⟨⟨rfl, by omega, by simp only [ty9]; omega⟩, ?_⟩
    conv => whnf
    refine ⟨by omega, _, .sl (by omega) fun k hk => ?_, rfl, rfl⟩
    simp [fcat]
theorem turnK_spec (l : List (List UInt8)) (port win st : Int) (key k : List UInt8) (now : Int) : LSpec Tryz.prog 40 [.ptr Z0 6, ns k, ni now]
    [(Z0, .box [txD l, n16 port, ns key, n32 win, n16 st, nb false, nnil, ni 0, nnil, nnil])]
    (fun r hl => r = .tup [] ∧ hl = [(Z0, .box [txD l, n16 port, ns key, n32 win, n16 st, nb false, .rsl 13 1 0 1, ni now, nnil, nnil]), (13, .row 9 1 1 fun _ => [.s k])]) := by
  refine LSpec.run (tysOk) followsB Tryz.func40 (by decide) rfl Tryz.ntmps40 (Nat.le_of_ble_eq_true rfl) rfl rfl fun w0 R0 Lo hGw => ?_
  conv => whnf
  refine ⟨⟨by omega, by omega, by simp only [ty9]; omega⟩, ?_⟩
  conv => whnf
  refine ⟨by first | omega | (simp only [Int.toNat_natCast]; omega) | (simp; done) | (simp; omega), ?_⟩
  conv => whnf
  refine ⟨_, _, .refl _, ?_, rfl, rfl⟩
  exact ⟨OLe.refl _, ⟨rfl, rfl, rfl, fun k hk => by obtain rfl : k = 0 := by omega
                                                    rfl⟩, trivial⟩
abbrev clN (n : Nat) : AVal := .fn 38 [.eptr 1 1 (fun _ => [.i .i64 n]) 0 0]
theorem index_spec (l : List (List UInt8)) (hl : l.length ≤ 100) (n : Nat) : PSpec Tryz.prog 62 [txD l, clN n] (fun r => ∃ i : Int, r = ni i ∧ (0 ≤ i ↔ ∃ s ∈ l, s.length ≠ n)) := by
  refine PSpec.run (tysOk) followsB Tryz.func62 (by decide) rfl Tryz.ntmps62 (Nat.le_of_ble_eq_true rfl) rfl fun w0 R0 hGw => ?_
  conv => whnf
  refine ALoop.intro tysOk followsB (fun j : {j : Nat // j ≤ l.length ∧ ∀ s ∈ l.take j, s.length = n} => ([(0, txD l), (1, clN n), (7, ni l.length), (8, ni j.1)], [])) (fun j => l.length - j.1) ⟨0, by omega, fun s hs => by simp at hs⟩ ⟨.refl _, .refl _, .refl _, .refl _, trivial⟩ ?_
  rintro ⟨j, hj, hall⟩
  dsimp only
  conv => whnf
  split <;> rename_i h1
  · have hlt : j < l.length := by have := of_decide_eq_true h1; omega
    conv => whnf
    refine ⟨by first | omega | (simp only [Int.toNat_natCast]; omega) | (simp; done) | (simp; omega), ?_⟩
    conv => whnf
    refine ⟨_, (newC_spec (l.getD (j : Int).toNat []) n), ?_⟩
    rintro q rfl
    conv => whnf
    have hget : l.getD (j : Int).toNat [] = l[j] := by simp [List.getD_eq_getElem?_getD, hlt]
    rw [hget]
    split <;> rename_i h2
    · conv => whnf
      refine ⟨_, .refl _, ⟨j, rfl, ⟨fun _ => ⟨l[j], List.getElem_mem hlt, fun e => ?_⟩, fun _ => by omega⟩⟩, rfl⟩
      rw [e] at h2
      simp at h2
    · conv => whnf
      refine ⟨by first | omega | (simp only [Int.toNat_natCast]; omega) | (simp; done) | (simp; omega), ?_⟩
      conv => whnf
      refine ⟨⟨j + 1, by omega, fun s hs => ?_⟩, by dsimp only; omega, .refl _, .refl _, .refl _, .refl _, trivial⟩
      rw [List.take_add_one, List.getElem?_eq_getElem hlt] at hs
      rcases List.mem_append.1 hs with hs | hs
      · exact hall s hs
      · obtain rfl : s = l[j] := by simpa using hs
        simp at h2
        omega
  · conv => whnf
    refine ⟨_, .refl _, ⟨-1, rfl, ⟨fun h => by omega, ?_⟩⟩, rfl⟩
    rintro ⟨s, hs, hne⟩
    exact absurd (hall s (by rw [List.take_of_length_le (by have := of_decide_eq_false h1; omega)]; exact hs)) hne
theorem contains_spec (l : List (List UInt8)) (hl : l.length ≤ 100) (n : Nat) : PSpec Tryz.prog 37 [txD l, clN n] (fun r => ∃ b : Bool, r = nb b ∧ (b = true ↔ ∃ s ∈ l, s.length ≠ n)) := by
  refine PSpec.run (tysOk) followsB Tryz.func37 (by decide) rfl Tryz.ntmps37 (Nat.le_of_ble_eq_true rfl) rfl fun w0 R0 hGw => ?_
  conv => whnf
  refine ⟨_, index_spec l hl n, ?_⟩
  rintro r ⟨i, rfl, hi⟩
  conv => whnf
  refine ⟨_, .refl _, ⟨_, rfl, ?_⟩, rfl⟩
  rw [← hi]
  simp
/-- An endpoint that begins, its key's row behind it. -/
abbrev epC (l : List (List UInt8)) (port : Int) (key : List UInt8) (win st : Int) (now : Int) (kl : AVal) : List AVal := [txD l, n16 port, ns key, n32 win, n16 st, nb false, kl, ni now, nnil, nnil]
abbrev cfA (l : List (List UInt8)) (port : Int) (key : List UInt8) (win st : Int) : AVal := .agg [txD l, n16 port, ns key, n32 win, n16 st]
abbrev TN : Tys := tysX false [] lentN []
theorem tysNOk : TysOk Tryz.prog TN := tysXOk _ _ _ _
theorem sockNew_spec (l : List (List UInt8)) (hl : l.length ≤ 100) (n : Nat) (hn : n = 4) (hne : l ≠ []) (hall : ∀ s ∈ l, s.length = n) (port : Int) (hp : port ≠ 0) (key : List UInt8) (win st now : Int) (h1 : 1 ≤ st) (h2 : st ≤ 16) :
    LSpec Tryz.prog 23 [cfA l port key win st, ni now] [] (fun r hl => r = .tup [.ptr 50 0, ni 0] ∧ hl = [(50, .box (epC l port key win st now (.rsl 58000 1 0 1))), (58000, .row 9 1 1 fun _ => [.s key])]) := by
  refine LSpec.run (tysNOk) followsB Tryz.func23 (by decide) rfl Tryz.ntmps23 (Nat.le_of_ble_eq_true rfl) rfl rfl fun w0 R0 Lo hGw => ?_
  conv => whnf
  have hl0 : l.length ≠ 0 := fun h => hne (List.length_eq_zero_iff.1 h)
  rw [show ((l.length : Int) == 0) = false from by simp; exact hne]
  conv => whnf
  rw [show (port == 0) = false from by simpa using hp]
  conv => whnf
  rw [show decide (st < 1) = false from decide_eq_false (by omega)]
  conv => whnf
  rw [show decide (st > 16) = false from decide_eq_false (by omega)]
  conv => whnf
  refine ⟨by first | omega | (simp only [Int.toNat_natCast]; omega) | (simp; done) | (simp; omega), ?_⟩
  conv => whnf
  have hget : l.getD (Int.toNat 0) [] = l[0] := by simp [List.getD_eq_getElem?_getD, show 0 < l.length by omega]
  have hlen : (l.getD (Int.toNat 0) []).length = n := by rw [hget]; exact hall _ (List.getElem_mem _)
  rw [hlen]
  rw [show ((n : Int) != 4) = false from by simp; omega]
  conv => whnf
  refine ⟨_, contains_spec l hl n, ?_⟩
  rintro r ⟨b, rfl, hb⟩
  obtain rfl : b = false := by
    cases b with
    | false => rfl
    | true => obtain ⟨s, hs, h⟩ := hb.1 rfl; exact absurd (hall s hs) h
  conv => whnf
  refine ⟨_, (clone_spec l hl), ?_⟩
  rintro q rfl
  conv => whnf
  refine ⟨_, _, (turnK_spec l port win st key key now), ?_⟩
  conv => whnf
  refine ⟨by kernel_rfl, ?_⟩
  conv => whnf
  refine ⟨_, _, .refl _, ?_, rfl, rfl⟩
  exact ⟨OLe.refl _, OLe.refl _, trivial⟩
end Go.Proofs.YtjdmnfjgmbnlbaaGreatDoor
