/- Chapter 5: headers are right, datagrams are built: contracts. -/
import Derived.Test.YtmknfobhmnolmaaDoorIpE
namespace Go.Proofs.YtmknfobhmnolmaaDoor
open Go Go.RowKit Towline Towline.Ip
set_option linter.unusedVariables false
set_option linter.unusedSimpArgs false
set_option maxRecDepth 20000
set_option maxHeartbeats 4000000
def encH (h : Hd) : List D := [.i .i64 h.ver, .i .i64 h.hops, .i .i64 h.mark, .s h.from_, .s h.to_]
def hA (h : Hd) : AVal := .agg ((encH h).map .d)
theorem right5_spec (h : Hd) : PSpec Tryd.prog 13 [hA h] (· = tvb (rightH h)) := by
  have fin : ∀ b : Bool, (b = true ↔ OkH h) → b = rightH h := fun b hb => by
    unfold rightH
    by_cases hk : OkH h
    · rw [hb.2 hk, decide_eq_true hk]
    · rw [decide_eq_false hk]
      cases b with
      | false => rfl
      | true => exact absurd (hb.1 rfl) hk
  refine PSpec.run (tysOk) followsB Tryd.func13 (by decide) rfl Tryd.ntmps13 (Nat.le_of_ble_eq_true rfl) rfl fun w0 R0 hG => ?_
  conv => whnf
  split <;> rename_i g1
  · conv => whnf
    split <;> rename_i g2
    · conv => whnf
      split <;> rename_i g3
      · conv => whnf
        split <;> rename_i g4
        · conv => whnf
          split <;> rename_i g5
          · conv => whnf
            split <;> rename_i g6
            · conv => whnf
              exact ⟨_, .refl _, congrArg tvb (fin _ (by simp only [beq_iff_eq, beq_eq_false_iff_ne, decide_eq_true_eq, decide_eq_false_iff_not, ne_eq, OkH, Bool.false_eq_true, false_iff] at *; omega)), rfl⟩
            · conv => whnf
              exact ⟨_, .refl _, congrArg tvb (fin _ (by simp only [beq_iff_eq, beq_eq_false_iff_ne, decide_eq_true_eq, decide_eq_false_iff_not, ne_eq, OkH, Bool.false_eq_true, false_iff] at *; omega)), rfl⟩
          · conv => whnf
            exact ⟨_, .refl _, congrArg tvb (fin _ (by simp only [beq_iff_eq, beq_eq_false_iff_ne, decide_eq_true_eq, decide_eq_false_iff_not, ne_eq, OkH, Bool.false_eq_true, false_iff] at *; omega)), rfl⟩
        · conv => whnf
          exact ⟨_, .refl _, congrArg tvb (fin _ (by simp only [beq_iff_eq, beq_eq_false_iff_ne, decide_eq_true_eq, decide_eq_false_iff_not, ne_eq, OkH, Bool.false_eq_true, false_iff] at *; omega)), rfl⟩
      · conv => whnf
        exact ⟨_, .refl _, congrArg tvb (fin _ (by simp only [beq_iff_eq, beq_eq_false_iff_ne, decide_eq_true_eq, decide_eq_false_iff_not, ne_eq, OkH, Bool.false_eq_true, false_iff] at *; omega)), rfl⟩
    · conv => whnf
      exact ⟨_, .refl _, congrArg tvb (fin _ (by simp only [beq_iff_eq, beq_eq_false_iff_ne, decide_eq_true_eq, decide_eq_false_iff_not, ne_eq, OkH, Bool.false_eq_true, false_iff] at *; omega)), rfl⟩
  · conv => whnf
    split <;> rename_i g0
    · conv => whnf
      split <;> rename_i g2
      · conv => whnf
        split <;> rename_i g3
        · conv => whnf
          split <;> rename_i g4
          · conv => whnf
            split <;> rename_i g5
            · conv => whnf
              split <;> rename_i g6
              · conv => whnf
                exact ⟨_, .refl _, congrArg tvb (fin _ (by simp only [beq_iff_eq, beq_eq_false_iff_ne, decide_eq_true_eq, decide_eq_false_iff_not, ne_eq, OkH, Bool.false_eq_true, false_iff] at *; omega)), rfl⟩
              · conv => whnf
                exact ⟨_, .refl _, congrArg tvb (fin _ (by simp only [beq_iff_eq, beq_eq_false_iff_ne, decide_eq_true_eq, decide_eq_false_iff_not, ne_eq, OkH, Bool.false_eq_true, false_iff] at *; omega)), rfl⟩
            · conv => whnf
              exact ⟨_, .refl _, congrArg tvb (fin _ (by simp only [beq_iff_eq, beq_eq_false_iff_ne, decide_eq_true_eq, decide_eq_false_iff_not, ne_eq, OkH, Bool.false_eq_true, false_iff] at *; omega)), rfl⟩
          · conv => whnf
            exact ⟨_, .refl _, congrArg tvb (fin _ (by simp only [beq_iff_eq, beq_eq_false_iff_ne, decide_eq_true_eq, decide_eq_false_iff_not, ne_eq, OkH, Bool.false_eq_true, false_iff] at *; omega)), rfl⟩
        · conv => whnf
          exact ⟨_, .refl _, congrArg tvb (fin _ (by simp only [beq_iff_eq, beq_eq_false_iff_ne, decide_eq_true_eq, decide_eq_false_iff_not, ne_eq, OkH, Bool.false_eq_true, false_iff] at *; omega)), rfl⟩
      · conv => whnf
        exact ⟨_, .refl _, congrArg tvb (fin _ (by simp only [beq_iff_eq, beq_eq_false_iff_ne, decide_eq_true_eq, decide_eq_false_iff_not, ne_eq, OkH, Bool.false_eq_true, false_iff] at *; omega)), rfl⟩
    · conv => whnf
      exact ⟨_, .refl _, congrArg tvb (fin _ (by simp only [beq_iff_eq, beq_eq_false_iff_ne, decide_eq_true_eq, decide_eq_false_iff_not, ne_eq, OkH, Bool.false_eq_true, false_iff] at *; omega)), rfl⟩
theorem fcat_bytes (s t : List UInt8) (k : Nat) (hk : k < s.length + t.length) : fcat (bytesF s) s.length (bytesF t) k = bytesF (s ++ t) k := by
  unfold fcat bytesF
  split
  · rename_i h
    rw [List.getD_eq_getElem?_getD, List.getD_eq_getElem?_getD, List.getElem?_append_left h]
  · rename_i h
    rw [List.getD_eq_getElem?_getD, List.getD_eq_getElem?_getD, List.getElem?_append_right (by omega)]
theorem fcat_congr {f f' g g' : Nat → List D} {n m : Nat} (h1 : ∀ k, k < n → f k = f' k) (h2 : ∀ k, k < m → g k = g' k) (k : Nat) (hk : k < n + m) : fcat f n g k = fcat f' n g' k := by
  unfold fcat
  split
  · exact h1 k (by omega)
  · exact h2 _ (by omega)
theorem app1 {s : List UInt8} {f : Nat → List D} {n : Nat} (hn : s.length = n) (hf : ∀ k, k < n → f k = bytesF s k) (m : Nat) {g : Nat → List D} (hg : g 0 = [.i .u8 (IntKind.u8.wrap (m : Int))]) (k : Nat) (hk : k < n + 1) : fcat f n g k = bytesF (s ++ [UInt8.ofNat m]) k := by
  subst hn
  refine (fcat_congr hf (g' := bytesF [UInt8.ofNat m]) (m := 1) (fun j hj => ?_) k hk).trans (fcat_bytes s [UInt8.ofNat m] k hk)
  obtain rfl : j = 0 := by omega
  rw [hg, wrap8]
  rfl
theorem shrK (n : Nat) (e : Int) (m : Nat) (h : (2 : Int) ^ min e.toNat IntKind.i64.bits = m) : shrOp .i64 (n : Int) e = ((n / m : Nat) : Int) := by
  unfold shrOp
  rw [h, Int.fdiv_eq_ediv_of_nonneg _ (Int.natCast_nonneg m)]
  rfl
/-- n in k bytes. -/
def beL (k n : Nat) : List UInt8 := match k with | 2 => [UInt8.ofNat (n / 256), UInt8.ofNat n] | _ => [UInt8.ofNat (n / 16777216), UInt8.ofNat (n / 65536), UInt8.ofNat (n / 256), UInt8.ofNat n]
theorem put2_spec (s : List UInt8) (hs : s.length ≤ 2 ^ 39) (n : Nat) (hn : n < 2 ^ 32) :
    LSpec Tryd.prog 18 [.rsl E0 1 0 s.length, tvi 2, tvi n] [(E0, .row 5 1 s.length (bytesF s))] (fun r hl => r = .rsl 21 1 0 (s ++ b2 n).length ∧ hl = [(21, .row 5 1 (s ++ b2 n).length (bytesF (s ++ b2 n)))]) := by
  refine LSpec.run (tysOk) followsB Tryd.func18 (by decide) rfl Tryd.ntmps18 (Nat.le_of_ble_eq_true rfl) rfl rfl fun w0 R0 Lo hG => ?_
  conv => whnf
  refine ⟨by first | omega | (simp only [Int.toNat_natCast]; omega) | (simp; done) | (simp; omega), ?_⟩
  conv => whnf
  refine ALoop.roundsK tysOk followsB 3 [0, 2, 7] [E0, 21] ?_
  conv => whnf
  refine ⟨by first | omega | decide +kernel, ?_⟩
  conv => whnf
  refine ⟨by first | omega | decide +kernel, ?_⟩
  conv => whnf
  rw [show shrOp .i64 (n : Int) (8 * (2 - 1)) = ((n / 256 : Nat) : Int) from shrK n _ 256 (by decide)]
  conv => whnf
  refine ⟨⟨⟨rfl, by omega, by simp only [ty5]; omega⟩, by omega⟩, ?_⟩
  conv => whnf
  refine ⟨by first | omega | decide +kernel, ?_⟩
  conv => whnf
  refine ⟨by first | omega | decide +kernel, ?_⟩
  conv => whnf
  refine ⟨by first | omega | decide +kernel, ?_⟩
  conv => whnf
  rw [show shrOp .i64 (n : Int) (8 * (2 - 1 - 1)) = ((n : Nat) : Int) from by rw [shrK n _ 1 (by decide), Nat.div_one]]
  conv => whnf
  refine ⟨⟨⟨rfl, by omega, by simp only [ty5]; omega⟩, by omega⟩, ?_⟩
  conv => whnf
  refine ⟨by first | omega | decide +kernel, ?_⟩
  conv => whnf
  have hl : (s ++ b2 n).length = s.length + 1 + 1 := by simp [b2]
  refine ⟨.rsl 21 1 0 (s ++ b2 n).length, [(21, .row 5 1 (s ++ b2 n).length (bytesF (s ++ b2 n)))], ?_, ⟨⟨rfl, rfl, hl.symm, fun k hk => ?_⟩, trivial⟩, rfl, rfl⟩
  · rw [hl]
    exact .refl _
  · have e : s ++ b2 n = s ++ [UInt8.ofNat (n / 256)] ++ [UInt8.ofNat n] := by simp [b2]
    rw [e]
    exact app1 (by simp) (app1 rfl (fun _ _ => rfl) (n / 256) rfl) n rfl k hk
/-- The first four bytes of a datagram of version 6. -/
theorem put4_spec : LSpec Tryd.prog 18 [.d (.v (.slice none 0 0)), tvi 4, tvi 1610612736] [] (fun r hl => r = .rsl 21 1 0 4 ∧ hl = [(21, .row 5 1 4 (bytesF [96, 0, 0, 0]))]) := by
  refine LSpec.run (tysOk) followsB Tryd.func18 (by decide) rfl Tryd.ntmps18 (Nat.le_of_ble_eq_true rfl) rfl rfl fun w0 R0 Lo hG => ?_
  conv => whnf
  refine ⟨by first | omega | decide +kernel, ?_⟩
  conv => whnf
  refine ALoop.roundsK tysOk followsB 5 [0, 2, 7] [21] ?_
  conv => whnf
  refine ⟨by first | omega | decide +kernel, ?_⟩
  conv => whnf
  refine ⟨by first | omega | decide +kernel, ?_⟩
  conv => whnf
  refine ⟨⟨by decide, by decide⟩, ?_⟩
  conv => whnf
  refine ⟨by first | omega | decide +kernel, ?_⟩
  conv => whnf
  refine ⟨by first | omega | decide +kernel, ?_⟩
  conv => whnf
  refine ⟨by first | omega | decide +kernel, ?_⟩
  conv => whnf
  refine ⟨⟨by decide, by decide⟩, ?_⟩
  conv => whnf
  refine ⟨by first | omega | decide +kernel, ?_⟩
  conv => whnf
  refine ⟨by first | omega | decide +kernel, ?_⟩
  conv => whnf
  refine ⟨by first | omega | decide +kernel, ?_⟩
  conv => whnf
  refine ⟨⟨by decide, by decide⟩, ?_⟩
  conv => whnf
  refine ⟨by first | omega | decide +kernel, ?_⟩
  conv => whnf
  refine ⟨by first | omega | decide +kernel, ?_⟩
  conv => whnf
  refine ⟨by first | omega | decide +kernel, ?_⟩
  conv => whnf
  refine ⟨⟨by decide, by decide⟩, ?_⟩
  conv => whnf
  refine ⟨by first | omega | decide +kernel, ?_⟩
  conv => whnf
  refine ⟨.rsl 21 1 0 4, [(21, .row 5 1 4 (bytesF [96, 0, 0, 0]))], .refl _, ⟨⟨rfl, rfl, rfl, fun k hk => ?_⟩, trivial⟩, rfl, rfl⟩
  have h4 : k < 4 := hk
  have hh : k = 0 ∨ k = 1 ∨ k = 2 ∨ k = 3 := by omega
  rcases hh with rfl | rfl | rfl | rfl <;> rfl
end Go.Proofs.YtmknfobhmnolmaaDoor
