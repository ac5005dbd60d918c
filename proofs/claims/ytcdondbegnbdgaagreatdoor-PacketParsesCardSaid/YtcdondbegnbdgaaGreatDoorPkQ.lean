/- Chapter 7: the document's reading of a chunk's value is the program's: plain laws. -/
import Derived.Test.YtcdondbegnbdgaaGreatDoorChF
namespace Go.Proofs.YtcdondbegnbdgaaGreatDoor
open Go Go.RowKit Towline Towline.Tlv Towline.Chunk
set_option linter.unusedVariables false
set_option linter.unusedSimpArgs false
/-- A number of n bytes, from place a on. -/
def nB (s : List UInt8) (a n : Nat) : Int := ((beN ((s.drop a).take n) : Nat) : Int)
def rsackL (c : Ch) (v : List UInt8) : Ch × Bool :=
  if v.length < 12 then (c, false)
  else if v.length ≠ 12 + 4 * (nB v 8 2).toNat + 4 * (nB v 10 2).toNat then (c, false)
  else ({ c with tsn := nB v 0 4, window := nB v 4 4, gaps := (List.range (nB v 8 2).toNat).map fun i => (nB v (12 + 4 * i) 2, nB v (12 + 4 * i + 2) 2), dups := (List.range (nB v 10 2).toNat).map fun i => nB v (12 + 4 * (nB v 8 2).toNat + 4 * i) 4 }, true)
def ritemsL (c : Ch) (v : List UInt8) : Ch × Bool := ({ c with items := (parseL v).1 }, (parseL v).2.2 == 0)
def rreadL (c : Ch) (v : List UInt8) : Ch × Bool :=
  if c.ty = 0 then (if v.length < 12 then (c, false) else ({ c with tsn := nB v 0 4, stream := nB v 4 2, ssn := nB v 6 2, ppid := nB v 8 4, text := v.drop 12 }, true))
  else if c.ty = 1 ∨ c.ty = 2 then (if v.length < 16 then (c, false) else ritemsL { c with tag := nB v 0 4, window := nB v 4 4, outs := nB v 8 2, ins := nB v 10 2, tsn := nB v 12 4 } (v.drop 16))
  else if c.ty = 3 then rsackL c v
  else if c.ty = 4 ∨ c.ty = 5 ∨ c.ty = 6 ∨ c.ty = 9 then ritemsL c v
  else if c.ty = 7 then (if v.length ≠ 4 then (c, false) else ({ c with tsn := nB v 0 4 }, true))
  else ({ c with text := v }, true)
theorem tk_yes {k : Nat} {v : List UInt8} (h : k ≤ v.length) (b : Bool) : tk k (v, b) = (nB v 0 k, (v.drop k, b)) := by
  unfold tk nB
  rw [if_neg (by simpa using h)]
  rfl
theorem tk_no {k : Nat} {v : List UInt8} (h : v.length < k) (b : Bool) : tk k (v, b) = (0, ([], true)) := by
  unfold tk
  rw [if_pos (by simpa using h)]
theorem nB_drop (v : List UInt8) (a b n : Nat) : nB (v.drop a) b n = nB v (a + b) n := by
  unfold nB
  rw [List.drop_drop]
theorem rows_stop {α : Type} (one : Rr → α × Rr) (n : Nat) (r : Rr) (h : r.2 = true) : rowsR one n r = ([], r) := by
  cases n with
  | zero => rfl
  | succ n => rw [rowsR, if_pos h]
theorem tkG_yes {v : List UInt8} (h : 4 ≤ v.length) : tkG (v, false) = ((nB v 0 2, nB v 2 2), (v.drop 4, false)) := by
  unfold tkG
  rw [tk_yes (by omega), tk_yes (by rw [List.length_drop]; omega), nB_drop, List.drop_drop]
theorem tkG_no {v : List UInt8} (h : v.length < 4) : (tkG (v, false)).2 = ([], true) := by
  unfold tkG
  by_cases h2 : v.length < 2
  · rw [tk_no h2, tk_no (by decide)]
  · rw [tk_yes (by omega), tk_no (by rw [List.length_drop]; omega)]
theorem rowsG_yes : ∀ (n : Nat) (v : List UInt8), 4 * n ≤ v.length → rowsR tkG n (v, false) = ((List.range n).map (fun i => (nB v (4 * i) 2, nB v (4 * i + 2) 2)), (v.drop (4 * n), false))
  | 0, v, _ => by simp [rowsR]
  | n + 1, v, h => by
    rw [rowsR, if_neg (by simp), tkG_yes (by omega)]
    dsimp only
    rw [rowsG_yes n (v.drop 4) (by rw [List.length_drop]; omega), List.range_succ_eq_map, List.map_cons, List.map_map, List.drop_drop]
    refine Prod.ext ?_ ?_
    · dsimp only
      refine List.cons_eq_cons.2 ⟨rfl, List.map_congr_left fun i _ => ?_⟩
      show (nB (v.drop 4) (4 * i) 2, nB (v.drop 4) (4 * i + 2) 2) = (nB v (4 * (i + 1)) 2, nB v (4 * (i + 1) + 2) 2)
      rw [nB_drop, nB_drop, show 4 + 4 * i = 4 * (i + 1) from by omega, show 4 + (4 * i + 2) = 4 * (i + 1) + 2 from by omega]
    · dsimp only
      rw [show 4 + 4 * n = 4 * (n + 1) from by omega]
theorem rowsG_no : ∀ (n : Nat) (v : List UInt8), v.length < 4 * n → (rowsR tkG n (v, false)).2.2 = true
  | 0, v, h => by omega
  | n + 1, v, h => by
    rw [rowsR, if_neg (by simp)]
    dsimp only
    by_cases h4 : v.length < 4
    · rw [tkG_no h4, rows_stop _ _ _ rfl]
    · rw [tkG_yes (by omega)]
      exact rowsG_no n (v.drop 4) (by rw [List.length_drop]; omega)
theorem rowsD_yes : ∀ (n : Nat) (v : List UInt8), 4 * n ≤ v.length → rowsR (tk 4) n (v, false) = ((List.range n).map (fun i => nB v (4 * i) 4), (v.drop (4 * n), false))
  | 0, v, _ => by simp [rowsR]
  | n + 1, v, h => by
    rw [rowsR, if_neg (by simp), tk_yes (by omega)]
    dsimp only
    rw [rowsD_yes n (v.drop 4) (by rw [List.length_drop]; omega), List.range_succ_eq_map, List.map_cons, List.map_map, List.drop_drop]
    refine Prod.ext ?_ ?_
    · dsimp only
      refine List.cons_eq_cons.2 ⟨rfl, List.map_congr_left fun i _ => ?_⟩
      show nB (v.drop 4) (4 * i) 4 = nB v (4 * (i + 1)) 4
      rw [nB_drop, show 4 + 4 * i = 4 * (i + 1) from by omega]
    · dsimp only
      rw [show 4 + 4 * n = 4 * (n + 1) from by omega]
theorem rowsD_no : ∀ (n : Nat) (v : List UInt8), v.length < 4 * n → (rowsR (tk 4) n (v, false)).2.2 = true
  | 0, v, h => by omega
  | n + 1, v, h => by
    rw [rowsR, if_neg (by simp)]
    dsimp only
    by_cases h4 : v.length < 4
    · rw [tk_no h4, rows_stop _ _ _ rfl]
    · rw [tk_yes (by omega)]
      exact rowsD_no n (v.drop 4) (by rw [List.length_drop]; omega)
/-- The two ways of reading agree: when nothing is wrong, and what is read. -/
def Agree (a : Ch × Bool) (b : Ch × Rr) : Prop := (a.2 = true ↔ b.2.2 = false ∧ b.2.1 = []) ∧ (a.2 = true → a.1 = b.1)
theorem agree_bad {c : Ch} {b : Ch × Rr} (h : b.2.2 = true ∨ b.2.1 ≠ []) : Agree (c, false) b := by
  refine ⟨⟨fun h => (by cases h), fun h2 => ?_⟩, fun h => (by cases h)⟩
  rcases h with h | h
  · rw [h] at h2; cases h2.1
  · exact (h h2.2).elim
theorem agree_ok {c : Ch} {b : Ch × Rr} (h : b = (c, ([], false))) : Agree (c, true) b := by
  subst h
  exact ⟨⟨fun _ => ⟨rfl, rfl⟩, fun _ => rfl⟩, fun _ => rfl⟩
theorem agree_items (c : Ch) (v : List UInt8) : Agree (ritemsL c v) ({ c with items := (itemsR (v, false)).1 }, (itemsR (v, false)).2) := by
  unfold ritemsL itemsR
  refine ⟨⟨fun h => ⟨?_, rfl⟩, fun h => ?_⟩, fun _ => rfl⟩
  · have h : (parseL v).2.2 = 0 := by simpa using h
    simp [h]
  · have h : ((parseL v).2.2 != 0) = false := by simpa using h.1
    simpa using h
theorem tk_at (v : List UInt8) (a k c : Nat) (hc : a + k = c) (h : c ≤ v.length) : tk k ((v.drop a, false) : Rr) = (nB v a k, (v.drop c, false)) := by
  subst hc
  rw [tk_yes (v := v.drop a) (by rw [List.length_drop]; omega), nB_drop, List.drop_drop]
  rfl
theorem tk_end (v : List UInt8) (a k : Nat) (h : v.length < a + k) (hk : 0 < k) : tk k ((v.drop a, false) : Rr) = (0, ([], true)) := tk_no (by rw [List.length_drop]; omega) _
theorem tk_stop (k : Nat) (hk : 0 < k) : tk k (([], true) : Rr) = (0, ([], true)) := tk_no (by simpa using hk) _
theorem agree_sack (c : Ch) (v : List UInt8) : Agree (rsackL c v) (sackR c (v, false)) := by
  rw [show ((v, false) : Rr) = (v.drop 0, false) from rfl]
  unfold rsackL sackR
  dsimp only
  by_cases h : v.length < 12
  · rw [if_pos h]
    refine agree_bad (.inl ?_)
    dsimp only
    by_cases h4 : v.length < 4
    · rw [tk_end v 0 4 (by omega) (by decide), tk_stop 4 (by decide), tk_stop 2 (by decide), tk_stop 2 (by decide)]; rfl
    rw [tk_at v 0 4 4 rfl (by omega)]
    dsimp only
    by_cases h8 : v.length < 8
    · rw [tk_end v 4 4 (by omega) (by decide), tk_stop 2 (by decide), tk_stop 2 (by decide)]; rfl
    rw [tk_at v 4 4 8 rfl (by omega)]
    dsimp only
    by_cases h10 : v.length < 10
    · rw [tk_end v 8 2 (by omega) (by decide), tk_stop 2 (by decide)]; rfl
    rw [tk_at v 8 2 10 rfl (by omega)]
    dsimp only
    rw [tk_end v 10 2 (by omega) (by decide)]
    dsimp only
    rw [rows_stop tkG _ (([], true) : Rr) rfl, rows_stop (tk 4) _ _ rfl]
  rw [if_neg h, tk_at v 0 4 4 rfl (by omega)]
  dsimp only
  rw [tk_at v 4 4 8 rfl (by omega)]
  dsimp only
  rw [tk_at v 8 2 10 rfl (by omega)]
  dsimp only
  rw [tk_at v 10 2 12 rfl (by omega)]
  dsimp only
  generalize hg : (nB v 8 2).toNat = g
  generalize hd : (nB v 10 2).toNat = d
  by_cases h2 : v.length = 12 + 4 * g + 4 * d
  · rw [if_neg (by simpa using h2), rowsG_yes g (v.drop 12) (by rw [List.length_drop]; omega)]
    dsimp only
    rw [List.drop_drop, rowsD_yes d (v.drop (12 + 4 * g)) (by rw [List.length_drop]; omega)]
    refine agree_ok ?_
    simp only [nB_drop, List.drop_drop, Nat.add_assoc]
    rw [List.drop_eq_nil_of_le (by omega)]
  · rw [if_pos h2]
    refine agree_bad ?_
    by_cases h3 : v.length < 12 + 4 * g
    · left
      dsimp only
      have hb := rowsG_no g (v.drop 12) (by rw [List.length_drop]; omega)
      rw [rows_stop (tk 4) d _ hb]
      exact hb
    rw [rowsG_yes g (v.drop 12) (by rw [List.length_drop]; omega)]
    dsimp only
    rw [List.drop_drop]
    by_cases h4 : v.length < 12 + 4 * g + 4 * d
    · left
      exact rowsD_no d _ (by rw [List.length_drop]; omega)
    · right
      rw [rowsD_yes d _ (by rw [List.length_drop]; omega)]
      dsimp only
      intro h5
      have := congrArg List.length h5
      rw [List.length_drop, List.length_drop] at this
      simp at this
      omega
theorem agree_read (c : Ch) (v : List UInt8) : Agree (rreadL c v) (readR c (v, false)) := by
  unfold rreadL readR
  by_cases g0 : c.ty = 0
  · rw [if_pos g0, if_pos g0, show ((v, false) : Rr) = (v.drop 0, false) from rfl]
    dsimp only
    by_cases h : v.length < 12
    · rw [if_pos h]
      refine agree_bad (.inl ?_)
      dsimp only
      by_cases h4 : v.length < 4
      · rw [tk_end v 0 4 (by omega) (by decide), tk_stop 2 (by decide), tk_stop 2 (by decide), tk_stop 4 (by decide)]
      rw [tk_at v 0 4 4 rfl (by omega)]
      dsimp only
      by_cases h6 : v.length < 6
      · rw [tk_end v 4 2 (by omega) (by decide), tk_stop 2 (by decide), tk_stop 4 (by decide)]
      rw [tk_at v 4 2 6 rfl (by omega)]
      dsimp only
      by_cases h8 : v.length < 8
      · rw [tk_end v 6 2 (by omega) (by decide), tk_stop 4 (by decide)]
      rw [tk_at v 6 2 8 rfl (by omega)]
      dsimp only
      rw [tk_end v 8 4 (by omega) (by decide)]
    · rw [if_neg h, tk_at v 0 4 4 rfl (by omega)]
      dsimp only
      rw [tk_at v 4 2 6 rfl (by omega)]
      dsimp only
      rw [tk_at v 6 2 8 rfl (by omega)]
      dsimp only
      rw [tk_at v 8 4 12 rfl (by omega)]
      exact agree_ok rfl
  rw [if_neg g0, if_neg g0]
  by_cases g1 : c.ty = 1 ∨ c.ty = 2
  · rw [if_pos g1, if_pos g1, show ((v, false) : Rr) = (v.drop 0, false) from rfl]
    dsimp only
    by_cases h : v.length < 16
    · rw [if_pos h]
      have nul : (itemsR (([], true) : Rr)).2.2 = true := by simp [itemsR]
      refine agree_bad (.inl ?_)
      dsimp only
      by_cases h4 : v.length < 4
      · rw [tk_end v 0 4 (by omega) (by decide), tk_stop 4 (by decide), tk_stop 2 (by decide), tk_stop 2 (by decide), tk_stop 4 (by decide)]; exact nul
      rw [tk_at v 0 4 4 rfl (by omega)]
      dsimp only
      by_cases h6 : v.length < 8
      · rw [tk_end v 4 4 (by omega) (by decide), tk_stop 2 (by decide), tk_stop 2 (by decide), tk_stop 4 (by decide)]; exact nul
      rw [tk_at v 4 4 8 rfl (by omega)]
      dsimp only
      by_cases h8 : v.length < 10
      · rw [tk_end v 8 2 (by omega) (by decide), tk_stop 2 (by decide), tk_stop 4 (by decide)]; exact nul
      rw [tk_at v 8 2 10 rfl (by omega)]
      dsimp only
      by_cases h9 : v.length < 12
      · rw [tk_end v 10 2 (by omega) (by decide), tk_stop 4 (by decide)]; exact nul
      rw [tk_at v 10 2 12 rfl (by omega)]
      dsimp only
      rw [tk_end v 12 4 (by omega) (by decide)]
      exact nul
    · rw [if_neg h, tk_at v 0 4 4 rfl (by omega)]
      dsimp only
      rw [tk_at v 4 4 8 rfl (by omega)]
      dsimp only
      rw [tk_at v 8 2 10 rfl (by omega)]
      dsimp only
      rw [tk_at v 10 2 12 rfl (by omega)]
      dsimp only
      rw [tk_at v 12 4 16 rfl (by omega)]
      exact agree_items _ _
  rw [if_neg g1, if_neg g1]
  by_cases g3 : c.ty = 3
  · rw [if_pos g3, if_pos g3]
    exact agree_sack c v
  rw [if_neg g3, if_neg g3]
  by_cases g4 : c.ty = 4 ∨ c.ty = 5 ∨ c.ty = 6 ∨ c.ty = 9
  · rw [if_pos g4, if_pos g4]
    exact agree_items c v
  rw [if_neg g4, if_neg g4]
  by_cases g7 : c.ty = 7
  · rw [if_pos g7, if_pos g7]
    by_cases h : v.length = 4
    · rw [if_neg (by simpa using h), tk_yes (v := v) (by omega)]
      refine agree_ok ?_
      rw [List.drop_eq_nil_of_le (by omega)]
    · rw [if_pos h]
      refine agree_bad ?_
      by_cases h4 : v.length < 4
      · left; rw [tk_no h4]
      · right
        rw [tk_yes (v := v) (by omega)]
        intro h5
        have := congrArg List.length h5
        rw [List.length_drop] at this
        simp at this
        omega
  · rw [if_neg g7, if_neg g7]
    exact agree_ok rfl
end Go.Proofs.YtcdondbegnbdgaaGreatDoor
