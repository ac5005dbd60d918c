/- Opening, closing, waiting, dropping. -/
import Derived.Test.YtbghocipmlobnaaGreatHaB
namespace Towline.Hand
structure R where
  h : H
  l : List K
  n : Int
def openR (h : H) (tag tsn win streams now : Int) : R :=
  if ¬ h.st = 0 then ⟨H.nil, [], 11⟩ else if tag = 0 ∨ streams = 0 then ⟨H.nil, [], 1⟩
  else ⟨entered { h with ourTag := tag, ourTsn := tsn, mine := win, outs := streams, ins := streams } 1 0 now, enters { h with ourTag := tag, ourTsn := tsn, mine := win, outs := streams, ins := streams } 1 0, 0⟩
def closeR (h : H) (cum : Int) (empty : Bool) (now : Int) : R :=
  if h.st = 1 ∨ h.st = 2 then ⟨H.nil, [], 0⟩ else if h.st = 3 then ⟨entered h (if empty then 5 else 4) cum now, enters h (if empty then 5 else 4) cum, 0⟩ else ⟨H.nil, [], 11⟩
def emptyR (h : H) (cum now : Int) : R :=
  if h.st = 4 then ⟨entered h 5 cum now, enters h 5 cum, 0⟩ else if h.st = 6 then ⟨entered h 7 cum now, enters h 7 cum, 0⟩ else ⟨h, [], 0⟩
def dropR (h : H) : R := if h.st = 0 then ⟨h, [], 0⟩ else ⟨H.nil, [K.of 6], 3⟩
def wait (t : Int) : Int := min (w64 (1000 * 2 ^ min (max t 0).toNat 64)) 60000
def tickR (h : H) (cum now : Int) : R :=
  if h.due = 0 ∨ now < h.due then ⟨h, [], 0⟩ else if 8 ≤ h.tries then ⟨H.nil, [K.of 6], 3⟩
  else ⟨{ h with due := w64 (now + wait h.tries), tries := h.tries + 1 }, sends h cum, 0⟩
/-- The reference's way: doubled so often. -/
def dbl : Nat → Int
  | 0 => 1000
  | k + 1 => min (2 * dbl k) 60000
theorem dbl_eq (t : Int) (h : t < 8) : dbl t.toNat = wait t := by
  rcases Int.le_total t 0 with h0 | h0
  · have e1 : t.toNat = 0 := by omega
    have e2 : max t 0 = 0 := by omega
    rw [e1, wait, e2]; decide
  · obtain ⟨k, rfl⟩ := Int.eq_ofNat_of_zero_le h0
    have : k < 8 := by omega
    match k, this with
    | 0, _ => decide
    | 1, _ => decide
    | 2, _ => decide
    | 3, _ => decide
    | 4, _ => decide
    | 5, _ => decide
    | 6, _ => decide
    | 7, _ => decide
theorem dbl_le : ∀ k, 0 ≤ dbl k ∧ dbl k ≤ 60000
  | 0 => by decide
  | k + 1 => by have := dbl_le k; simp only [dbl]; omega
theorem wait_le (t : Int) (h : t < 8) : 0 ≤ wait t ∧ wait t ≤ 60000 := by rw [← dbl_eq t h]; exact dbl_le _
end Towline.Hand
namespace Go.Proofs.YtbghocipmlobnaaGreat
open Go Towline Towline.Hand
set_option linter.unusedVariables false
set_option maxRecDepth 20000
set_option maxHeartbeats 4000000
def encN (n : Int) : List D := [.i .i64 n]
abbrev rA (r : R) : AVal := .tup [hA r.h, ksA r.l, vi r.n]
abbrev rA2 (r : R) : AVal := .tup [hA r.h, ksA r.l]
theorem ended_spec (n : Int) (ks : List Int) (hk : ks.length ≤ 2 ^ 40) : PSpec Tryz.prog 62 [vi n, .d (slT 1 encN ks)] (· = rA ⟨H.nil, ks.map K.of, n⟩) := by
  refine PSpec.run tysOk follows Tryz.func62 (by decide) rfl Tryz.ntmps62 (Nat.le_of_ble_eq_true rfl) rfl fun w0 R0 hGw => ?_
  conv => whnf
  refine ALoop.adopt 7 1000 14 41 (fun j => encK (K.of (ks.getD j default))) rfl rfl rfl ?_
  refine ALoop.introR tysOk follows (fun k : {k // k ≤ ks.length} => ([(0, vi n), (4, .ptr 4 0), (7, .rsl 1000 14 0 k.1), (10, .d (slT 1 encN ks)), (11, vi ks.length), (12, vi k.1)], [(4, .box [vi 0, vi 0, vi 0, v32 0, v32 0, v32 0, v32 0, v32 0, v32 0, v16 0, v16 0, vs []]), (1000, .row 41 14 k.1 (fun j => encK (K.of (ks.getD j default))))])) (fun k => ks.length - k.1) ⟨0, by omega⟩ ?_ ?_
  · exact ⟨.refl _, .refl _, .refl _, .refl _, .refl _, .refl _, OLe.refl _, OLe.refl _, trivial⟩
  · rintro ⟨k, hkl⟩
    dsimp only
    conv => whnf
    split <;> rename_i h1
    · have hlt : k < ks.length := by simpa using h1
      conv => whnf
      refine ⟨by first | omega | (simp only [Int.toNat_natCast]; omega) | (simp; done) | (simp; omega), ?_⟩
      conv => whnf
      refine ⟨⟨⟨rfl, by omega, by simp only [ty41]; omega⟩, by omega⟩, ?_⟩
      conv => whnf
      refine ⟨by first | omega | (simp only [Int.toNat_natCast]; omega) | (simp; done) | (simp; omega), ?_⟩
      conv => whnf
      refine ⟨⟨k + 1, by omega⟩, [(20, 1000)], by dsimp only; omega, .refl _, .refl _, .refl _, .refl _, .refl _, .refl _, OLe.refl _, ⟨rfl, rfl, rfl, ?_⟩, trivial⟩
      intro j hj
      simp only [fcat]
      split
      · rfl
      · have : j = k := by omega
        subst this; simp [encK, K.of, encN]
    · have hlt : ¬ k < ks.length := by simpa using h1
      obtain rfl : k = ks.length := by omega
      conv => whnf
      refine ⟨by first | omega | (simp only [Int.toNat_natCast]; omega) | (simp; done) | (simp; omega), ?_⟩
      conv => whnf
      refine ⟨_, ?_, rfl, rfl⟩
      exact .tup ⟨.refl _, .sl (by simp) (fun j hj => by simp [hj]), .refl _, trivial⟩
theorem open_spec (h : H) (tag tsn win streams now : Int) : PSpec Tryz.prog 39 [hA h, v32 tag, v32 tsn, v32 win, v16 streams, vi now] (· = rA (openR h tag tsn win streams now)) := by
  refine PSpec.run tysOk follows Tryz.func39 (by decide) rfl Tryz.ntmps39 (Nat.le_of_ble_eq_true rfl) rfl fun w0 R0 hGw => ?_
  conv => whnf
  split <;> rename_i g1
  · have g1 : ¬ h.st = 0 := by simpa using g1
    conv => whnf
    rw [openR, if_pos g1]
    refine ⟨_, ?_, rfl, rfl⟩
    exact .tup ⟨.refl _, .nil, .refl _, trivial⟩
  · have g1 : h.st = 0 := by simpa using g1
    conv => whnf
    split <;> rename_i g2
    · have g2 : tag = 0 := by simpa using g2
      conv => whnf
      rw [openR, if_neg (by simpa using g1), if_pos (.inl g2)]
      refine ⟨_, ?_, rfl, rfl⟩
      exact .tup ⟨.refl _, .nil, .refl _, trivial⟩
    · have g2 : ¬ tag = 0 := by simpa using g2
      conv => whnf
      split <;> rename_i g3
      · have g3 : streams = 0 := by simpa using g3
        conv => whnf
        rw [openR, if_neg (by simpa using g1), if_pos (.inr g3)]
        refine ⟨_, ?_, rfl, rfl⟩
        exact .tup ⟨.refl _, .nil, .refl _, trivial⟩
      · have g3 : ¬ streams = 0 := by simpa using g3
        conv => whnf
        refine ⟨_, enter_spec { h with ourTag := tag, ourTsn := tsn, mine := win, outs := streams, ins := streams } 1 0 now, ?_⟩
        rintro q rfl
        conv => whnf
        rw [openR, if_neg (by simpa using g1), if_neg (by simp [g2, g3])]
        exact ⟨_, .refl _, rfl, rfl⟩
theorem shut_spec (h : H) (e : Bool) (a b cum now : Int) : PSpec Tryz.prog 127 [hA h, vb e, vi a, vi b, v32 cum, vi now] (· = .tup [hA (entered h (if e then b else a) cum now), ksA (enters h (if e then b else a) cum)]) := by
  refine PSpec.run tysOk follows Tryz.func127 (by decide) rfl Tryz.ntmps127 (Nat.le_of_ble_eq_true rfl) rfl fun w0 R0 hGw => ?_
  conv => whnf
  cases e with
  | true =>
    conv => whnf
    refine ⟨_, enter_spec h b cum now, ?_⟩
    rintro q rfl
    conv => whnf
    exact ⟨_, .refl _, rfl, rfl⟩
  | false =>
    conv => whnf
    refine ⟨_, enter_spec h a cum now, ?_⟩
    rintro q rfl
    conv => whnf
    exact ⟨_, .refl _, rfl, rfl⟩
theorem empty_spec (h : H) (cum now : Int) : PSpec Tryz.prog 74 [hA h, v32 cum, vi now] (· = rA2 (emptyR h cum now)) := by
  refine PSpec.run tysOk follows Tryz.func74 (by decide) rfl Tryz.ntmps74 (Nat.le_of_ble_eq_true rfl) rfl fun w0 R0 hGw => ?_
  conv => whnf
  split <;> rename_i g1
  · have g1 : h.st = 4 := by simpa using g1
    conv => whnf
    refine ⟨_, enter_spec h 5 cum now, ?_⟩
    rintro q rfl
    conv => whnf
    rw [emptyR, if_pos g1]
    exact ⟨_, .refl _, rfl, rfl⟩
  · have g1 : ¬ h.st = 4 := by simpa using g1
    conv => whnf
    split <;> rename_i g2
    · have g2 : h.st = 6 := by simpa using g2
      conv => whnf
      refine ⟨_, enter_spec h 7 cum now, ?_⟩
      rintro q rfl
      conv => whnf
      rw [emptyR, if_neg g1, if_pos g2]
      exact ⟨_, .refl _, rfl, rfl⟩
    · have g2 : ¬ h.st = 6 := by simpa using g2
      conv => whnf
      rw [emptyR, if_neg g1, if_neg g2]
      refine ⟨_, ?_, rfl, rfl⟩
      exact .tup ⟨.refl _, .nil, trivial⟩
theorem ended1_spec (n k : Int) {f : Nat → List D} (hf : f 0 = [.i .i64 k]) : PSpec Tryz.prog 62 [vi n, .d (.sl 1 1 f)] (· = rA ⟨H.nil, [K.of k], n⟩) :=
  (ended_spec n [k] (by simp)).argsC ⟨.refl _, .sl rfl (fun j hj => by match j, hj with | 0, _ => exact hf), trivial⟩
theorem ended0_spec (n : Int) : PSpec Tryz.prog 62 [vi n, .d nilD] (· = rA ⟨H.nil, [], n⟩) :=
  (ended_spec n [] (by simp)).argsC ⟨.refl _, .nil, trivial⟩
theorem drop_spec (h : H) : PSpec Tryz.prog 132 [hA h] (· = rA (dropR h)) := by
  refine PSpec.run (tysPOk [10]) follows Tryz.func132 (by decide) rfl Tryz.ntmps132 (Nat.le_of_ble_eq_true rfl) rfl fun w0 R0 hGw => ?_
  conv => whnf
  split <;> rename_i g1
  · have g1 : h.st = 0 := by simpa using g1
    conv => whnf
    rw [dropR, if_pos g1]
    refine ⟨_, ?_, rfl, rfl⟩
    exact .tup ⟨.refl _, .nil, .refl _, trivial⟩
  · have g1 : ¬ h.st = 0 := by simpa using g1
    conv => whnf
    refine ⟨by first | omega | (simp only [Int.toNat_natCast]; omega) | (simp; done) | (simp; omega), ?_⟩
    conv => whnf
    refine ⟨_, ended1_spec 3 6 rfl, ?_⟩
    rintro q rfl
    conv => whnf
    rw [show dropR h = ⟨H.nil, [K.of 6], 3⟩ from by simp [dropR, g1]]
    exact ⟨_, .refl _, rfl, rfl⟩
theorem tick_spec (h : H) (cum now : Int) (ht : -2 ^ 63 ≤ h.tries) : PSpec Tryz.prog 24 [hA h, v32 cum, vi now] (· = rA (tickR h cum now)) := by
  refine PSpec.run (tysWPOk [25]) follows Tryz.func24 (by decide) rfl Tryz.ntmps24 (Nat.le_of_ble_eq_true rfl) rfl fun w0 R0 hGw => ?_
  conv => whnf
  split <;> rename_i g1
  · have g1 : h.due = 0 := by simpa using g1
    conv => whnf
    rw [tickR, if_pos (.inl g1)]
    refine ⟨_, ?_, rfl, rfl⟩
    exact .tup ⟨.refl _, .nil, .refl _, trivial⟩
  · have g1 : ¬ h.due = 0 := by simpa using g1
    conv => whnf
    split <;> rename_i g2
    · replace g2 := of_decide_eq_true g2
      try simp only [Int.toNat_natCast] at g2
      conv => whnf
      rw [tickR, if_pos (.inr g2)]
      refine ⟨_, ?_, rfl, rfl⟩
      exact .tup ⟨.refl _, .nil, .refl _, trivial⟩
    · replace g2 := of_decide_eq_false g2
      try simp only [Int.toNat_natCast] at g2
      conv => whnf
      split <;> rename_i g3
      · replace g3 := of_decide_eq_true g3
        try simp only [Int.toNat_natCast] at g3
        conv => whnf
        refine ⟨by first | omega | (simp only [Int.toNat_natCast]; omega) | (simp; done) | (simp; omega), ?_⟩
        conv => whnf
        refine ⟨_, ended1_spec 3 6 rfl, ?_⟩
        rintro q rfl
        conv => whnf
        rw [show tickR h cum now = ⟨H.nil, [K.of 6], 3⟩ from by simp [tickR, g1, g2, g3]]
        exact ⟨_, .refl _, rfl, rfl⟩
      · replace g3 := of_decide_eq_false g3
        try simp only [Int.toNat_natCast] at g3
        conv => whnf
        refine ⟨by first | omega | (simp only [Int.toNat_natCast]; omega) | (simp; done) | (simp; omega), ?_⟩
        conv => whnf
        refine ⟨_, sender_spec cum, ?_⟩
        conv => whnf
        refine ⟨_, sender1_spec { h with due := w64 (now + wait h.tries), tries := w64 (h.tries + 1) } cum, ?_⟩
        conv => whnf
        refine ⟨by kernel_rfl, ?_⟩
        conv => whnf
        rw [show tickR h cum now = ⟨{ h with due := w64 (now + wait h.tries), tries := h.tries + 1 }, sends h cum, 0⟩ from by simp [tickR, g1, g2, g3]]
        refine ⟨_, ?_, rfl, rfl⟩
        exact .tup ⟨.agg ⟨.refl _, .of_eq (by rw [IntWalk.i64_in (h.tries + 1) (by omega)]), .of_eq (by rfl), .refl _, .refl _, .refl _, .refl _, .refl _, .refl _, .refl _, .refl _, .refl _, trivial⟩, .refl _, .refl _, trivial⟩
end Go.Proofs.YtbghocipmlobnaaGreat
