/- Chapter 7: a Sack's value is read. -/
import Derived.Test.YtcdondbegnbdgaaDoorChG
namespace Go.Proofs.YtcdondbegnbdgaaDoor
open Go Go.RowKit Towline Towline.Tlv Towline.Chunk
set_option linter.unusedVariables false
set_option linter.unusedSimpArgs false
set_option maxRecDepth 20000
set_option maxHeartbeats 4000000
abbrev nilD : AVal := .d (.v (.slice none 0 0))
abbrev cN (t f tsn tag win ppid st ss ou ins : Int) (g d it : AVal) (tx : List UInt8) : AObj := .box [tvi t, tvi f, cv32 tsn, cv32 tag, cv32 win, cv32 ppid, cv16 st, cv16 ss, cv16 ou, cv16 ins, g, d, it, tvs tx] none
abbrev rowG (l : List (Int × Int)) : AObj := .row 98 2 l.length (fun k => encG (l.getD k default))
abbrev rowD (l : List Int) : AObj := .row 23 1 l.length (fun k => enc32 (l.getD k default))
abbrev tkT : Tys := tysX false [] [(59, [])] []
abbrev tkTOk : TysOk Tryd.prog tkT := tysXOk _ _ _ _
theorem tk_len {k : Nat} {r : Rr} {n : Nat} (h : r.1.length ≤ n) : (tk k r).2.1.length ≤ n := by
  unfold tk
  split
  · simp
  · simp only [List.length_drop]; omega
/-- What is left of rows, the first ones read. -/
theorem rows_from {α : Type} (one : Rr → α × Rr) : ∀ (n : Nat) (r : Rr), (0 < n ∧ r.2 = false → rowsR one n r = ((one r).1 :: (rowsR one (n - 1) (one r).2).1, (rowsR one (n - 1) (one r).2).2)) ∧ (¬ (0 < n ∧ r.2 = false) → rowsR one n r = ([], r))
  | 0, r => ⟨fun h => absurd h.1 (by omega), fun _ => rfl⟩
  | n + 1, r => by
    refine ⟨fun h => ?_, fun h => ?_⟩
    · rw [rowsR, if_neg (by rw [h.2]; simp)]
      rfl
    · rw [rowsR, if_pos (by
        cases hr : r.2
        · exact absurd ⟨by omega, hr⟩ h
        · rfl)]
theorem getD_end {α : Type} [Inhabited α] (l : List α) (x : α) : (l ++ [x]).getD l.length default = x := by
  rw [List.getD_eq_getElem?_getD, List.getElem?_append_right (Nat.le_refl _), Nat.sub_self]
  rfl
theorem wrap32 {n : Nat} (h : n < 4294967295) : IntKind.u32.wrap ((n : Int) + 1) = ((n + 1 : Nat) : Int) := by
  simp [IntKind.wrap, IntKind.signed, IntKind.bits]
  omega
theorem sack_spec (t f : Int) (r : Rr) (hl : r.1.length ≤ 2 ^ 40) : LSpec Tryd.prog 62 [.ptr E0 0, .ptr E1 0] [(E0, rB r), (E1, cN t f 0 0 0 0 0 0 0 0 nilD nilD nilD [])]
    (fun q hl => q = .tup [] ∧ hl = [(E0, rB (sackR (mkC t f) r).2), (E1, cN t f (sackR (mkC t f) r).1.tsn 0 (sackR (mkC t f) r).1.window 0 0 0 0 0 (.rsl 1000 2 0 (sackR (mkC t f) r).1.gaps.length) (.rsl 1001 1 0 (sackR (mkC t f) r).1.dups.length) nilD []), (1000, rowG (sackR (mkC t f) r).1.gaps), (1001, rowD (sackR (mkC t f) r).1.dups)]) := by
  have l1 := tk_len (k := 4) hl
  have l2 := tk_len (k := 4) l1
  have l3 := tk_len (k := 2) l2
  have l4 := tk_len (k := 2) l3
  refine LSpec.run (tkTOk) followsB Tryd.func62 (by decide) rfl Tryd.ntmps62 (Nat.le_of_ble_eq_true rfl) rfl rfl fun w0 R0 Lo => ?_
  conv => whnf
  refine ⟨_, take_spec 4 (by omega) r hl, ?_⟩
  rintro q hq ⟨rfl, rfl⟩
  conv => whnf
  refine ⟨_, take_spec 4 (by omega) _ l1, ?_⟩
  rintro q hq ⟨rfl, rfl⟩
  conv => whnf
  refine ⟨_, take_spec 2 (by omega) _ l2, ?_⟩
  rintro q hq ⟨rfl, rfl⟩
  conv => whnf
  refine ⟨_, take_spec 2 (by omega) _ l3, ?_⟩
  rintro q hq ⟨rfl, rfl⟩
  conv => whnf
  refine ALoop.adoptCell E1 10 1000 2 98 (fun _ => []) rfl rfl rfl rfl rfl ?_
  have g1 := tk2_in (tk 4 (tk 4 r).2).2
  have g2 := tk2_in (tk 2 (tk 4 (tk 4 r).2).2).2
  obtain ⟨A, hA⟩ : ∃ A, A = tk 4 r := ⟨_, rfl⟩
  obtain ⟨B, hB⟩ : ∃ B, B = tk 4 A.2 := ⟨_, rfl⟩
  obtain ⟨G, hG⟩ : ∃ G, G = tk 2 B.2 := ⟨_, rfl⟩
  obtain ⟨D', hD⟩ : ∃ D', D' = tk 2 G.2 := ⟨_, rfl⟩
  have hS : sackR (mkC t f) r = ({ mkC t f with tsn := A.1, window := B.1, gaps := (rowsR tkG G.1.toNat D'.2).1, dups := (rowsR (tk 4) D'.1.toNat (rowsR tkG G.1.toNat D'.2).2).1 }, (rowsR (tk 4) D'.1.toNat (rowsR tkG G.1.toNat D'.2).2).2) := by
    rw [hD, hG, hB, hA]
    rfl
  rw [hS]
  rw [← hA, ← hB, ← hG] at g1 g2 l4 ⊢
  rw [← hD] at g2 l4 ⊢
  clear hS
  refine ALoop.introR tkTOk followsB (fun x : {x : List (Int × Int) × Rr // x.1.length ≤ G.1.toNat ∧ x.2.1.length ≤ 2 ^ 40 ∧ rowsR tkG G.1.toNat D'.2 = (x.1 ++ (rowsR tkG (G.1.toNat - x.1.length) x.2).1, (rowsR tkG (G.1.toNat - x.1.length) x.2).2)} => ([(0, .ptr E0 0), (1, .ptr E1 0), (4, cv32 G.1), (5, cv32 D'.1), (6, cv32 x.1.1.length)], [(E0, rB x.1.2), (E1, cN t f A.1 0 B.1 0 0 0 0 0 (.rsl 1000 2 0 x.1.1.length) nilD nilD []), (1000, rowG x.1.1)])) (fun x => G.1.toNat - x.1.1.length) ⟨([], D'.2), by simp, l4, by simp⟩ ?_ ?_
  · exact ⟨.refl _, .refl _, .refl _, .refl _, .refl _, OLe.refl _, OLe.refl _, ⟨rfl, rfl, rfl, fun _ hj => by simp at hj⟩, trivial⟩
  rintro ⟨⟨pre, q⟩, hp1, hp2, hp3⟩
  dsimp only at hp1 hp2 hp3 ⊢
  obtain ⟨ql, qs⟩ := q
  dsimp only at hp2
  have hfrom := rows_from tkG (G.1.toNat - pre.length) (ql, qs)
  conv => whnf
  split <;> rename_i h1
  · replace h1 := of_decide_eq_true h1
    try simp only [Int.toNat_natCast] at h1
    have h1 : pre.length < G.1.toNat := by omega
    cases qs
    · conv => whnf
      rw [hfrom.1 ⟨by omega, rfl⟩] at hp3
      have m1 := tk_len (k := 2) (r := (ql, false)) hp2
      have m2 := tk_len (k := 2) m1
      have v1 := tk2_in (ql, false)
      have v2 := tk2_in (tk 2 (ql, false)).2
      refine ⟨_, _, take_spec 2 (by omega) (ql, false) hp2, ?_⟩
      conv => whnf
      refine ⟨_, _, take_spec 2 (by omega) _ m1, ?_⟩
      conv => whnf
      refine ⟨⟨⟨rfl, by omega, by simp only [ty98]; omega⟩, by omega⟩, ?_⟩
      conv => whnf
      conv => whnf
      refine ⟨by kernel_rfl, ?_⟩
      conv => whnf
      rw [show IntKind.u32.wrap ((pre.length : Int) + 1) = ((pre.length + 1 : Nat) : Int) from wrap32 (by omega)]
      refine ⟨⟨(pre ++ [(tkG (ql, false)).1], (tkG (ql, false)).2), by simp only [List.length_append, List.length_cons, List.length_nil]; omega, m2, ?_⟩, [(47, 1000)], by simp only [List.length_append, List.length_cons, List.length_nil]; omega, .refl _, .refl _, .refl _, .refl _, .of_eq (by simp only [List.length_append, List.length_cons, List.length_nil]), OLe.refl _, ?_, ?_, trivial⟩
      · rw [hp3]
        simp only [List.length_append, List.length_cons, List.length_nil, List.append_assoc]
        rfl
      · exact ⟨.refl _, .refl _, .refl _, .refl _, .refl _, .refl _, .refl _, .refl _, .refl _, .refl _, .of_eq (by rw [List.length_append]; rfl), .refl _, .refl _, .refl _, trivial⟩
      · refine ⟨rfl, rfl, by simp, fun j hj => ?_⟩
        simp only [fcat]
        split
        · rename_i hlt2
          rw [List.getD_eq_getElem?_getD, List.getD_eq_getElem?_getD, List.getElem?_append_left hlt2]
        · have hj2 : j = pre.length := by omega
          subst hj2
          rw [Nat.sub_self, getD_end, wrap16 v1, wrap16 v2]
          rfl
    · conv => whnf
      rw [hfrom.2 (by simp)] at hp3
      rw [List.append_nil] at hp3
      obtain ⟨QQ, hQQ⟩ : ∃ Q : Rr, Q = (ql, true) := ⟨_, rfl⟩
      rw [show (([] : List (Int × Int)), ((ql, true) : Rr)).2 = QQ from hQQ.symm] at hp3
      have hp2 : QQ.1.length ≤ 2 ^ 40 := by rw [hQQ]; exact hp2
      rw [show ((ql, true) : Rr) = QQ from hQQ.symm]
      refine ALoop.adoptCell E1 11 1001 1 23 (fun _ => []) rfl rfl rfl rfl rfl ?_
      rw [hp3]
      refine ALoop.introR tkTOk followsB (fun x : {x : List Int × Rr // x.1.length ≤ D'.1.toNat ∧ x.2.1.length ≤ 2 ^ 40 ∧ rowsR (tk 4) D'.1.toNat QQ = (x.1 ++ (rowsR (tk 4) (D'.1.toNat - x.1.length) x.2).1, (rowsR (tk 4) (D'.1.toNat - x.1.length) x.2).2)} => ([(0, .ptr E0 0), (1, .ptr E1 0), (5, cv32 D'.1), (7, cv32 x.1.1.length)], [(E0, rB x.1.2), (E1, cN t f A.1 0 B.1 0 0 0 0 0 (.rsl 1000 2 0 pre.length) (.rsl 1001 1 0 x.1.1.length) nilD []), (1000, rowG pre), (1001, rowD x.1.1)])) (fun x => D'.1.toNat - x.1.1.length) ⟨([], QQ), by simp, hp2, by simp⟩ ?_ ?_
      · exact ⟨.refl _, .refl _, .refl _, .refl _, OLe.refl _, OLe.refl _, OLe.refl _, ⟨rfl, rfl, rfl, fun _ hj => by simp at hj⟩, trivial⟩
      rintro ⟨⟨du, ⟨zl, zs⟩⟩, hz1, hz2, hz3⟩
      dsimp only at hz1 hz2 hz3 ⊢
      have hfrom2 := rows_from (tk 4) (D'.1.toNat - du.length) (zl, zs)
      conv => whnf
      split <;> rename_i k1
      · replace k1 := of_decide_eq_true k1
        try simp only [Int.toNat_natCast] at k1
        have k1 : du.length < D'.1.toNat := by omega
        cases zs
        · conv => whnf
          rw [hfrom2.1 ⟨by omega, rfl⟩] at hz3
          have n1 := tk_len (k := 4) (r := (zl, false)) hz2
          refine ⟨_, _, take_spec 4 (by omega) (zl, false) hz2, ?_⟩
          conv => whnf
          refine ⟨⟨⟨rfl, by omega, by simp only [ty23]; omega⟩, by omega⟩, ?_⟩
          conv => whnf
          conv => whnf
          refine ⟨by kernel_rfl, ?_⟩
          conv => whnf
          rw [show IntKind.u32.wrap ((du.length : Int) + 1) = ((du.length + 1 : Nat) : Int) from wrap32 (by omega)]
          refine ⟨⟨(du ++ [(tk 4 (zl, false)).1], (tk 4 (zl, false)).2), by simp only [List.length_append, List.length_cons, List.length_nil]; omega, n1, ?_⟩, [(70, 1001)], by simp only [List.length_append, List.length_cons, List.length_nil]; omega, .refl _, .refl _, .refl _, .of_eq (by simp only [List.length_append, List.length_cons, List.length_nil]), OLe.refl _, ?_, OLe.refl _, ?_, trivial⟩
          · rw [hz3]
            simp only [List.length_append, List.length_cons, List.length_nil, List.append_assoc]
            rfl
          · exact ⟨.refl _, .refl _, .refl _, .refl _, .refl _, .refl _, .refl _, .refl _, .refl _, .refl _, .refl _, .of_eq (by rw [List.length_append]; rfl), .refl _, .refl _, trivial⟩
          · refine ⟨rfl, rfl, by simp, fun j hj => ?_⟩
            simp only [fcat]
            split
            · rename_i hlt2
              rw [List.getD_eq_getElem?_getD, List.getD_eq_getElem?_getD, List.getElem?_append_left hlt2]
            · have hj2 : j = du.length := by omega
              subst hj2
              rw [Nat.sub_self, getD_end]
              rfl
        · conv => whnf
          rw [hfrom2.2 (by simp), List.append_nil] at hz3
          rw [hz3]
          refine ⟨_, _, .refl _, ?_, rfl, rfl⟩
          exact ⟨OLe.refl _, OLe.refl _, OLe.refl _, OLe.refl _, trivial⟩
      · replace k1 := of_decide_eq_false k1
        try simp only [Int.toNat_natCast] at k1
        rw [hfrom2.2 (by omega), List.append_nil] at hz3
        rw [hz3]
        conv => whnf
        refine ⟨_, _, .refl _, ?_, rfl, rfl⟩
        exact ⟨OLe.refl _, OLe.refl _, OLe.refl _, OLe.refl _, trivial⟩
  · replace h1 := of_decide_eq_false h1
    try simp only [Int.toNat_natCast] at h1
    rw [hfrom.2 (by omega), List.append_nil] at hp3
    obtain ⟨QQ, hQQ⟩ : ∃ Q : Rr, Q = (ql, qs) := ⟨_, rfl⟩
    rw [show (([] : List (Int × Int)), ((ql, qs) : Rr)).2 = QQ from hQQ.symm] at hp3
    have hp2 : QQ.1.length ≤ 2 ^ 40 := by rw [hQQ]; exact hp2
    conv => whnf
    rw [show ((ql, qs) : Rr) = QQ from hQQ.symm]
    refine ALoop.adoptCell E1 11 1001 1 23 (fun _ => []) rfl rfl rfl rfl rfl ?_
    rw [hp3]
    refine ALoop.introR tkTOk followsB (fun x : {x : List Int × Rr // x.1.length ≤ D'.1.toNat ∧ x.2.1.length ≤ 2 ^ 40 ∧ rowsR (tk 4) D'.1.toNat QQ = (x.1 ++ (rowsR (tk 4) (D'.1.toNat - x.1.length) x.2).1, (rowsR (tk 4) (D'.1.toNat - x.1.length) x.2).2)} => ([(0, .ptr E0 0), (1, .ptr E1 0), (5, cv32 D'.1), (7, cv32 x.1.1.length)], [(E0, rB x.1.2), (E1, cN t f A.1 0 B.1 0 0 0 0 0 (.rsl 1000 2 0 pre.length) (.rsl 1001 1 0 x.1.1.length) nilD []), (1000, rowG pre), (1001, rowD x.1.1)])) (fun x => D'.1.toNat - x.1.1.length) ⟨([], QQ), by simp, hp2, by simp⟩ ?_ ?_
    · exact ⟨.refl _, .refl _, .refl _, .refl _, OLe.refl _, OLe.refl _, OLe.refl _, ⟨rfl, rfl, rfl, fun _ hj => by simp at hj⟩, trivial⟩
    rintro ⟨⟨du, ⟨zl, zs⟩⟩, hz1, hz2, hz3⟩
    dsimp only at hz1 hz2 hz3 ⊢
    have hfrom2 := rows_from (tk 4) (D'.1.toNat - du.length) (zl, zs)
    conv => whnf
    split <;> rename_i k1
    · replace k1 := of_decide_eq_true k1
      try simp only [Int.toNat_natCast] at k1
      have k1 : du.length < D'.1.toNat := by omega
      cases zs
      · conv => whnf
        rw [hfrom2.1 ⟨by omega, rfl⟩] at hz3
        have n1 := tk_len (k := 4) (r := (zl, false)) hz2
        refine ⟨_, _, take_spec 4 (by omega) (zl, false) hz2, ?_⟩
        conv => whnf
        refine ⟨⟨⟨rfl, by omega, by simp only [ty23]; omega⟩, by omega⟩, ?_⟩
        conv => whnf
        conv => whnf
        refine ⟨by kernel_rfl, ?_⟩
        conv => whnf
        rw [show IntKind.u32.wrap ((du.length : Int) + 1) = ((du.length + 1 : Nat) : Int) from wrap32 (by omega)]
        refine ⟨⟨(du ++ [(tk 4 (zl, false)).1], (tk 4 (zl, false)).2), by simp only [List.length_append, List.length_cons, List.length_nil]; omega, n1, ?_⟩, [(70, 1001)], by simp only [List.length_append, List.length_cons, List.length_nil]; omega, .refl _, .refl _, .refl _, .of_eq (by simp only [List.length_append, List.length_cons, List.length_nil]), OLe.refl _, ?_, OLe.refl _, ?_, trivial⟩
        · rw [hz3]
          simp only [List.length_append, List.length_cons, List.length_nil, List.append_assoc]
          rfl
        · exact ⟨.refl _, .refl _, .refl _, .refl _, .refl _, .refl _, .refl _, .refl _, .refl _, .refl _, .refl _, .of_eq (by rw [List.length_append]; rfl), .refl _, .refl _, trivial⟩
        · refine ⟨rfl, rfl, by simp, fun j hj => ?_⟩
          simp only [fcat]
          split
          · rename_i hlt2
            rw [List.getD_eq_getElem?_getD, List.getD_eq_getElem?_getD, List.getElem?_append_left hlt2]
          · have hj2 : j = du.length := by omega
            subst hj2
            rw [Nat.sub_self, getD_end]
            rfl
      · conv => whnf
        rw [hfrom2.2 (by simp), List.append_nil] at hz3
        rw [hz3]
        refine ⟨_, _, .refl _, ?_, rfl, rfl⟩
        exact ⟨OLe.refl _, OLe.refl _, OLe.refl _, OLe.refl _, trivial⟩
    · replace k1 := of_decide_eq_false k1
      try simp only [Int.toNat_natCast] at k1
      rw [hfrom2.2 (by omega), List.append_nil] at hz3
      rw [hz3]
      conv => whnf
      refine ⟨_, _, .refl _, ?_, rfl, rfl⟩
      exact ⟨OLe.refl _, OLe.refl _, OLe.refl _, OLe.refl _, trivial⟩
end Go.Proofs.YtcdondbegnbdgaaDoor
