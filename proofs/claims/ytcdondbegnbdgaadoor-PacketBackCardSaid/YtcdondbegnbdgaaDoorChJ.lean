/- Chapter 7: the chunk that bytes begin with: its contract. -/
import Derived.Test.YtcdondbegnbdgaaDoorChI
namespace Go.Proofs.YtcdondbegnbdgaaDoor
open Go Go.RowKit Towline Towline.Tlv Towline.Chunk
set_option linter.unusedVariables false
set_option linter.unusedSimpArgs false
set_option maxRecDepth 20000
set_option maxHeartbeats 1000000
abbrev paT : Tys := tysX false [] [(42, [])] []
abbrev paTOk : TysOk Tryd.prog paT := tysXOk _ _ _ _
theorem read_nil (t f : Int) (r : Rr) (h3 : ¬ t = 3) : (readR (mkC t f) r).1.gaps = [] ∧ (readR (mkC t f) r).1.dups = [] := by
  unfold readR mkC
  dsimp only
  by_cases h0 : t = 0
  · rw [if_pos h0]; exact ⟨rfl, rfl⟩
  rw [if_neg h0]
  by_cases h1 : t = 1 ∨ t = 2
  · rw [if_pos h1]; exact ⟨rfl, rfl⟩
  rw [if_neg h1, if_neg h3]
  by_cases h4 : t = 4 ∨ t = 5 ∨ t = 6 ∨ t = 9
  · rw [if_pos h4]; exact ⟨rfl, rfl⟩
  rw [if_neg h4]
  by_cases h7 : t = 7
  · rw [if_pos h7]; exact ⟨rfl, rfl⟩
  rw [if_neg h7]
  exact ⟨rfl, rfl⟩
theorem read3_eq (t f : Int) (ht : t = 3) (r : Rr) : (readR (mkC t f) r).1 = ⟨t, f, (readR (mkC t f) r).1.tsn, 0, (readR (mkC t f) r).1.window, 0, 0, 0, 0, 0, (readR (mkC t f) r).1.gaps, (readR (mkC t f) r).1.dups, [], []⟩ := by
  subst ht
  rfl
theorem read3t (t f : Int) (ht : t = 3) (r : Rr) (hl : r.1.length ≤ 2 ^ 40) : LSpec Tryd.prog 42 [.ptr E0 0, .ptr E1 0] [(E0, rB r), (E1, box0 t f)]
    (fun q hl => q = .tup [] ∧ hl = [(E0, rB (readR (mkC t f) r).2), (E1, cN t f (readR (mkC t f) r).1.tsn 0 (readR (mkC t f) r).1.window 0 0 0 0 0 (.rsl 82000 2 0 (readR (mkC t f) r).1.gaps.length) (.rsl 82001 1 0 (readR (mkC t f) r).1.dups.length) nilD []), (82000, rowG (readR (mkC t f) r).1.gaps), (82001, rowD (readR (mkC t f) r).1.dups)]) := by
  subst ht
  exact read3_spec f r hl
theorem parseC_spec (s : List UInt8) (hs : s.length ≤ 2 ^ 40) : PSpec Tryd.prog 29 [tvs s] (· = .tup [cA (parseC s).1, tvi (parseC s).2.1, tvi (parseC s).2.2]) := by
  refine PSpec.run (paTOk) followsB Tryd.func29 (by decide) rfl Tryd.ntmps29 (Nat.le_of_ble_eq_true rfl) rfl fun w0 R0 => ?_
  conv => whnf
  split <;> rename_i g1
  · replace g1 := of_decide_eq_true g1
    try simp only [Int.toNat_natCast] at g1
    conv => whnf
    rw [show parseC s = (nilC, 0, 3) from by unfold parseC; rw [if_pos (by omega)]]
    refine ⟨_, ?_, rfl, rfl⟩
    exact .tup ⟨.agg ⟨.refl _, .refl _, .refl _, .refl _, .refl _, .refl _, .refl _, .refl _, .refl _, .refl _, .nil, .nil, .nil, .refl _, trivial⟩, .refl _, .refl _, trivial⟩
  replace g1 := of_decide_eq_false g1
  try simp only [Int.toNat_natCast] at g1
  have q2 := UInt8.toNat_lt (s.getD (Int.toNat 2) 0)
  have q3 := UInt8.toNat_lt (s.getD (Int.toNat 3) 0)
  conv => whnf
  repeat (refine ⟨by first | decide | omega | (simp only [shlOp]; omega), ?_⟩; conv => whnf)
  refine ⟨by kernel_rfl, ?_⟩
  conv => whnf
  rw [or256]
  rw [show (s.getD (Int.toNat 2) 0).toNat * 256 + (s.getD (Int.toNat 3) 0).toNat = b2 s 2 from rfl]
  have hb2 : b2 s 2 < 65536 := by
    show (s.getD (Int.toNat 2) 0).toNat * 256 + (s.getD (Int.toNat 3) 0).toNat < 65536
    omega
  conv => whnf
  split <;> rename_i g2
  · have g2 := of_decide_eq_true g2
    conv => whnf
    rw [show parseC s = (nilC, 0, 2) from by unfold parseC; rw [if_neg (by omega), if_pos (by omega)]]
    refine ⟨_, ?_, rfl, rfl⟩
    exact .tup ⟨.agg ⟨.refl _, .refl _, .refl _, .refl _, .refl _, .refl _, .refl _, .refl _, .refl _, .refl _, .nil, .nil, .nil, .refl _, trivial⟩, .refl _, .refl _, trivial⟩
  have g2 := of_decide_eq_false g2
  conv => whnf
  split <;> rename_i g3
  · have g3 := of_decide_eq_true g3
    conv => whnf
    rw [show parseC s = (nilC, 0, 3) from by unfold parseC; rw [if_neg (by omega), if_neg (by omega), if_pos (by omega)]]
    refine ⟨_, ?_, rfl, rfl⟩
    exact .tup ⟨.agg ⟨.refl _, .refl _, .refl _, .refl _, .refl _, .refl _, .refl _, .refl _, .refl _, .refl _, .nil, .nil, .nil, .refl _, trivial⟩, .refl _, .refl _, trivial⟩
  have g3 := of_decide_eq_false g3
  conv => whnf
  split <;> rename_i g4
  · have g4 := of_decide_eq_true g4
    conv => whnf
    rw [show parseC s = (nilC, 0, 4) from by unfold parseC; rw [if_neg (by omega), if_neg (by omega), if_neg (by omega), if_pos (by omega)]]
    refine ⟨_, ?_, rfl, rfl⟩
    exact .tup ⟨.agg ⟨.refl _, .refl _, .refl _, .refl _, .refl _, .refl _, .refl _, .refl _, .refl _, .refl _, .nil, .nil, .nil, .refl _, trivial⟩, .refl _, .refl _, trivial⟩
  have g4 := of_decide_eq_false g4
  have q0 := UInt8.toNat_lt (s.getD (Int.toNat 0) 0)
  have q1 := UInt8.toNat_lt (s.getD (Int.toNat 1) 0)
  conv => whnf
  repeat (refine ⟨by first | decide | omega, ?_⟩; conv => whnf)
  refine ⟨by kernel_rfl, ?_⟩
  conv => whnf
  repeat (refine ⟨by first | decide | omega, ?_⟩; conv => whnf)
  have hcut : cutS s (some 4) (some ((b2 s 2 : Nat) : Int)) = (s.take (b2 s 2)).drop 4 := rfl
  rw [hcut]
  have hlc : ((s.take (b2 s 2)).drop 4).length ≤ 2 ^ 40 := by rw [List.length_drop, List.length_take]; omega
  have hrng := read_range (((s.getD 0 0).toNat : Nat) : Int) (((s.getD 1 0).toNat : Nat) : Int) ((s.take (b2 s 2)).drop 4, false)
  have hrd : readR (mkC (((s.getD (Int.toNat 0) 0).toNat : Nat) : Int) (((s.getD (Int.toNat 1) 0).toNat : Nat) : Int)) ((s.take (b2 s 2)).drop 4, false) = rdC s := rfl
  have hrd0 : readR (mkC (((s.getD 0 0).toNat : Nat) : Int) (((s.getD 1 0).toNat : Nat) : Int)) ((s.take (b2 s 2)).drop 4, false) = rdC s := rfl
  rw [hrd0] at hrng
  obtain ⟨r1, r2, r3, r4⟩ := hrng
  have hok : ChOk (rdC s).1 := r1.ok (by omega) (by omega) (by omega)
  have hR := right_spec (rdC s).1 hok
  have bad2 : okP s = false → parseC s = (nilC, 0, 2) := fun h => by
    unfold parseC
    rw [if_neg (by omega), if_neg (by omega), if_neg (by omega), if_neg (by omega), if_neg (by rw [h]; decide)]
  have hpad := padN_lt (b2 s 2)
  have hend : (endN s : Int) = min ((b2 s 2 : Int) + padN (b2 s 2)) s.length := by unfold endN; omega
  have hcut2 : cutS s (some ↑(b2 s 2)) (some (min (↑(b2 s 2) + ↑(padN (b2 s 2))) ↑s.length)) = (s.take (endN s)).drop (b2 s 2) := by
    rw [← hend]
    rfl
  have htr := trim_all ((s.take (endN s)).drop (b2 s 2))
  have hT := trim_spec ((s.take (endN s)).drop (b2 s 2)) (by rw [List.length_drop, List.length_take]; omega)
  by_cases ht : (((s.getD (Int.toNat 0) 0).toNat : Nat) : Int) = 3
  · refine ⟨_, read3t (((s.getD (Int.toNat 0) 0).toNat : Nat) : Int) (((s.getD (Int.toNat 1) 0).toNat : Nat) : Int) ht ((s.take (b2 s 2)).drop 4, false) hlc, ?_⟩
    rintro q hq ⟨rfl, rfl⟩
    conv => whnf
    rw [hrd]
    refine ⟨_, pad_spec (b2 s 2) (by omega), ?_⟩
    rintro q rfl
    conv => whnf
    refine ⟨by first | omega | (simp only [Int.toNat_natCast]; omega) | (simp; done) | (simp; omega), ?_⟩
    conv => whnf
    cases h1 : (rdC s).2.2
    rotate_left
    · conv => whnf
      rw [bad2 (by simp [okP, h1])]
      refine ⟨_, ?_, rfl, rfl⟩
      exact .tup ⟨.agg ⟨.refl _, .refl _, .refl _, .refl _, .refl _, .refl _, .refl _, .refl _, .refl _, .refl _, .nil, .nil, .nil, .refl _, trivial⟩, .refl _, .refl _, trivial⟩
    conv => whnf
    by_cases h2 : (rdC s).2.1 = []
    rotate_left
    · rw [show ((rdC s).2.1 != ({ data := #[] } : ByteArray).data.toList) = true from bne_iff_ne.2 h2]
      conv => whnf
      rw [bad2 (by simp [okP, h2])]
      refine ⟨_, ?_, rfl, rfl⟩
      exact .tup ⟨.agg ⟨.refl _, .refl _, .refl _, .refl _, .refl _, .refl _, .refl _, .refl _, .refl _, .refl _, .nil, .nil, .nil, .refl _, trivial⟩, .refl _, .refl _, trivial⟩
    rw [show ((rdC s).2.1 != ({ data := #[] } : ByteArray).data.toList) = false from by rw [h2]; rfl]
    conv => whnf
    have e3 := read3_eq (((s.getD 0 0).toNat : Nat) : Int) (((s.getD 1 0).toNat : Nat) : Int) ht ((s.take (b2 s 2)).drop 4, false)
    rw [hrd0] at e3
    have y1 := congrArg Ch.ty e3
    have y2 := congrArg Ch.flags e3
    have y3 := congrArg Ch.tag e3
    have y4 := congrArg Ch.ppid e3
    have y5 := congrArg Ch.stream e3
    have y6 := congrArg Ch.ssn e3
    have y7 := congrArg Ch.outs e3
    have y8 := congrArg Ch.ins e3
    have y9 := congrArg Ch.items e3
    have y10 := congrArg Ch.text e3
    dsimp only at y1 y2 y3 y4 y5 y6 y7 y8 y9 y10
    clear e3
    have z9 : (AVal.d (.v (.slice none 0 0))).le (.d (slT 2 encI (rdC s).1.items)) := by rw [y9]; exact .nil
    refine ⟨by first | omega | (simp only [Int.toNat_natCast]; omega) | (simp; done) | (simp; omega), ?_⟩
    conv => whnf
    refine ⟨by first | omega | (simp only [Int.toNat_natCast]; omega) | (simp; done) | (simp; omega), ?_⟩
    conv => whnf
    refine ⟨_, hR.argsC ⟨.agg ⟨.of_eq (by rw [y1]; rfl), .of_eq (by rw [y2]; rfl), .refl _, .of_eq (by rw [y3]), .refl _, .of_eq (by rw [y4]), .of_eq (by rw [y5]), .of_eq (by rw [y6]), .of_eq (by rw [y7]), .of_eq (by rw [y8]), .refl _, .refl _, z9, .of_eq (by rw [y10]), trivial⟩, trivial⟩, ?_⟩
    rintro q rfl
    cases h3 : ((buildC (rdC s).1).2 == 0)
    · conv => whnf
      rw [bad2 (by simp only [okP, h1, h3]; simp)]
      refine ⟨_, ?_, rfl, rfl⟩
      exact .tup ⟨.agg ⟨.refl _, .refl _, .refl _, .refl _, .refl _, .refl _, .refl _, .refl _, .refl _, .refl _, .nil, .nil, .nil, .refl _, trivial⟩, .refl _, .refl _, trivial⟩
    conv => whnf
    repeat (refine ⟨by first | decide | omega, ?_⟩; conv => whnf)
    rw [hcut2]
    refine ⟨_, hT, ?_⟩
    rintro q rfl
    conv => whnf
    by_cases g5 : ((s.take (endN s)).drop (b2 s 2)).any (· != 0) = true
    · rw [show (Lib.trimB ((s.take (endN s)).drop (b2 s 2)) 0 != { data := #[] : ByteArray }.data.toList) = true from by
        rw [bne_iff_ne]
        intro e
        have h1 := htr.1 e
        rw [List.any_eq_true] at g5
        obtain ⟨x, hx, hx2⟩ := g5
        rw [h1 x hx] at hx2
        cases hx2]
      conv => whnf
      rw [bad2 (by simp only [okP, g5]; simp)]
      refine ⟨_, ?_, rfl, rfl⟩
      exact .tup ⟨.agg ⟨.refl _, .refl _, .refl _, .refl _, .refl _, .refl _, .refl _, .refl _, .refl _, .refl _, .nil, .nil, .nil, .refl _, trivial⟩, .refl _, .refl _, trivial⟩
    rw [show (Lib.trimB ((s.take (endN s)).drop (b2 s 2)) 0 != { data := #[] : ByteArray }.data.toList) = false from by
      rw [bne_eq_false_iff_eq]
      refine htr.2 fun x hx => ?_
      rw [Bool.not_eq_true, List.any_eq_false] at g5
      simpa using g5 x hx]
    conv => whnf
    rw [Bool.not_eq_true] at g5
    rw [show parseC s = ((rdC s).1, endN s, 0) from by
      unfold parseC
      rw [if_neg (by omega), if_neg (by omega), if_neg (by omega), if_neg (by omega), if_pos (by unfold okP; rw [h1, h2, h3, g5]; rfl)]]
    refine ⟨by first | omega | (simp only [Int.toNat_natCast]; omega) | (simp; done) | (simp; omega), ?_⟩
    conv => whnf
    refine ⟨by first | omega | (simp only [Int.toNat_natCast]; omega) | (simp; done) | (simp; omega), ?_⟩
    conv => whnf
    refine ⟨_, ?_, rfl, rfl⟩
    exact .tup ⟨.agg ⟨.of_eq (by rw [y1]; rfl), .of_eq (by rw [y2]; rfl), .refl _, .of_eq (by rw [y3]), .refl _, .of_eq (by rw [y4]), .of_eq (by rw [y5]), .of_eq (by rw [y6]), .of_eq (by rw [y7]), .of_eq (by rw [y8]), .refl _, .refl _, z9, .of_eq (by rw [y10]), trivial⟩, .of_eq (by rw [hend]), .refl _, trivial⟩
  · refine ⟨_, read_spec (((s.getD (Int.toNat 0) 0).toNat : Nat) : Int) (((s.getD (Int.toNat 1) 0).toNat : Nat) : Int) ((s.take (b2 s 2)).drop 4, false) hlc ht, ?_⟩
    rintro q hq ⟨rfl, rfl⟩
    conv => whnf
    rw [hrd]
    refine ⟨_, pad_spec (b2 s 2) (by omega), ?_⟩
    rintro q rfl
    conv => whnf
    refine ⟨by first | omega | (simp only [Int.toNat_natCast]; omega) | (simp; done) | (simp; omega), ?_⟩
    conv => whnf
    cases h1 : (rdC s).2.2
    rotate_left
    · conv => whnf
      rw [bad2 (by simp [okP, h1])]
      refine ⟨_, ?_, rfl, rfl⟩
      exact .tup ⟨.agg ⟨.refl _, .refl _, .refl _, .refl _, .refl _, .refl _, .refl _, .refl _, .refl _, .refl _, .nil, .nil, .nil, .refl _, trivial⟩, .refl _, .refl _, trivial⟩
    conv => whnf
    by_cases h2 : (rdC s).2.1 = []
    rotate_left
    · rw [show ((rdC s).2.1 != ({ data := #[] } : ByteArray).data.toList) = true from bne_iff_ne.2 h2]
      conv => whnf
      rw [bad2 (by simp [okP, h2])]
      refine ⟨_, ?_, rfl, rfl⟩
      exact .tup ⟨.agg ⟨.refl _, .refl _, .refl _, .refl _, .refl _, .refl _, .refl _, .refl _, .refl _, .refl _, .nil, .nil, .nil, .refl _, trivial⟩, .refl _, .refl _, trivial⟩
    rw [show ((rdC s).2.1 != ({ data := #[] } : ByteArray).data.toList) = false from by rw [h2]; rfl]
    conv => whnf
    have hn := read_nil (((s.getD 0 0).toNat : Nat) : Int) (((s.getD 1 0).toNat : Nat) : Int) ((s.take (b2 s 2)).drop 4, false) ht
    rw [hrd0] at hn
    have le1 : (AVal.d (slT 2 encG [])).le (.d (slT 2 encG (rdC s).1.gaps)) := by rw [hn.1]; exact .refl _
    have le2 : (AVal.d (slT 1 enc32 [])).le (.d (slT 1 enc32 (rdC s).1.dups)) := by rw [hn.2]; exact .refl _
    refine ⟨_, hR.argsC ⟨.agg ⟨.refl _, .refl _, .refl _, .refl _, .refl _, .refl _, .refl _, .refl _, .refl _, .refl _, le1, le2, .refl _, .refl _, trivial⟩, trivial⟩, ?_⟩
    rintro q rfl
    cases h3 : ((buildC (rdC s).1).2 == 0)
    · conv => whnf
      rw [bad2 (by simp only [okP, h1, h3]; simp)]
      refine ⟨_, ?_, rfl, rfl⟩
      exact .tup ⟨.agg ⟨.refl _, .refl _, .refl _, .refl _, .refl _, .refl _, .refl _, .refl _, .refl _, .refl _, .nil, .nil, .nil, .refl _, trivial⟩, .refl _, .refl _, trivial⟩
    conv => whnf
    repeat (refine ⟨by first | decide | omega, ?_⟩; conv => whnf)
    rw [hcut2]
    refine ⟨_, hT, ?_⟩
    rintro q rfl
    conv => whnf
    by_cases g5 : ((s.take (endN s)).drop (b2 s 2)).any (· != 0) = true
    · rw [show (Lib.trimB ((s.take (endN s)).drop (b2 s 2)) 0 != { data := #[] : ByteArray }.data.toList) = true from by
        rw [bne_iff_ne]
        intro e
        have h1 := htr.1 e
        rw [List.any_eq_true] at g5
        obtain ⟨x, hx, hx2⟩ := g5
        rw [h1 x hx] at hx2
        cases hx2]
      conv => whnf
      rw [bad2 (by simp only [okP, g5]; simp)]
      refine ⟨_, ?_, rfl, rfl⟩
      exact .tup ⟨.agg ⟨.refl _, .refl _, .refl _, .refl _, .refl _, .refl _, .refl _, .refl _, .refl _, .refl _, .nil, .nil, .nil, .refl _, trivial⟩, .refl _, .refl _, trivial⟩
    rw [show (Lib.trimB ((s.take (endN s)).drop (b2 s 2)) 0 != { data := #[] : ByteArray }.data.toList) = false from by
      rw [bne_eq_false_iff_eq]
      refine htr.2 fun x hx => ?_
      rw [Bool.not_eq_true, List.any_eq_false] at g5
      simpa using g5 x hx]
    conv => whnf
    rw [Bool.not_eq_true] at g5
    rw [show parseC s = ((rdC s).1, endN s, 0) from by
      unfold parseC
      rw [if_neg (by omega), if_neg (by omega), if_neg (by omega), if_neg (by omega), if_pos (by unfold okP; rw [h1, h2, h3, g5]; rfl)]]
    refine ⟨_, ?_, rfl, rfl⟩
    exact .tup ⟨.agg ⟨.refl _, .refl _, .refl _, .refl _, .refl _, .refl _, .refl _, .refl _, .refl _, .refl _, le1, le2, .refl _, .refl _, trivial⟩, .of_eq (by rw [hend]), .refl _, trivial⟩
end Go.Proofs.YtcdondbegnbdgaaDoor
