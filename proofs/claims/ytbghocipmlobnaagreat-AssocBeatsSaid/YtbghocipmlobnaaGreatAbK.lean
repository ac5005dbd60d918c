/- Chapter 19: AssocBeats. -/
import Derived.Test.YtbghocipmlobnaaGreatAbJ
namespace Go.Proofs.YtbghocipmlobnaaGreat
open Go Go.RowKit Towline Towline.Hand Towline.Ab
set_option linter.unusedVariables false
set_option linter.unusedSimpArgs false
set_option maxRecDepth 20000
set_option maxHeartbeats 4000000
theorem wrap32r (n : Int) : 0 ≤ IntKind.u32.wrap n ∧ IntKind.u32.wrap n < 4294967296 := by simp [IntKind.wrap, IntKind.signed, IntKind.bits]; omega
theorem rightHa5 (v : List UInt8) (h : v.length = 5) : ((buildC (chOf cHa [⟨1, v⟩])).2 == 0) = true := by
  obtain ⟨a, b, c, d, e, rfl⟩ := list5 h
  have hb : Tlv.buildL [⟨1, [a, b, c, d, e]⟩] = (Tlv.bytes [⟨1, [a, b, c, d, e]⟩], 0) := by
    unfold Tlv.buildL
    rw [if_neg (by simp [Tlv.badTy]), if_neg (by simp [Tlv.longV]), if_neg (by simp [Tlv.bytes, Tlv.enc, Tlv.hdr, Tlv.tailB, Tlv.padN])]
  have g : goodC (chOf cHa [⟨1, [a, b, c, d, e]⟩]) = true := by
    unfold goodC
    rw [Bool.and_eq_true, Bool.and_eq_true]
    refine ⟨⟨?_, rfl⟩, decide_eq_true rfl⟩
    show ((Tlv.buildL [⟨1, [a, b, c, d, e]⟩]).2 == 0) = true
    rw [hb]
    rfl
  unfold buildC
  rw [if_pos g, if_neg (by rw [encC_len]; simp [valB, preB, headB, chOf, Tlv.cutB, Tlv.lastN, Tlv.bytes, Tlv.enc, Tlv.hdr, Tlv.tailB, Tlv.padN])]
  rfl
abbrev lentAc : List (Nat × List Bool) := (7, []) :: lentAb
abbrev TC : Tys := tysX false [] lentAc [3000000000 + 41, 3000000000 + 35, 2000000000 + 26]
theorem tysCOk : TysOk Tryz.prog TC := tysXOk _ _ _ _
theorem pathsL_spec (h : H) (p q : Pth) (sn : D) (xc gc : Int) (qn : D) (x y : Int) : LSpec Tryz.prog 7 [.ptr Z0 0] (bsIII h p q sn xc gc qn x y) (fun r hl => r = .agg [.rsl 10 14 0 2, vi 0, vi 0] ∧ hl = bsIII h p q sn xc gc qn x y ++ [(10, rowP p q)]) := by
  refine LSpec.run (tysCOk) followsB Tryz.func7 (by decide) rfl Tryz.ntmps7 (Nat.le_of_ble_eq_true rfl) rfl rfl fun w0 R0 Lo hGw => ?_
  conv => whnf
  refine ⟨_, (cloneP_spec p q), ?_⟩
  rintro q rfl
  conv => whnf
  refine ⟨_, _, .refl _, ?_, rfl, rfl⟩
  exact ⟨OLe.refl _, OLe.refl _, OLe.refl _, OLe.refl _, OLe.refl _, trivial⟩
theorem itHb_le (i x : Int) : (AVal.d (itHb i x)).le (.d (itV1 (infoB i x))) := .sl rfl fun k hk => by cases k0 hk; rfl
theorem infoB_len (i x : Int) : (infoB i x).length = 5 := rfl
theorem beats_spec (nonce : Int) (wrong : List UInt8) (first : Bool) : PSpec Tryz.prog 3 [v32 nonce, vs wrong, vb first] (· = vb true) := by
  refine PSpec.run (tysCOk) followsB Tryz.func3 (by decide) rfl Tryz.ntmps3 (Nat.le_of_ble_eq_true rfl) rfl fun w0 R0 hGw => ?_
  conv => whnf
  refine ⟨_, shownA_spec, ?_⟩
  rintro q rfl
  conv => whnf
  refine ⟨_, metLaw_spec, ?_⟩
  rintro q hq ⟨rfl, rfl⟩
  conv => whnf
  dsimp only [newBase, Nat.reduceAdd, Nat.reduceMul]
  split <;> rename_i g
  · conv => whnf
    exact ⟨_, .refl _, rfl, rfl⟩
  conv => whnf
  refine ⟨by first | omega | decide +kernel, ?_⟩
  conv => whnf
  cases first
  · conv => whnf
    refine ⟨_, (tickW_spec nonce), ?_⟩
    rintro q hq ⟨rfl, rfl⟩
    conv => whnf
    dsimp only [newBase, Nat.reduceAdd, Nat.reduceMul]
    refine ⟨_, (flushB3_spec h3A (beatP pB (xN nonce 0) 31000) (beatP qB (xN nonce 1) 31000) sN 4294967289 999 sN 0 0 31000 2 _ rfl rfl ⟨_, rfl⟩), ?_⟩
    rintro q hq ⟨rfl, rfl⟩
    conv => whnf
    dsimp only [newBase, Nat.reduceAdd, Nat.reduceMul]
    refine ALoop.roundsK tysBOk followsB 3 [9, 11, 12, 13] [19006, 59000, 19007, 19008, 19009] ?_
    conv => whnf
    repeat (refine ⟨by first | omega | decide +kernel, ?_⟩; conv => whnf)
    refine ALoop.rounds tysBOk followsB 2 ?_
    conv => whnf
    repeat (refine ⟨by first | omega | decide +kernel, ?_⟩; conv => whnf)
    refine ALoop.rounds tysBOk followsB 2 ?_
    conv => whnf
    refine ⟨by first | omega | decide +kernel, ?_⟩
    conv => whnf
    refine ⟨by first | omega | decide +kernel, ?_⟩
    conv => whnf
    refine ⟨by first | omega | decide +kernel, ?_⟩
    conv => whnf
    refine ⟨by first | omega | decide +kernel, ?_⟩
    conv => whnf
    refine ⟨by first | omega | decide +kernel, ?_⟩
    conv => whnf
    refine ⟨by first | omega | decide +kernel, ?_⟩
    conv => whnf
    refine ⟨by first | omega | decide +kernel, ?_⟩
    conv => whnf
    refine ⟨by first | omega | decide +kernel, ?_⟩
    conv => whnf
    have hw := wrap32r (nonce + IntKind.u32.wrap 1)
    have hr := rightHa5 _ (infoB_len 1 (xN nonce 1))
    have hc := takeGood_spec (beatP pB (xN nonce 0) 31000) (xN nonce 1) hw hr
    have hd := LSpec.argsC (args' := [.ptr Z0 0, .agg [vi 5, vi 0, v32 0, v32 0, v32 0, v32 0, v16 0, v16 0, v16 0, v16 0, nilA, nilA, .d (itHb 1 (xN nonce 1)), vs []], vi 1, vi 31500]) hc ⟨.refl _, .agg ⟨.refl _, .refl _, .refl _, .refl _, .refl _, .refl _, .refl _, .refl _, .refl _, .refl _, .refl _, .refl _, itHb_le 1 (xN nonce 1), .refl _, trivial⟩, .refl _, .refl _, trivial⟩
    clear hw hr hc
    refine ⟨_, hd, ?_⟩
    rintro q hq ⟨rfl, rfl⟩
    unfold ABack
    generalize hfr : freshN _ _ _ _ = fb
    have hb : fb = true := by
      rw [← hfr]
      conv => lhs; whnf
    subst hb
    clear hfr
    dsimp only
    conv => whnf
    dsimp only [newBase, Nat.reduceAdd, Nat.reduceMul]
    clear hd
    refine ⟨by first | omega | decide +kernel, ?_⟩
    conv => whnf
    refine ⟨by first | omega | decide +kernel, ?_⟩
    conv => whnf
    refine ⟨by first | omega | decide +kernel, ?_⟩
    conv => whnf
    refine ⟨by first | omega | decide +kernel, ?_⟩
    conv => whnf
    refine ⟨_, (pathsL_spec h3A (beatP pB (xN nonce 0) 31000) (goodP (ackP (beatP qB (xN nonce 1) 31000))) sN 4294967289 999 sN 0 31500), ?_⟩
    rintro q hq ⟨rfl, rfl⟩
    unfold ABack
    generalize hfr : freshN _ _ _ _ = fb
    have hb : fb = true := by
      rw [← hfr]
      conv => lhs; whnf
    subst hb
    clear hfr
    dsimp only
    conv => whnf
    dsimp only [newBase, Nat.reduceAdd, Nat.reduceMul]
    refine ⟨by first | omega | decide +kernel, ?_⟩
    conv => whnf
    refine ⟨by first | omega | decide +kernel, ?_⟩
    conv => whnf
    refine ⟨by first | omega | decide +kernel, ?_⟩
    conv => whnf
    refine ⟨by first | omega | decide +kernel, ?_⟩
    conv => whnf
    refine ⟨by first | omega | decide +kernel, ?_⟩
    conv => whnf
    refine ⟨by first | omega | decide +kernel, ?_⟩
    conv => whnf
    refine ⟨by first | omega | decide +kernel, ?_⟩
    conv => whnf
    refine ⟨by first | omega | decide +kernel, ?_⟩
    conv => whnf
    refine ⟨by first | omega | decide +kernel, ?_⟩
    conv => whnf
    refine ⟨_, (stateB_spec h3A (beatP pB (xN nonce 0) 31000) (goodP (ackP (beatP qB (xN nonce 1) 31000))) sN 4294967289 999 sN nilD _ _ _), ?_⟩
    rintro q rfl
    conv => whnf
    exact ⟨_, .refl _, rfl, rfl⟩
  · conv => whnf
    refine ⟨_, (LSpec.argsC (takeBad_spec wrong) ⟨.refl _, .agg ⟨.refl _, .refl _, .refl _, .refl _, .refl _, .refl _, .refl _, .refl _, .refl _, .refl _, .refl _, .refl _, .sl rfl fun k hk => by cases k0 hk; rfl, .refl _, trivial⟩, .refl _, .refl _, trivial⟩), ?_⟩
    rintro q hq ⟨rfl, rfl⟩
    conv => whnf
    dsimp only [newBase, Nat.reduceAdd, Nat.reduceMul]
    refine ⟨_, (pathsL_spec h3A pB qB sN 4294967289 999 sN 0 0), ?_⟩
    rintro q hq ⟨rfl, rfl⟩
    unfold ABack
    generalize hfr : freshN _ _ _ _ = fb
    have hb : fb = true := by
      rw [← hfr]
      conv => lhs; whnf
    subst hb
    clear hfr
    dsimp only
    conv => whnf
    dsimp only [newBase, Nat.reduceAdd, Nat.reduceMul]
    refine ⟨by first | omega | decide +kernel, ?_⟩
    conv => whnf
    refine ⟨by first | omega | decide +kernel, ?_⟩
    conv => whnf
    refine ⟨_, (tickW_spec nonce), ?_⟩
    rintro q hq ⟨rfl, rfl⟩
    conv => whnf
    dsimp only [newBase, Nat.reduceAdd, Nat.reduceMul]
    refine ⟨_, (flushB3_spec h3A (beatP pB (xN nonce 0) 31000) (beatP qB (xN nonce 1) 31000) sN 4294967289 999 sN 0 0 31000 2 _ rfl rfl ⟨_, rfl⟩), ?_⟩
    rintro q hq ⟨rfl, rfl⟩
    conv => whnf
    dsimp only [newBase, Nat.reduceAdd, Nat.reduceMul]
    refine ALoop.roundsK tysBOk followsB 3 [9, 11, 12, 13] [19006, 59000, 19007, 19008, 19009] ?_
    conv => whnf
    repeat (refine ⟨by first | omega | decide +kernel, ?_⟩; conv => whnf)
    refine ALoop.rounds tysBOk followsB 2 ?_
    conv => whnf
    repeat (refine ⟨by first | omega | decide +kernel, ?_⟩; conv => whnf)
    refine ALoop.rounds tysBOk followsB 2 ?_
    conv => whnf
    refine ⟨by first | omega | decide +kernel, ?_⟩
    conv => whnf
    refine ⟨by first | omega | decide +kernel, ?_⟩
    conv => whnf
    refine ⟨by first | omega | decide +kernel, ?_⟩
    conv => whnf
    refine ⟨by first | omega | decide +kernel, ?_⟩
    conv => whnf
    refine ⟨by first | omega | decide +kernel, ?_⟩
    conv => whnf
    refine ⟨by first | omega | decide +kernel, ?_⟩
    conv => whnf
    refine ⟨by first | omega | decide +kernel, ?_⟩
    conv => whnf
    refine ⟨by first | omega | decide +kernel, ?_⟩
    conv => whnf
    have hw := wrap32r (nonce + IntKind.u32.wrap 1)
    have hr := rightHa5 _ (infoB_len 1 (xN nonce 1))
    have hc := takeGood_spec (beatP pB (xN nonce 0) 31000) (xN nonce 1) hw hr
    have hd := LSpec.argsC (args' := [.ptr Z0 0, .agg [vi 5, vi 0, v32 0, v32 0, v32 0, v32 0, v16 0, v16 0, v16 0, v16 0, nilA, nilA, .d (itHb 1 (xN nonce 1)), vs []], vi 1, vi 31500]) hc ⟨.refl _, .agg ⟨.refl _, .refl _, .refl _, .refl _, .refl _, .refl _, .refl _, .refl _, .refl _, .refl _, .refl _, .refl _, itHb_le 1 (xN nonce 1), .refl _, trivial⟩, .refl _, .refl _, trivial⟩
    clear hw hr hc
    refine ⟨_, hd, ?_⟩
    rintro q hq ⟨rfl, rfl⟩
    unfold ABack
    generalize hfr : freshN _ _ _ _ = fb
    have hb : fb = true := by
      rw [← hfr]
      conv => lhs; whnf
    subst hb
    clear hfr
    dsimp only
    conv => whnf
    dsimp only [newBase, Nat.reduceAdd, Nat.reduceMul]
    clear hd
    refine ⟨by first | omega | decide +kernel, ?_⟩
    conv => whnf
    refine ⟨by first | omega | decide +kernel, ?_⟩
    conv => whnf
    refine ⟨by first | omega | decide +kernel, ?_⟩
    conv => whnf
    refine ⟨by first | omega | decide +kernel, ?_⟩
    conv => whnf
    refine ⟨_, (pathsL_spec h3A (beatP pB (xN nonce 0) 31000) (goodP (ackP (beatP qB (xN nonce 1) 31000))) sN 4294967289 999 sN 0 31500), ?_⟩
    rintro q hq ⟨rfl, rfl⟩
    unfold ABack
    generalize hfr : freshN _ _ _ _ = fb
    have hb : fb = true := by
      rw [← hfr]
      conv => lhs; whnf
    subst hb
    clear hfr
    dsimp only
    conv => whnf
    dsimp only [newBase, Nat.reduceAdd, Nat.reduceMul]
    refine ⟨by first | omega | decide +kernel, ?_⟩
    conv => whnf
    refine ⟨by first | omega | decide +kernel, ?_⟩
    conv => whnf
    refine ⟨by first | omega | decide +kernel, ?_⟩
    conv => whnf
    refine ⟨by first | omega | decide +kernel, ?_⟩
    conv => whnf
    refine ⟨by first | omega | decide +kernel, ?_⟩
    conv => whnf
    refine ⟨by first | omega | decide +kernel, ?_⟩
    conv => whnf
    refine ⟨by first | omega | decide +kernel, ?_⟩
    conv => whnf
    refine ⟨by first | omega | decide +kernel, ?_⟩
    conv => whnf
    refine ⟨by first | omega | decide +kernel, ?_⟩
    conv => whnf
    refine ⟨_, (stateB_spec h3A (beatP pB (xN nonce 0) 31000) (goodP (ackP (beatP qB (xN nonce 1) 31000))) sN 4294967289 999 sN nilD _ _ _), ?_⟩
    rintro q rfl
    conv => whnf
    exact ⟨_, .refl _, rfl, rfl⟩
end Go.Proofs.YtbghocipmlobnaaGreat
