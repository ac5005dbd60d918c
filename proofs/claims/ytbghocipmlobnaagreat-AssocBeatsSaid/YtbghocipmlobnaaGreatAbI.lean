/- Chapter 19: time goes by for an association of two paths: contracts. -/
import Derived.Test.YtbghocipmlobnaaGreatAbH
namespace Go.Proofs.YtbghocipmlobnaaGreat
open Go Go.RowKit Towline Towline.Hand Towline.Ab
set_option linter.unusedVariables false
set_option linter.unusedSimpArgs false
set_option maxRecDepth 20000
set_option maxHeartbeats 4000000
/-- The text of a heartbeat. -/
abbrev xN (nonce k : Int) : Int := IntKind.u32.wrap (nonce + IntKind.u32.wrap k)
def infoB (i x : Int) : List UInt8 := [Tlv.u8 i, Tlv.u8 (shrOp .u32 x 24), Tlv.u8 (shrOp .u32 x 16), Tlv.u8 (shrOp .u32 x 8), Tlv.u8 x]
theorem infoB_row (i x : Int) : ∀ k, k < 5 → ([D.i .u8 (IntKind.u8.wrap i)] :: [D.i .u8 (IntKind.u8.wrap (shrOp .u32 x 24))] :: [D.i .u8 (IntKind.u8.wrap (shrOp .u32 x 16))] :: [D.i .u8 (IntKind.u8.wrap (shrOp .u32 x 8))] :: [D.i .u8 (IntKind.u8.wrap x)] :: replF 0 ty5.zero).getD (0 + k) [] = bytesF (infoB i x) k := by
  intro j hj
  rw [Nat.zero_add]
  match j, hj with
  | 0, _ => show [D.i .u8 (IntKind.u8.wrap i)] = [D.i .u8 ((Tlv.u8 i).toNat : Nat)]; rw [Tlv.u8_wrap]
  | 1, _ => show [D.i .u8 (IntKind.u8.wrap _)] = [D.i .u8 ((Tlv.u8 (shrOp .u32 x 24)).toNat : Nat)]; rw [Tlv.u8_wrap]
  | 2, _ => show [D.i .u8 (IntKind.u8.wrap _)] = [D.i .u8 ((Tlv.u8 (shrOp .u32 x 16)).toNat : Nat)]; rw [Tlv.u8_wrap]
  | 3, _ => show [D.i .u8 (IntKind.u8.wrap _)] = [D.i .u8 ((Tlv.u8 (shrOp .u32 x 8)).toNat : Nat)]; rw [Tlv.u8_wrap]
  | 4, _ => show [D.i .u8 (IntKind.u8.wrap x)] = [D.i .u8 ((Tlv.u8 x).toNat : Nat)]; rw [Tlv.u8_wrap]
abbrev cHb : K := ⟨4, 0, 0, 0, 0, 0, 0, 0, 0, 0, []⟩
abbrev itHb (i x : Int) : D := .sl 2 1 fun k => ([D.i .i64 1, D.s (infoB i x)] :: replF 0 ty35.zero).getD k []
theorem keptM_spec : PSpec Tryz.prog 59 [nilA, .any] (· = .tup [nilA, nilA]) := by
  refine PSpec.run (tysOk) followsB Tryz.func59 (by decide) rfl Tryz.ntmps59 (Nat.le_of_ble_eq_true rfl) rfl fun w0 R0 hGw => ?_
  conv => whnf
  refine ALoop.rounds (tysOk) followsB 1 ?_
  conv => whnf
  exact ⟨_, .refl _, rfl, rfl⟩
theorem ids0_spec : PSpec Tryz.prog 61 [.agg [nilA, vi 0, nilA]] (· = nilA) := by
  refine PSpec.run (tysOk) followsB Tryz.func61 (by decide) rfl Tryz.ntmps61 (Nat.le_of_ble_eq_true rfl) rfl fun w0 R0 hGw => ?_
  conv => whnf
  refine ALoop.rounds (tysOk) followsB 1 ?_
  conv => whnf
  exact ⟨_, .refl _, rfl, rfl⟩
theorem expire0_spec (sn : D) (now : Int) : PSpec Tryz.prog 22 [.agg [nilA, vi 0, .d sn], vi now] (· = .tup [.agg [nilA, vi 0, .d sn], nilA]) := by
  refine PSpec.run (tysOk) followsB Tryz.func22 (by decide) rfl Tryz.ntmps22 (Nat.le_of_ble_eq_true rfl) rfl fun w0 R0 hGw => ?_
  conv => whnf
  refine ⟨_, (keptM_spec.argsC ⟨.refl _, .any _, trivial⟩), ?_⟩
  rintro q rfl
  conv => whnf
  refine ⟨_, ids0_spec, ?_⟩
  conv => whnf
  refine ⟨by kernel_rfl, ?_⟩
  conv => whnf
  exact ⟨_, .refl _, rfl, rfl⟩
theorem reply00IV_spec (h : H) (p q : Pth) (sn : D) (xc gc : Int) (qn : D) (x y : Int) (tw : Int) (m : Nat) (ob : AObj) (ho : ∃ f, ob = .row 58 2 m f) : LSpec Tryz.prog 17 [.ptr Z0 0, vi tw, nilA] (bsIV h p q sn xc gc qn x y m ob) (fun r hl => r = .tup [] ∧ hl = bsIV h p q sn xc gc qn x y m ob) := by
  obtain ⟨f, rfl⟩ := ho
  refine LSpec.run (tysBOk) followsB Tryz.func17 (by decide) rfl Tryz.ntmps17 (Nat.le_of_ble_eq_true rfl) rfl rfl fun w0 R0 Lo hGw => ?_
  conv => whnf
  refine ALoop.rounds tysBOk followsB 1 ?_
  conv => whnf
  refine ⟨_, _, .refl _, ?_, rfl, rfl⟩
  exact ⟨OLe.refl _, OLe.refl _, OLe.refl _, OLe.refl _, OLe.refl _, trivial⟩
theorem empty3_spec (h : H) (hs : h.st = 3) (cum now : Int) : PSpec Tryz.prog 74 [hA h, v32 cum, vi now] (· = .tup [hA h, nilA]) := by
  obtain ⟨st, tr, du, ot, pt, ou, pu, mi, wi, os_, is_, co⟩ := h
  dsimp only at hs
  subst hs
  refine PSpec.run (tysOk) followsB Tryz.func74 (by decide) rfl Tryz.ntmps74 (Nat.le_of_ble_eq_true rfl) rfl fun w0 R0 hGw => ?_
  conv => whnf
  exact ⟨_, .refl _, rfl, rfl⟩
theorem wholeIV_spec (h : H) (hs : h.st = 3) (p q : Pth) (xc gc : Int) (x y : Int) (now : Int) (m : Nat) (ob : AObj) (ho : ∃ f, ob = .row 58 2 m f) : LSpec Tryz.prog 31 [.ptr Z0 0, vi now] (bsIV h p q sN xc gc sN x y m ob) (fun r hl => r = .tup [] ∧ hl = bsIV h p q sN xc gc sN x y m ob) := by
  obtain ⟨f, rfl⟩ := ho
  refine LSpec.run (tysBOk) followsB Tryz.func31 (by decide) rfl Tryz.ntmps31 (Nat.le_of_ble_eq_true rfl) rfl rfl fun w0 R0 Lo hGw => ?_
  conv => whnf
  refine ⟨by first | omega | decide +kernel, ?_⟩
  conv => whnf
  refine ⟨by first | omega | decide +kernel, ?_⟩
  conv => whnf
  refine ⟨by first | omega | decide +kernel, ?_⟩
  conv => whnf
  refine ⟨by first | omega | decide +kernel, ?_⟩
  conv => whnf
  refine ⟨_, (emptyB_spec h p q sN xc gc sN _ _ _ _), ?_⟩
  rintro q rfl
  conv => whnf
  refine ⟨_, (empty3_spec h hs gc now), ?_⟩
  conv => whnf
  refine ⟨by kernel_rfl, ?_⟩
  conv => whnf
  refine ⟨_, (reply00IV_spec h p q sN xc gc sN x y (-1) m _ ⟨_, rfl⟩), ?_⟩
  rintro q hq ⟨rfl, rfl⟩
  conv => whnf
  refine ⟨_, _, .refl _, ?_, rfl, rfl⟩
  exact ⟨OLe.refl _, OLe.refl _, OLe.refl _, OLe.refl _, OLe.refl _, trivial⟩
theorem tick0_spec (h : H) (hd : h.due = 0) (cum now : Int) : PSpec Tryz.prog 24 [hA h, v32 cum, vi now] (· = .tup [hA h, nilA, vi 0]) := by
  obtain ⟨st, tr, du, ot, pt, ou, pu, mi, wi, os_, is_, co⟩ := h
  dsimp only at hd
  subst hd
  refine PSpec.run (tysOk) followsB Tryz.func24 (by decide) rfl Tryz.ntmps24 (Nat.le_of_ble_eq_true rfl) rfl fun w0 R0 hGw => ?_
  conv => whnf
  exact ⟨_, .refl _, rfl, rfl⟩
theorem tickW_spec (nonce : Int) : LSpec Tryz.prog 8 [.ptr Z0 0, vi 31000, v32 nonce] (bsIII h3A pB qB sN 4294967289 999 sN 0 0) (fun r hl => r = .tup [] ∧ hl = [(Z0, .box (bsL h3A (beatP pB (xN nonce 0) 31000) (beatP qB (xN nonce 1) 31000) sN 4294967289 999 sN (.rsl 77 2 0 2) (.rsl Z1 2 0 1) (.rsl Z2 1 0 2) (.rsl Z3 1 0 2))), (77, out2 0 cHb (itHb 0 (xN nonce 0)) 1 cHb (itHb 1 (xN nonce 1))), (Z1, noteO), (Z2, row2 0 0), (Z3, row2 0 0)]) := by
  refine LSpec.run (tysBOk) followsB Tryz.func8 (by decide) rfl Tryz.ntmps8 (Nat.le_of_ble_eq_true rfl) rfl rfl fun w0 R0 Lo hGw => ?_
  conv => whnf
  refine ⟨by first | omega | decide +kernel, ?_⟩
  conv => whnf
  refine ⟨by first | omega | decide +kernel, ?_⟩
  conv => whnf
  refine ⟨by first | omega | decide +kernel, ?_⟩
  conv => whnf
  refine ⟨_, (closedB_spec h3A pB qB sN 4294967289 999 sN nilD _ _ _), ?_⟩
  rintro q rfl
  conv => whnf
  refine ⟨_, (expire0_spec sN 31000), ?_⟩
  rintro q rfl
  conv => whnf
  refine ALoop.rounds tysBOk followsB 1 ?_
  conv => whnf
  refine ⟨_, (tick0_spec h3A rfl 999 31000), ?_⟩
  conv => whnf
  refine ⟨by kernel_rfl, ?_⟩
  conv => whnf
  refine ⟨_, (noted00_spec h3A pB qB sN 4294967289 999 sN 0 0), ?_⟩
  rintro q hq ⟨rfl, rfl⟩
  conv => whnf
  refine ⟨_, (chooseP_spec pB qB rfl rfl), ?_⟩
  conv => whnf
  refine ⟨_, _, (reply00_spec h3A pB qB sN 4294967289 999 sN 0 0 0), ?_⟩
  conv => whnf
  refine ⟨by kernel_rfl, ?_⟩
  conv => whnf
  refine ALoop.rounds tysBOk followsB 3 ?_
  conv => whnf
  refine ⟨by first | omega | decide +kernel, ?_⟩
  conv => whnf
  refine ⟨by first | omega | decide +kernel, ?_⟩
  conv => whnf
  refine ⟨by first | omega | decide +kernel, ?_⟩
  conv => whnf
  refine ⟨by first | omega | decide +kernel, ?_⟩
  conv => whnf
  refine ⟨by first | omega | decide +kernel, ?_⟩
  conv => whnf
  refine ⟨by first | omega | decide +kernel, ?_⟩
  conv => whnf
  refine ALoop.roundsR tysBOk followsB 3 [(208000, 77)] [0, 1, 2, 3, 4, 5, 6, 7, 8, 9, 10, 11, 12, 137, 138, 139] [Z0, Z1, Z2, Z3, 77] ?_
  conv => whnf
  refine ⟨by first | omega | decide +kernel, ?_⟩
  conv => whnf
  refine ⟨by first | omega | decide +kernel, ?_⟩
  conv => whnf
  refine ⟨by first | omega | decide +kernel, ?_⟩
  conv => whnf
  refine ⟨_, (beatDue0_spec h3A pB qB sN 4294967289 999 sN nilD _ _ 0 0 rfl rfl rfl), ?_⟩
  rintro q rfl
  conv => whnf
  refine ⟨by first | omega | decide +kernel, ?_⟩
  conv => whnf
  refine ⟨by first | omega | decide +kernel, ?_⟩
  conv => whnf
  refine ⟨by first | omega | decide +kernel, ?_⟩
  conv => whnf
  refine ⟨by first | omega | decide +kernel, ?_⟩
  conv => whnf
  refine ⟨_, (closedB_spec h3A pB qB sN 4294967289 999 sN nilD _ _ _), ?_⟩
  rintro q rfl
  conv => whnf
  refine ⟨_, (beatA_spec pB qB _ 31000), ?_⟩
  conv => whnf
  rintro q rfl
  conv => whnf
  refine ⟨by first | omega | decide +kernel, ?_⟩
  conv => whnf
  refine ⟨by first | omega | decide +kernel, ?_⟩
  conv => whnf
  refine ⟨by first | omega | decide +kernel, ?_⟩
  conv => whnf
  refine ⟨infoB 0 (xN nonce 0), ⟨rfl, by decide, infoB_row 0 (xN nonce 0)⟩, ?_⟩
  conv => whnf
  refine ⟨_, (LSpec.argsC (reply0III_spec h3A (beatP pB (xN nonce 0) 31000) qB sN 4294967289 999 sN 0 0 cHb (itHb 0 (xN nonce 0))) ⟨.refl _, .refl _, .sl rfl fun k hk => by cases k0 hk; rfl, trivial⟩), ?_⟩
  rintro q hq ⟨rfl, rfl⟩
  conv => whnf
  dsimp only [newBase, Nat.reduceAdd, Nat.reduceMul]
  refine ⟨by first | omega | decide +kernel, ?_⟩
  conv => whnf
  refine ⟨by first | omega | decide +kernel, ?_⟩
  conv => whnf
  refine ⟨by first | omega | decide +kernel, ?_⟩
  conv => whnf
  refine ⟨by first | omega | decide +kernel, ?_⟩
  conv => whnf
  refine ⟨by first | omega | decide +kernel, ?_⟩
  conv => whnf
  refine ⟨_, (beatDue1_spec h3A (beatP pB (xN nonce 0) 31000) qB sN 4294967289 999 sN _ _ _ 0 0 rfl rfl rfl), ?_⟩
  rintro q rfl
  conv => whnf
  refine ⟨by first | omega | decide +kernel, ?_⟩
  conv => whnf
  refine ⟨by first | omega | decide +kernel, ?_⟩
  conv => whnf
  refine ⟨by first | omega | decide +kernel, ?_⟩
  conv => whnf
  refine ⟨by first | omega | decide +kernel, ?_⟩
  conv => whnf
  refine ⟨by first | omega | decide +kernel, ?_⟩
  conv => whnf
  refine ⟨_, (closedB_spec h3A (beatP pB (xN nonce 0) 31000) qB sN 4294967289 999 sN _ _ _ _), ?_⟩
  rintro q rfl
  conv => whnf
  refine ⟨_, (beatB_spec (beatP pB (xN nonce 0) 31000) qB _ 31000), ?_⟩
  conv => whnf
  rintro q rfl
  conv => whnf
  refine ⟨by first | omega | decide +kernel, ?_⟩
  conv => whnf
  refine ⟨by first | omega | decide +kernel, ?_⟩
  conv => whnf
  refine ⟨by first | omega | decide +kernel, ?_⟩
  conv => whnf
  refine ⟨infoB 1 (xN nonce 1), ⟨rfl, by decide, infoB_row 1 (xN nonce 1)⟩, ?_⟩
  conv => whnf
  refine ⟨_, (LSpec.argsC (reply1IV_spec h3A (beatP pB (xN nonce 0) 31000) (beatP qB (xN nonce 1) 31000) sN 4294967289 999 sN 0 0 0 cHb (itHb 0 (xN nonce 0)) cHb (itHb 1 (xN nonce 1))) ⟨.refl _, .refl _, .sl rfl fun k hk => by cases k0 hk; rfl, trivial⟩), ?_⟩
  rintro q hq ⟨rfl, rfl⟩
  conv => whnf
  refine ⟨by first | omega | decide +kernel, ?_⟩
  conv => whnf
  refine ⟨by first | omega | decide +kernel, ?_⟩
  conv => whnf
  refine ⟨by first | omega | decide +kernel, ?_⟩
  conv => whnf
  refine ⟨by first | omega | decide +kernel, ?_⟩
  conv => whnf
  refine ⟨by first | omega | decide +kernel, ?_⟩
  conv => whnf
  refine ⟨_, (closedB_spec h3A (beatP pB (xN nonce 0) 31000) (beatP qB (xN nonce 1) 31000) sN 4294967289 999 sN _ _ _ _), ?_⟩
  rintro q rfl
  conv => whnf
  refine ⟨_, (wholeIV_spec h3A rfl (beatP pB (xN nonce 0) 31000) (beatP qB (xN nonce 1) 31000) 4294967289 999 0 0 31000 2 _ ⟨_, rfl⟩), ?_⟩
  rintro q hq ⟨rfl, rfl⟩
  conv => whnf
  refine ⟨_, _, .refl _, ?_, rfl, rfl⟩
  exact ⟨OLe.refl _, OLe.refl _, OLe.refl _, OLe.refl _, OLe.refl _, trivial⟩
end Go.Proofs.YtbghocipmlobnaaGreat
