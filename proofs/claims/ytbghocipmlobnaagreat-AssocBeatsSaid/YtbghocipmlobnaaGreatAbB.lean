/- Chapter 19: an association of two paths: what only reads. -/
import Derived.Test.YtbghocipmlobnaaGreatAbA
namespace Go.Proofs.YtbghocipmlobnaaGreat
open Go Go.RowKit Towline Towline.Hand Towline.Ab
set_option linter.unusedVariables false
set_option linter.unusedSimpArgs false
set_option maxRecDepth 20000
set_option maxHeartbeats 4000000
/-- The cells of an association of two paths on which no message was sent. -/
abbrev bsL (h : H) (p q : Pth) (sn : D) (xc gc : Int) (qn : D) (out notes due heard : AVal) : List AVal :=
  [vi h.st, vi h.tries, vi h.due, v32 h.ourTag, v32 h.peerTag, v32 h.ourTsn, v32 h.peerTsn, v32 h.mine, v32 h.window, v16 h.outs, v16 h.ins, vs h.cookie,
   .d (p2 p q), vi 0, vi 0, nilA, vi 0, .d sn, v32 xc, nilA, .d .o, v32 gc, nilA, nilA, nilA, .d qn, nilA, nilA, vi 60000, out, notes, vi 0, vb false, vi 0, vi 0, due, heard]
abbrev bsD (h : H) (p q : Pth) (sn : D) (xc gc : Int) (qn : D) (out notes due heard : D) : List D :=
  [.i .i64 h.st, .i .i64 h.tries, .i .i64 h.due, .i .u32 h.ourTag, .i .u32 h.peerTag, .i .u32 h.ourTsn, .i .u32 h.peerTsn, .i .u32 h.mine, .i .u32 h.window, .i .u16 h.outs, .i .u16 h.ins, .s h.cookie,
   p2 p q, .i .i64 0, .i .i64 0, nilD, .i .i64 0, sn, .i .u32 xc, nilD, .o, .i .u32 gc, nilD, nilD, nilD, qn, nilD, nilD, .i .i64 60000, out, notes, .i .i64 0, .b false, .i .i64 0, .i .i64 0, due, heard]
abbrev bsE (h : H) (p q : Pth) (sn : D) (xc gc : Int) (qn : D) (out notes due heard : D) : AVal := .eptr 37 1 (fun _ => bsD h p q sn xc gc qn out notes due heard) 0 0
theorem thereN_spec (h : H) (p q : Pth) (sn : D) (xc gc : Int) (qn : D) (out notes due heard : D) (hp : p.st = 2) : PSpec Tryz.prog 33 [bsE h p q sn xc gc qn out notes due heard, vi (-1)] (· = vi 0) := by
  refine PSpec.run (tysOk) followsB Tryz.func33 (by decide) rfl Tryz.ntmps33 (Nat.le_of_ble_eq_true rfl) rfl fun w0 R0 hGw => ?_
  conv => whnf
  refine ⟨_, (choose2_spec p q hp), ?_⟩
  rintro q rfl
  conv => whnf
  exact ⟨_, .refl _, rfl, rfl⟩
theorem there0_spec (h : H) (p q : Pth) (sn : D) (xc gc : Int) (qn : D) (out notes due heard : D) : PSpec Tryz.prog 33 [bsE h p q sn xc gc qn out notes due heard, vi 0] (· = vi 0) := by
  refine PSpec.run (tysOk) followsB Tryz.func33 (by decide) rfl Tryz.ntmps33 (Nat.le_of_ble_eq_true rfl) rfl fun w0 R0 hGw => ?_
  conv => whnf
  exact ⟨_, .refl _, rfl, rfl⟩
theorem there1_spec (h : H) (p q : Pth) (sn : D) (xc gc : Int) (qn : D) (out notes due heard : D) : PSpec Tryz.prog 33 [bsE h p q sn xc gc qn out notes due heard, vi 1] (· = vi 1) := by
  refine PSpec.run (tysOk) followsB Tryz.func33 (by decide) rfl Tryz.ntmps33 (Nat.le_of_ble_eq_true rfl) rfl fun w0 R0 hGw => ?_
  conv => whnf
  exact ⟨_, .refl _, rfl, rfl⟩
theorem closedB_spec (h : H) (p q : Pth) (sn : D) (xc gc : Int) (qn : D) (out notes due heard : D) : PSpec Tryz.prog 13 [bsE h p q sn xc gc qn out notes due heard] (· = vb (h.st == 0)) := by
  refine PSpec.run (tysOk) followsB Tryz.func13 (by decide) rfl Tryz.ntmps13 (Nat.le_of_ble_eq_true rfl) rfl fun w0 R0 hGw => ?_
  conv => whnf
  exact ⟨_, .refl _, rfl, rfl⟩
theorem emptyB_spec (h : H) (p q : Pth) (sn : D) (xc gc : Int) (qn : D) (out notes due heard : D) : PSpec Tryz.prog 58 [bsE h p q sn xc gc qn out notes due heard] (· = vb true) := by
  refine PSpec.run (tysOk) followsB Tryz.func58 (by decide) rfl Tryz.ntmps58 (Nat.le_of_ble_eq_true rfl) rfl fun w0 R0 hGw => ?_
  conv => whnf
  exact ⟨_, .refl _, rfl, rfl⟩
theorem stateB_spec (h : H) (p q : Pth) (sn : D) (xc gc : Int) (qn : D) (out notes due heard : D) : PSpec Tryz.prog 10 [bsE h p q sn xc gc qn out notes due heard] (· = vi h.st) := by
  refine PSpec.run (tysOk) followsB Tryz.func10 (by decide) rfl Tryz.ntmps10 (Nat.le_of_ble_eq_true rfl) rfl fun w0 R0 hGw => ?_
  conv => whnf
  exact ⟨_, .refl _, rfl, rfl⟩
theorem tellB_spec (h : H) (p q : Pth) (sn : D) (xc gc : Int) (qn : D) (out notes due heard : D) : PSpec Tryz.prog 32 [bsE h p q sn xc gc qn out notes due heard] (· = .tup []) := by
  refine PSpec.run (tysOk) followsB Tryz.func32 (by decide) rfl Tryz.ntmps32 (Nat.le_of_ble_eq_true rfl) rfl fun w0 R0 hGw => ?_
  conv => whnf
  exact ⟨_, .refl _, rfl, rfl⟩
theorem againB_spec (h : H) (p q : Pth) (sn : D) (xc gc : Int) (qn : D) (out notes due heard : D) (now : Int) : PSpec Tryz.prog 35 [bsE h p q sn xc gc qn out notes due heard, vi 0, vi now] (· = nilA) := by
  refine PSpec.run (tysOk) followsB Tryz.func35 (by decide) rfl Tryz.ntmps35 (Nat.le_of_ble_eq_true rfl) rfl fun w0 R0 hGw => ?_
  conv => whnf
  refine ⟨_, (losses_spec xc), ?_⟩
  rintro q rfl
  conv => whnf
  refine ALoop.rounds (tysOk) followsB 1 ?_
  conv => whnf
  exact ⟨_, .refl _, rfl, rfl⟩
theorem freshB_spec (h : H) (p q : Pth) (sn : D) (xc gc : Int) (qn : D) (out notes due heard : D) (now : Int) : PSpec Tryz.prog 36 [bsE h p q sn xc gc qn out notes due heard, vi 0, vi now] (· = nilA) := by
  refine PSpec.run (tysOk) followsB Tryz.func36 (by decide) rfl Tryz.ntmps36 (Nat.le_of_ble_eq_true rfl) rfl fun w0 R0 hGw => ?_
  conv => whnf
  refine ALoop.rounds (tysOk) followsB 1 ?_
  conv => whnf
  exact ⟨_, .refl _, rfl, rfl⟩
theorem pathsB_spec (h : H) (p q : Pth) (sn : D) (xc gc : Int) (qn : D) (out notes due heard : D) : PSpec Tryz.prog 7 [bsE h p q sn xc gc qn out notes due heard] (· = .agg (psL p q)) := by
  refine PSpec.run (tysOk) followsB Tryz.func7 (by decide) rfl Tryz.ntmps7 (Nat.le_of_ble_eq_true rfl) rfl fun w0 R0 hGw => ?_
  conv => whnf
  refine ⟨_, (cloneP_spec p q), ?_⟩
  rintro q rfl
  conv => whnf
  refine ⟨by first | omega | decide +kernel, ?_⟩
  conv => whnf
  exact ⟨_, .refl _, rfl, rfl⟩
theorem beatDue0_spec (h : H) (p q : Pth) (sn : D) (xc gc : Int) (qn : D) (out notes due : D) (x y : Int) (hx : x = 0) (hb : p.beaten = 0) (hr : p.rto = 1000) : PSpec Tryz.prog 29 [bsE h p q sn xc gc qn out notes due (.sl 1 2 fun k => match k with | 0 => [.i .i64 x] | _ + 1 => [.i .i64 y]), vi 0] (· = vi 31000) := by
  refine PSpec.run (tysOk) followsB Tryz.func29 (by decide) rfl Tryz.ntmps29 (Nat.le_of_ble_eq_true rfl) rfl fun w0 R0 hGw => ?_
  conv => whnf
  refine ⟨by first | omega | decide +kernel, ?_⟩
  conv => whnf
  refine ⟨by first | omega | decide +kernel, ?_⟩
  conv => whnf
  rw [hr]
  refine ⟨_, (rbeat_spec p.srtt p.var p.backs p.kn), ?_⟩
  conv => whnf
  rw [hx, hb]
  refine ⟨by first | omega | decide +kernel, ?_⟩
  conv => whnf
  refine ⟨by kernel_rfl, ?_⟩
  conv => whnf
  exact ⟨_, .refl _, rfl, rfl⟩
theorem beatDue1_spec (h : H) (p q : Pth) (sn : D) (xc gc : Int) (qn : D) (out notes due : D) (x y : Int) (hx : y = 0) (hb : q.beaten = 0) (hr : q.rto = 1000) : PSpec Tryz.prog 29 [bsE h p q sn xc gc qn out notes due (.sl 1 2 fun k => match k with | 0 => [.i .i64 x] | _ + 1 => [.i .i64 y]), vi 1] (· = vi 31000) := by
  refine PSpec.run (tysOk) followsB Tryz.func29 (by decide) rfl Tryz.ntmps29 (Nat.le_of_ble_eq_true rfl) rfl fun w0 R0 hGw => ?_
  conv => whnf
  refine ⟨by first | omega | decide +kernel, ?_⟩
  conv => whnf
  refine ⟨by first | omega | decide +kernel, ?_⟩
  conv => whnf
  rw [hr]
  refine ⟨_, (rbeat_spec q.srtt q.var q.backs q.kn), ?_⟩
  conv => whnf
  rw [hx, hb]
  refine ⟨by first | omega | decide +kernel, ?_⟩
  conv => whnf
  refine ⟨by kernel_rfl, ?_⟩
  conv => whnf
  exact ⟨_, .refl _, rfl, rfl⟩
end Go.Proofs.YtbghocipmlobnaaGreat
