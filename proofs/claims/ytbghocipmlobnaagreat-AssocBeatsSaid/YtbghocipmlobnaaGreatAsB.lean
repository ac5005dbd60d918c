/- Chapter 19: an association that begins: contracts. -/
import Derived.Test.YtbghocipmlobnaaGreatAsA
namespace Go.Proofs.YtbghocipmlobnaaGreat
open Go Go.RowKit Towline Towline.Hand
set_option linter.unusedVariables false
set_option linter.unusedSimpArgs false
set_option maxRecDepth 20000
set_option maxHeartbeats 4000000
theorem LSpec.argsC {P : Program} {f : FuncId} {args args' : List AVal} {hl : Heap} {post : AVal → Heap → Prop} (h : LSpec P f args hl post) (hc : OLe.CLe args' args) : LSpec P f args' hl post := by
  obtain ⟨hlen, hg⟩ := CLe_get hc
  exact ⟨h.1, fun w R L vs h0 h1 h2 h3 h4 h5 h6 h7 => h.2 w R L vs h0 h1 (h2.trans hlen.symm) h3 (fun i y hy => by
    obtain ⟨x, hx, hle⟩ := hg i y hy
    exact hle.out _ _ _ _ (h4 i x hx)) h5 h6 h7⟩
theorem k0 {k : Nat} (h : k < 1) : k = 0 := by omega
abbrev lentAs : List (Nat × List Bool) := [(37, []), (11, [true]), (17, [false, false, true]), (9, []), (43, []), (23, [])]
abbrev hF (h : H) : List AVal := [vi h.st, vi h.tries, vi h.due, v32 h.ourTag, v32 h.peerTag, v32 h.ourTsn, v32 h.peerTsn, v32 h.mine, v32 h.window, v16 h.outs, v16 h.ins, vs h.cookie]
/-- The cells of an association that nothing was sent on. -/
abbrev asL (h : H) (sn : D) (xc gc : Int) (qn : D) (win : Int) (out notes due heard : AVal) : List AVal :=
  [vi h.st, vi h.tries, vi h.due, v32 h.ourTag, v32 h.peerTag, v32 h.ourTsn, v32 h.peerTsn, v32 h.mine, v32 h.window, v16 h.outs, v16 h.ins, vs h.cookie,
   .d (.sl 14 1 fun _ => pathL), vi 0, vi 0, nilA, vi 0, .d sn, v32 xc, nilA, .d .o, v32 gc, nilA, nilA, nilA, .d qn, nilA, nilA, vi win, out, notes, vi 0, vb false, vi 0, vi 0, due, heard]
abbrev row0 : AObj := .row 3 1 1 fun _ => [.i .i64 0]
theorem begin_spec : LSpec Tryz.prog 37 [adr1, v32 60000, vi 0] [] (fun r hl => r = .tup [.ptr 28 0, vi 0] ∧ hl = [(28, .box (asL H.nil nilD 0 0 nilD 60000 nilA nilA (.rsl 26 1 0 1) (.rsl 41 1 0 1))), (26, row0), (41, row0)]) := by
  refine LSpec.run ((tysLOk lentAs)) followsB Tryz.func37 (by decide) rfl Tryz.ntmps37 (Nat.le_of_ble_eq_true rfl) rfl rfl fun w0 R0 Lo hGw => ?_
  conv => whnf
  refine ⟨_, pathNew_spec, ?_⟩
  rintro q rfl
  conv => whnf
  refine ⟨by first | omega | (simp only [Int.toNat_natCast]; omega) | (simp; done) | (simp; omega), ?_⟩
  conv => whnf
  refine ⟨by simp only [ty3]; omega, ?_⟩
  conv => whnf
  refine ⟨by kernel_rfl, ?_⟩
  conv => whnf
  refine ALoop.rounds (tysOk) followsB 2 ?_
  conv => whnf
  refine ⟨⟨⟨by omega, by simp only [ty3]; omega⟩, by omega⟩, ?_⟩
  conv => whnf
  refine ⟨by first | omega | decide +kernel, ?_⟩
  conv => whnf
  refine ⟨_, _, .refl _, ?_, rfl, rfl⟩
  exact ⟨OLe.refl _, ⟨rfl, rfl, rfl, fun k hk => by cases k0 hk; rfl⟩, ⟨rfl, rfl, rfl, fun k hk => by cases k0 hk; rfl⟩, trivial⟩
theorem begin0_spec : LSpec Tryz.prog 37 [nilA, v32 60000, vi 0] [] (fun r hl => r = .tup [.d (.v (.pointer none)), vi 1] ∧ hl = []) := by
  refine LSpec.run ((tysLOk lentAs)) followsB Tryz.func37 (by decide) rfl Tryz.ntmps37 (Nat.le_of_ble_eq_true rfl) rfl rfl fun w0 R0 Lo hGw => ?_
  conv => whnf
  refine ⟨_, pathNil_spec, ?_⟩
  rintro q rfl
  conv => whnf
  refine ⟨_, _, .refl _, ?_, rfl, rfl⟩
  exact trivial
-- GEN
abbrev TA : Tys := tysX false [] lentAs [3000000000 + 41]
theorem tysAOk : TysOk Tryz.prog TA := tysXOk _ _ _ _
abbrev Z0 : Nat := 1000000000
abbrev Z1 : Nat := 1000000001
abbrev Z2 : Nat := 1000000002
abbrev Z3 : Nat := 1000000003
abbrev Z4 : Nat := 1000000004
abbrev outO (c : K) : AObj := .row 58 2 1 fun _ => [.i .i64 0, .sl 14 1 fun k => [encK c].getD k []]
abbrev noteO : AObj := .row 151 2 1 fun _ => [.i .i64 1, .i .i64 0]
abbrev asI (h : H) (sn : D) (xc gc : Int) (qn : D) (win : Int) : Heap := [(Z0, .box (asL h sn xc gc qn win nilA nilA (.rsl Z1 1 0 1) (.rsl Z2 1 0 1))), (Z1, row0), (Z2, row0)]
abbrev asII (h : H) (sn : D) (xc gc : Int) (qn : D) (win : Int) (c : K) : Heap := [(Z0, .box (asL h sn xc gc qn win (.rsl Z1 2 0 1) nilA (.rsl Z2 1 0 1) (.rsl Z3 1 0 1))), (Z1, outO c), (Z2, row0), (Z3, row0)]
abbrev asIII (h : H) (sn : D) (xc gc : Int) (qn : D) (win : Int) : Heap := [(Z0, .box (asL h sn xc gc qn win nilA (.rsl Z1 2 0 1) (.rsl Z2 1 0 1) (.rsl Z3 1 0 1))), (Z1, noteO), (Z2, row0), (Z3, row0)]
abbrev asIV (h : H) (sn : D) (xc gc : Int) (qn : D) (win : Int) (c : K) : Heap := [(Z0, .box (asL h sn xc gc qn win (.rsl Z1 2 0 1) (.rsl Z2 2 0 1) (.rsl Z3 1 0 1) (.rsl Z4 1 0 1))), (Z1, outO c), (Z2, noteO), (Z3, row0), (Z4, row0)]
/-- The cells, as they are read. -/
abbrev asD (h : H) (sn : D) (xc gc : Int) (qn : D) (win : Int) (out notes due heard : D) : List D :=
  [.i .i64 h.st, .i .i64 h.tries, .i .i64 h.due, .i .u32 h.ourTag, .i .u32 h.peerTag, .i .u32 h.ourTsn, .i .u32 h.peerTsn, .i .u32 h.mine, .i .u32 h.window, .i .u16 h.outs, .i .u16 h.ins, .s h.cookie,
   .sl 14 1 fun _ => pathL, .i .i64 0, .i .i64 0, nilD, .i .i64 0, sn, .i .u32 xc, nilD, .o, .i .u32 gc, nilD, nilD, nilD, qn, nilD, nilD, .i .i64 win, out, notes, .i .i64 0, .b false, .i .i64 0, .i .i64 0, due, heard]
abbrev asE (h : H) (sn : D) (xc gc : Int) (qn : D) (win : Int) (out notes due heard : D) : AVal := .eptr 37 1 (fun _ => asD h sn xc gc qn win out notes due heard) 0 0
theorem thereA_spec (h : H) (sn : D) (xc gc : Int) (qn : D) (win : Int) (out notes due heard : D) : PSpec Tryz.prog 33 [asE h sn xc gc qn win out notes due heard, vi (-1)] (· = vi 0) := by
  refine PSpec.run (tysOk) followsB Tryz.func33 (by decide) rfl Tryz.ntmps33 (Nat.le_of_ble_eq_true rfl) rfl fun w0 R0 hGw => ?_
  conv => whnf
  refine ⟨_, choose_spec, ?_⟩
  rintro q rfl
  conv => whnf
  exact ⟨_, .refl _, rfl, rfl⟩
theorem state_spec (h : H) (sn : D) (xc gc : Int) (qn : D) (win : Int) (out notes due heard : D) : PSpec Tryz.prog 10 [asE h sn xc gc qn win out notes due heard] (· = vi h.st) := by
  refine PSpec.run (tysOk) followsB Tryz.func10 (by decide) rfl Tryz.ntmps10 (Nat.le_of_ble_eq_true rfl) rfl fun w0 R0 hGw => ?_
  conv => whnf
  exact ⟨_, .refl _, rfl, rfl⟩
theorem tell_spec (h : H) (sn : D) (xc gc : Int) (qn : D) (win : Int) (out notes due heard : D) : PSpec Tryz.prog 32 [asE h sn xc gc qn win out notes due heard] (· = .tup []) := by
  refine PSpec.run (tysOk) followsB Tryz.func32 (by decide) rfl Tryz.ntmps32 (Nat.le_of_ble_eq_true rfl) rfl fun w0 R0 hGw => ?_
  conv => whnf
  exact ⟨_, .refl _, rfl, rfl⟩
theorem indexM_spec : PSpec Tryz.prog 144 [nilA, .any] (· = vi (-1)) := by
  refine PSpec.run (tysOk) followsB Tryz.func144 (by decide) rfl Tryz.ntmps144 (Nat.le_of_ble_eq_true rfl) rfl fun w0 R0 hGw => ?_
  conv => whnf
  refine ALoop.rounds (tysOk) followsB 1 ?_
  conv => whnf
  exact ⟨_, .refl _, rfl, rfl⟩
theorem losses_spec (xc : Int) : PSpec Tryz.prog 77 [.agg [v32 xc, nilA]] (· = nilA) := by
  refine PSpec.run (tysOk) followsB Tryz.func77 (by decide) rfl Tryz.ntmps77 (Nat.le_of_ble_eq_true rfl) rfl fun w0 R0 hGw => ?_
  conv => whnf
  refine ALoop.rounds (tysOk) followsB 1 ?_
  conv => whnf
  exact ⟨_, .refl _, rfl, rfl⟩
theorem again_spec (h : H) (sn : D) (xc gc : Int) (qn : D) (win : Int) (out notes due heard : D) : PSpec Tryz.prog 35 [asE h sn xc gc qn win out notes due heard, vi 0, vi 0] (· = nilA) := by
  refine PSpec.run (tysOk) followsB Tryz.func35 (by decide) rfl Tryz.ntmps35 (Nat.le_of_ble_eq_true rfl) rfl fun w0 R0 hGw => ?_
  conv => whnf
  refine ⟨_, (losses_spec xc), ?_⟩
  rintro q rfl
  conv => whnf
  refine ALoop.rounds (tysOk) followsB 1 ?_
  conv => whnf
  exact ⟨_, .refl _, rfl, rfl⟩
theorem fresh_spec (h : H) (sn : D) (xc gc : Int) (qn : D) (win : Int) (out notes due heard : D) : PSpec Tryz.prog 36 [asE h sn xc gc qn win out notes due heard, vi 0, vi 0] (· = nilA) := by
  refine PSpec.run (tysOk) followsB Tryz.func36 (by decide) rfl Tryz.ntmps36 (Nat.le_of_ble_eq_true rfl) rfl fun w0 R0 hGw => ?_
  conv => whnf
  refine ALoop.rounds (tysOk) followsB 1 ?_
  conv => whnf
  exact ⟨_, .refl _, rfl, rfl⟩
theorem replyI_spec (h : H) (sn : D) (xc gc : Int) (qn : D) (win : Int) (c : K) : LSpec Tryz.prog 17 [.ptr Z0 0, vi (-1), .d (.sl 14 1 fun _ => encK c)] (asI h sn xc gc qn win) (fun r hl => r = .tup [] ∧ hl = [(Z0, .box (asL h sn xc gc qn win (.rsl 26 2 0 1) nilA (.rsl Z1 1 0 1) (.rsl Z2 1 0 1))), (Z1, row0), (Z2, row0), (26, outO c)]) := by
  refine LSpec.run (tysAOk) followsB Tryz.func17 (by decide) rfl Tryz.ntmps17 (Nat.le_of_ble_eq_true rfl) rfl rfl fun w0 R0 Lo hGw => ?_
  conv => whnf
  refine ALoop.rounds tysAOk followsB 2 ?_
  conv => whnf
  refine ⟨by first | omega | decide +kernel, ?_⟩
  conv => whnf
  refine ⟨by first | omega | decide +kernel, ?_⟩
  conv => whnf
  refine ⟨by first | omega | decide +kernel, ?_⟩
  conv => whnf
  refine ⟨_, (thereA_spec h sn xc gc qn win nilD nilD _ _), ?_⟩
  conv => whnf
  refine ⟨⟨⟨by omega, by simp only [ty58]; omega⟩, by omega⟩, ?_⟩
  conv => whnf
  refine ⟨by kernel_rfl, ?_⟩
  conv => whnf
  refine ⟨by first | omega | decide +kernel, ?_⟩
  conv => whnf
  refine ⟨_, _, .refl _, ?_, rfl, rfl⟩
  exact ⟨OLe.refl _, OLe.refl _, OLe.refl _, ⟨rfl, rfl, rfl, fun k hk => by cases k0 hk; rfl⟩, trivial⟩

theorem replyIII_spec (h : H) (sn : D) (xc gc : Int) (qn : D) (win : Int) (c : K) : LSpec Tryz.prog 17 [.ptr Z0 0, vi (-1), .d (.sl 14 1 fun _ => encK c)] (asIII h sn xc gc qn win) (fun r hl => r = .tup [] ∧ hl = [(Z0, .box (asL h sn xc gc qn win (.rsl 26 2 0 1) (.rsl Z1 2 0 1) (.rsl Z2 1 0 1) (.rsl Z3 1 0 1))), (Z1, noteO), (Z2, row0), (Z3, row0), (26, outO c)]) := by
  refine LSpec.run (tysAOk) followsB Tryz.func17 (by decide) rfl Tryz.ntmps17 (Nat.le_of_ble_eq_true rfl) rfl rfl fun w0 R0 Lo hGw => ?_
  conv => whnf
  refine ALoop.rounds tysAOk followsB 2 ?_
  conv => whnf
  refine ⟨by first | omega | decide +kernel, ?_⟩
  conv => whnf
  refine ⟨by first | omega | decide +kernel, ?_⟩
  conv => whnf
  refine ⟨by first | omega | decide +kernel, ?_⟩
  conv => whnf
  refine ⟨by first | omega | decide +kernel, ?_⟩
  conv => whnf
  refine ⟨_, (thereA_spec h sn xc gc qn win nilD _ _ _), ?_⟩
  conv => whnf
  refine ⟨⟨⟨by omega, by simp only [ty58]; omega⟩, by omega⟩, ?_⟩
  conv => whnf
  refine ⟨by kernel_rfl, ?_⟩
  conv => whnf
  refine ⟨by first | omega | decide +kernel, ?_⟩
  conv => whnf
  refine ⟨_, _, .refl _, ?_, rfl, rfl⟩
  exact ⟨OLe.refl _, OLe.refl _, OLe.refl _, OLe.refl _, ⟨rfl, rfl, rfl, fun k hk => by cases k0 hk; rfl⟩, trivial⟩
theorem noteI_spec (h : H) (sn : D) (xc gc : Int) (qn : D) (win : Int) : LSpec Tryz.prog 23 [.ptr Z0 0, vi 1, vi 0] (asI h sn xc gc qn win) (fun r hl => r = .tup [] ∧ hl = [(Z0, .box (asL h sn xc gc qn win nilA (.rsl 15 2 0 1) (.rsl Z1 1 0 1) (.rsl Z2 1 0 1))), (Z1, row0), (Z2, row0), (15, noteO)]) := by
  refine LSpec.run (tysAOk) followsB Tryz.func23 (by decide) rfl Tryz.ntmps23 (Nat.le_of_ble_eq_true rfl) rfl rfl fun w0 R0 Lo hGw => ?_
  conv => whnf
  refine ⟨⟨⟨by omega, by simp only [ty151]; omega⟩, by omega⟩, ?_⟩
  conv => whnf
  refine ⟨_, _, .refl _, ?_, rfl, rfl⟩
  exact ⟨OLe.refl _, OLe.refl _, OLe.refl _, ⟨rfl, rfl, rfl, fun k hk => by cases k0 hk; rfl⟩, trivial⟩
theorem deleteM_spec : PSpec Tryz.prog 87 [nilA, .any] (· = nilA) := by
  refine PSpec.run (tysOk) followsB Tryz.func87 (by decide) rfl Tryz.ntmps87 (Nat.le_of_ble_eq_true rfl) rfl fun w0 R0 hGw => ?_
  conv => whnf
  refine ⟨_, indexM_spec, ?_⟩
  rintro q rfl
  conv => whnf
  exact ⟨_, .refl _, rfl, rfl⟩
theorem cloneM_spec : PSpec Tryz.prog 88 [nilA] (· = nilA) := by
  refine PSpec.run (tysOk) followsB Tryz.func88 (by decide) rfl Tryz.ntmps88 (Nat.le_of_ble_eq_true rfl) rfl fun w0 R0 hGw => ?_
  conv => whnf
  exact ⟨_, .refl _, rfl, rfl⟩
theorem metI_spec (h : H) (n : Nat) (xc : Int) (hn : (n : Int) ≤ 16) (k : Nat) (hk : h.ins = k ∧ 1 ≤ k ∧ k ≤ 16) (m : Nat) (hm : h.outs = m ∧ m ≤ 65535) (win : Int) : LSpec Tryz.prog 43 [.ptr Z0 0] (asI h (.sl 1 n fun _ => [.i .u16 0]) xc 0 nilD win) (fun r hl => r = .tup [] ∧ hl = asI h (.sl 1 (min n m) fun _ => [.i .u16 0]) xc (IntKind.u32.wrap (h.peerTsn - 1)) (.sl 1 k fun _ => [.i .u16 0]) win) := by
  obtain ⟨st, tr, du, ot, pt, ou, pu, mi, wi, os_, is_, co⟩ := h
  dsimp only at hk hm
  obtain ⟨rfl, hk2⟩ := hk
  obtain ⟨rfl, hm2⟩ := hm
  refine LSpec.run (tysAOk) followsB Tryz.func43 (by decide) rfl Tryz.ntmps43 (Nat.le_of_ble_eq_true rfl) rfl rfl fun w0 R0 Lo hGw => ?_
  conv => whnf
  refine ⟨_, (gotNew_spec pu), ?_⟩
  conv => whnf
  refine ⟨by kernel_rfl, ?_⟩
  conv => whnf
  refine ⟨by first | omega | (simp only [Int.toNat_natCast]; omega) | (simp; done) | (simp; omega), ?_⟩
  conv => whnf
  refine ⟨_, (orderNew_spec k hk2), ?_⟩
  conv => whnf
  refine ⟨by kernel_rfl, ?_⟩
  conv => whnf
  refine ALoop.rounds tysAOk followsB 1 ?_
  conv => whnf
  refine ⟨_, cloneM_spec, ?_⟩
  conv => whnf
  refine ⟨_, deleteM_spec, ?_⟩
  conv => whnf
  refine ⟨by kernel_rfl, ?_⟩
  conv => whnf
  refine ⟨by first | omega | (simp only [Int.toNat_natCast]; omega) | (simp; done) | (simp; omega), ?_⟩
  conv => whnf
  refine ⟨by first | omega | (simp only [Int.toNat_natCast]; omega) | (simp; done) | (simp; omega), ?_⟩
  conv => whnf
  rw [show (min (n : Int) (m : Int)).toNat = min n m from by omega]
  refine ⟨by kernel_rfl, ?_⟩
  conv => whnf
  refine ⟨by kernel_rfl, ?_⟩
  conv => whnf
  refine ⟨_, _, .refl _, ?_, rfl, rfl⟩
  exact ⟨OLe.refl _, OLe.refl _, OLe.refl _, trivial⟩

end Go.Proofs.YtbghocipmlobnaaGreat
