/- Chapter 19: an association that begins: contracts. -/
import Derived.Test.YtnnaeedpojpejaaAsA
namespace Go.Proofs.Ytnnaeedpojpejaa
open Go Go.RowKit Towline Towline.Hand
set_option linter.unusedVariables false
set_option linter.unusedSimpArgs false
set_option maxRecDepth 20000
set_option maxHeartbeats 4000000
theorem LSpec.argsC {P : Program} {f : FuncId} {args args' : List AVal} {hl : Heap} {post : AVal → Heap → Prop} (h : LSpec P f args hl post) (hc : OLe.CLe args' args) : LSpec P f args' hl post := by
  obtain ⟨hlen, hg⟩ := CLe_get hc
  exact ⟨h.1, fun w R L vs h0 h1 h2 h3 h4 h5 h6 h7 => h.2 w R L vs h0 h1 (h2.trans hlen.symm) h3 (fun i y hy => by
    obtain ⟨x, hx, hle⟩ := hg i y hy
    exact hle.out _ _ _ _ (h4 i x hx)) h5 h6 h7⟩
theorem k0 {k : Nat} (h : k < 1) : k = 0 := by omega
abbrev lentAs : List (Nat × List Bool) := [(12, []), (5, [true]), (16, [false, false, true]), (6, []), (8, []), (23, []), (24, []), (10, [])]
abbrev hF (h : H) : List AVal := [vi h.st, vi h.tries, vi h.due, v32 h.ourTag, v32 h.peerTag, v32 h.ourTsn, v32 h.peerTsn, v32 h.mine, v32 h.window, v16 h.outs, v16 h.ins, vs h.cookie]
/-- The cells of an association that nothing was sent on. -/
abbrev asL (h : H) (sn : D) (xc gc : Int) (qn : D) (win : Int) (out notes due heard : AVal) : List AVal :=
  [vi h.st, vi h.tries, vi h.due, v32 h.ourTag, v32 h.peerTag, v32 h.ourTsn, v32 h.peerTsn, v32 h.mine, v32 h.window, v16 h.outs, v16 h.ins, vs h.cookie,
   .d (.sl 14 1 fun _ => pathL), vi 0, vi 0, nilA, vi 0, .d sn, v32 xc, nilA, .d .o, v32 gc, nilA, nilA, nilA, .d qn, nilA, nilA, vi win, out, notes, vi 0, vb false, vi 0, vi 0, due, heard]
abbrev row0 : AObj := .row 3 1 1 fun _ => [.i .i64 0]
theorem begin_spec : LSpec Try.prog 12 [adr1, v32 60000, vi 0] [] (fun r hl => r = .tup [.ptr 28 0, vi 0] ∧ hl = [(28, .box (asL H.nil nilD 0 0 nilD 60000 nilA nilA (.rsl 26 1 0 1) (.rsl 41 1 0 1))), (26, row0), (41, row0)]) := by
  refine LSpec.run ((tysLOk lentAs)) followsB Try.func12 (by decide) rfl Try.ntmps12 (Nat.le_of_ble_eq_true rfl) rfl rfl fun w0 R0 Lo hG => ?_
  conv => whnf
  refine ⟨_, pathNew_spec, ?_⟩
  rintro q rfl
  conv => whnf
  refine ⟨by first | omega | (simp only [Int.toNat_natCast]; omega) | (simp; done) | (simp; omega), ?_⟩
  conv => whnf
  refine ⟨by simp only [ty3]; omega, ?_⟩
  conv => whnf
  refine ⟨by kernel_rfl, ?_⟩
  conv => whnf
  refine ALoop.rounds (tysOk) followsB 2 ?_
  conv => whnf
  refine ⟨⟨⟨by omega, by simp only [ty3]; omega⟩, by omega⟩, ?_⟩
  conv => whnf
  refine ⟨by first | omega | decide +kernel, ?_⟩
  conv => whnf
  refine ⟨_, _, .refl _, ?_, rfl, rfl⟩
  exact ⟨OLe.refl _, ⟨rfl, rfl, rfl, fun k hk => by cases k0 hk; rfl⟩, ⟨rfl, rfl, rfl, fun k hk => by cases k0 hk; rfl⟩, trivial⟩
theorem begin0_spec : LSpec Try.prog 12 [nilA, v32 60000, vi 0] [] (fun r hl => r = .tup [.d (.v (.pointer none)), vi 1] ∧ hl = []) := by
  refine LSpec.run ((tysLOk lentAs)) followsB Try.func12 (by decide) rfl Try.ntmps12 (Nat.le_of_ble_eq_true rfl) rfl rfl fun w0 R0 Lo hG => ?_
  conv => whnf
  refine ⟨_, pathNil_spec, ?_⟩
  rintro q rfl
  conv => whnf
  refine ⟨_, _, .refl _, ?_, rfl, rfl⟩
  exact trivial
-- GEN
abbrev TA : Tys := tysX false [] lentAs [3000000000 + 44]
theorem tysAOk : TysOk Try.prog TA := tysXOk _ _ _ _
abbrev E0 : Nat := 1000000000
abbrev E1 : Nat := 1000000001
abbrev E2 : Nat := 1000000002
abbrev E3 : Nat := 1000000003
abbrev E4 : Nat := 1000000004
abbrev outO (c : K) : AObj := .row 47 2 1 fun _ => [.i .i64 0, .sl 14 1 fun k => [encK c].getD k []]
abbrev noteO : AObj := .row 39 2 1 fun _ => [.i .i64 1, .i .i64 0]
abbrev asI (h : H) (sn : D) (xc gc : Int) (qn : D) (win : Int) : Heap := [(E0, .box (asL h sn xc gc qn win nilA nilA (.rsl E1 1 0 1) (.rsl E2 1 0 1))), (E1, row0), (E2, row0)]
abbrev asII (h : H) (sn : D) (xc gc : Int) (qn : D) (win : Int) (c : K) : Heap := [(E0, .box (asL h sn xc gc qn win (.rsl E1 2 0 1) nilA (.rsl E2 1 0 1) (.rsl E3 1 0 1))), (E1, outO c), (E2, row0), (E3, row0)]
abbrev asIII (h : H) (sn : D) (xc gc : Int) (qn : D) (win : Int) : Heap := [(E0, .box (asL h sn xc gc qn win nilA (.rsl E1 2 0 1) (.rsl E2 1 0 1) (.rsl E3 1 0 1))), (E1, noteO), (E2, row0), (E3, row0)]
abbrev asIV (h : H) (sn : D) (xc gc : Int) (qn : D) (win : Int) (c : K) : Heap := [(E0, .box (asL h sn xc gc qn win (.rsl E1 2 0 1) (.rsl E2 2 0 1) (.rsl E3 1 0 1) (.rsl E4 1 0 1))), (E1, outO c), (E2, noteO), (E3, row0), (E4, row0)]
/-- The cells, as they are read. -/
abbrev asD (h : H) (sn : D) (xc gc : Int) (qn : D) (win : Int) (out notes due heard : D) : List D :=
  [.i .i64 h.st, .i .i64 h.tries, .i .i64 h.due, .i .u32 h.ourTag, .i .u32 h.peerTag, .i .u32 h.ourTsn, .i .u32 h.peerTsn, .i .u32 h.mine, .i .u32 h.window, .i .u16 h.outs, .i .u16 h.ins, .s h.cookie,
   .sl 14 1 fun _ => pathL, .i .i64 0, .i .i64 0, nilD, .i .i64 0, sn, .i .u32 xc, nilD, .o, .i .u32 gc, nilD, nilD, nilD, qn, nilD, nilD, .i .i64 win, out, notes, .i .i64 0, .b false, .i .i64 0, .i .i64 0, due, heard]
abbrev asE (h : H) (sn : D) (xc gc : Int) (qn : D) (win : Int) (out notes due heard : D) : AVal := .eptr 37 1 (fun _ => asD h sn xc gc qn win out notes due heard) 0 0
theorem thereA_spec (h : H) (sn : D) (xc gc : Int) (qn : D) (win : Int) (out notes due heard : D) : PSpec Try.prog 18 [asE h sn xc gc qn win out notes due heard, vi (-1)] (· = vi 0) := by
  refine PSpec.run (tysOk) followsB Try.func18 (by decide) rfl Try.ntmps18 (Nat.le_of_ble_eq_true rfl) rfl fun w0 R0 hG => ?_
  conv => whnf
  refine ⟨_, choose_spec, ?_⟩
  rintro q rfl
  conv => whnf
  exact ⟨_, .refl _, rfl, rfl⟩
theorem state_spec (h : H) (sn : D) (xc gc : Int) (qn : D) (win : Int) (out notes due heard : D) : PSpec Try.prog 9 [asE h sn xc gc qn win out notes due heard] (· = vi h.st) := by
  refine PSpec.run (tysOk) followsB Try.func9 (by decide) rfl Try.ntmps9 (Nat.le_of_ble_eq_true rfl) rfl fun w0 R0 hG => ?_
  conv => whnf
  exact ⟨_, .refl _, rfl, rfl⟩
theorem hand_spec (h : H) (sn : D) (xc gc : Int) (qn : D) (win : Int) (out notes due heard : D) : PSpec Try.prog 11 [asE h sn xc gc qn win out notes due heard] (· = hA h) := by
  refine PSpec.run (tysOk) followsB Try.func11 (by decide) rfl Try.ntmps11 (Nat.le_of_ble_eq_true rfl) rfl fun w0 R0 hG => ?_
  conv => whnf
  exact ⟨_, .refl _, rfl, rfl⟩
theorem tell_spec (h : H) (sn : D) (xc gc : Int) (qn : D) (win : Int) (out notes due heard : D) : PSpec Try.prog 17 [asE h sn xc gc qn win out notes due heard] (· = .tup []) := by
  refine PSpec.run (tysOk) followsB Try.func17 (by decide) rfl Try.ntmps17 (Nat.le_of_ble_eq_true rfl) rfl fun w0 R0 hG => ?_
  conv => whnf
  exact ⟨_, .refl _, rfl, rfl⟩
theorem indexM_spec : PSpec Try.prog 63 [nilA, .any] (· = vi (-1)) := by
  refine PSpec.run (tysOk) followsB Try.func63 (by decide) rfl Try.ntmps63 (Nat.le_of_ble_eq_true rfl) rfl fun w0 R0 hG => ?_
  conv => whnf
  refine ALoop.rounds (tysOk) followsB 1 ?_
  conv => whnf
  exact ⟨_, .refl _, rfl, rfl⟩
theorem losses_spec (xc : Int) : PSpec Try.prog 31 [.agg [v32 xc, nilA]] (· = nilA) := by
  refine PSpec.run (tysOk) followsB Try.func31 (by decide) rfl Try.ntmps31 (Nat.le_of_ble_eq_true rfl) rfl fun w0 R0 hG => ?_
  conv => whnf
  refine ALoop.rounds (tysOk) followsB 1 ?_
  conv => whnf
  exact ⟨_, .refl _, rfl, rfl⟩
theorem again_spec (h : H) (sn : D) (xc gc : Int) (qn : D) (win : Int) (out notes due heard : D) : PSpec Try.prog 20 [asE h sn xc gc qn win out notes due heard, vi 0, vi 0] (· = nilA) := by
  refine PSpec.run (tysOk) followsB Try.func20 (by decide) rfl Try.ntmps20 (Nat.le_of_ble_eq_true rfl) rfl fun w0 R0 hG => ?_
  conv => whnf
  refine ⟨_, (losses_spec xc), ?_⟩
  rintro q rfl
  conv => whnf
  refine ALoop.rounds (tysOk) followsB 1 ?_
  conv => whnf
  exact ⟨_, .refl _, rfl, rfl⟩
theorem fresh_spec (h : H) (sn : D) (xc gc : Int) (qn : D) (win : Int) (out notes due heard : D) : PSpec Try.prog 21 [asE h sn xc gc qn win out notes due heard, vi 0, vi 0] (· = nilA) := by
  refine PSpec.run (tysOk) followsB Try.func21 (by decide) rfl Try.ntmps21 (Nat.le_of_ble_eq_true rfl) rfl fun w0 R0 hG => ?_
  conv => whnf
  refine ALoop.rounds (tysOk) followsB 1 ?_
  conv => whnf
  exact ⟨_, .refl _, rfl, rfl⟩
theorem replyI_spec (h : H) (sn : D) (xc gc : Int) (qn : D) (win : Int) (c : K) : LSpec Try.prog 16 [.ptr E0 0, vi (-1), .d (.sl 14 1 fun _ => encK c)] (asI h sn xc gc qn win) (fun r hl => r = .tup [] ∧ hl = [(E0, .box (asL h sn xc gc qn win (.rsl 26 2 0 1) nilA (.rsl E1 1 0 1) (.rsl E2 1 0 1))), (E1, row0), (E2, row0), (26, outO c)]) := by
  refine LSpec.run (tysAOk) followsB Try.func16 (by decide) rfl Try.ntmps16 (Nat.le_of_ble_eq_true rfl) rfl rfl fun w0 R0 Lo hG => ?_
  conv => whnf
  refine ALoop.rounds tysAOk followsB 2 ?_
  conv => whnf
  refine ⟨by first | omega | decide +kernel, ?_⟩
  conv => whnf
  refine ⟨by first | omega | decide +kernel, ?_⟩
  conv => whnf
  refine ⟨by first | omega | decide +kernel, ?_⟩
  conv => whnf
  refine ⟨_, (thereA_spec h sn xc gc qn win nilD nilD _ _), ?_⟩
  conv => whnf
  refine ⟨⟨⟨by omega, by simp only [ty47]; omega⟩, by omega⟩, ?_⟩
  conv => whnf
  refine ⟨by kernel_rfl, ?_⟩
  conv => whnf
  refine ⟨by first | omega | decide +kernel, ?_⟩
  conv => whnf
  refine ⟨_, _, .refl _, ?_, rfl, rfl⟩
  exact ⟨OLe.refl _, OLe.refl _, OLe.refl _, ⟨rfl, rfl, rfl, fun k hk => by cases k0 hk; rfl⟩, trivial⟩

theorem replyIII_spec (h : H) (sn : D) (xc gc : Int) (qn : D) (win : Int) (c : K) : LSpec Try.prog 16 [.ptr E0 0, vi (-1), .d (.sl 14 1 fun _ => encK c)] (asIII h sn xc gc qn win) (fun r hl => r = .tup [] ∧ hl = [(E0, .box (asL h sn xc gc qn win (.rsl 26 2 0 1) (.rsl E1 2 0 1) (.rsl E2 1 0 1) (.rsl E3 1 0 1))), (E1, noteO), (E2, row0), (E3, row0), (26, outO c)]) := by
  refine LSpec.run (tysAOk) followsB Try.func16 (by decide) rfl Try.ntmps16 (Nat.le_of_ble_eq_true rfl) rfl rfl fun w0 R0 Lo hG => ?_
  conv => whnf
  refine ALoop.rounds tysAOk followsB 2 ?_
  conv => whnf
  refine ⟨by first | omega | decide +kernel, ?_⟩
  conv => whnf
  refine ⟨by first | omega | decide +kernel, ?_⟩
  conv => whnf
  refine ⟨by first | omega | decide +kernel, ?_⟩
  conv => whnf
  refine ⟨by first | omega | decide +kernel, ?_⟩
  conv => whnf
  refine ⟨_, (thereA_spec h sn xc gc qn win nilD _ _ _), ?_⟩
  conv => whnf
  refine ⟨⟨⟨by omega, by simp only [ty47]; omega⟩, by omega⟩, ?_⟩
  conv => whnf
  refine ⟨by kernel_rfl, ?_⟩
  conv => whnf
  refine ⟨by first | omega | decide +kernel, ?_⟩
  conv => whnf
  refine ⟨_, _, .refl _, ?_, rfl, rfl⟩
  exact ⟨OLe.refl _, OLe.refl _, OLe.refl _, OLe.refl _, ⟨rfl, rfl, rfl, fun k hk => by cases k0 hk; rfl⟩, trivial⟩
theorem noteI_spec (h : H) (sn : D) (xc gc : Int) (qn : D) (win : Int) : LSpec Try.prog 24 [.ptr E0 0, vi 1, vi 0] (asI h sn xc gc qn win) (fun r hl => r = .tup [] ∧ hl = [(E0, .box (asL h sn xc gc qn win nilA (.rsl 15 2 0 1) (.rsl E1 1 0 1) (.rsl E2 1 0 1))), (E1, row0), (E2, row0), (15, noteO)]) := by
  refine LSpec.run (tysAOk) followsB Try.func24 (by decide) rfl Try.ntmps24 (Nat.le_of_ble_eq_true rfl) rfl rfl fun w0 R0 Lo hG => ?_
  conv => whnf
  refine ⟨⟨⟨by omega, by simp only [ty39]; omega⟩, by omega⟩, ?_⟩
  conv => whnf
  refine ⟨_, _, .refl _, ?_, rfl, rfl⟩
  exact ⟨OLe.refl _, OLe.refl _, OLe.refl _, ⟨rfl, rfl, rfl, fun k hk => by cases k0 hk; rfl⟩, trivial⟩
theorem notesI_spec (h : H) (sn : D) (xc gc : Int) (qn : D) (win : Int) : LSpec Try.prog 10 [.ptr E0 0] (asI h sn xc gc qn win) (fun r hl => r = nilA ∧ hl = asI h sn xc gc qn win) := by
  refine LSpec.run (tysAOk) followsB Try.func10 (by decide) rfl Try.ntmps10 (Nat.le_of_ble_eq_true rfl) rfl rfl fun w0 R0 Lo hG => ?_
  conv => whnf
  refine ⟨_, _, .refl _, ?_, rfl, rfl⟩
  exact ⟨OLe.refl _, OLe.refl _, OLe.refl _, trivial⟩
theorem notesIII_spec (h : H) (sn : D) (xc gc : Int) (qn : D) (win : Int) : LSpec Try.prog 10 [.ptr E0 0] (asIII h sn xc gc qn win) (fun r hl => r = .rsl E1 2 0 1 ∧ hl = [(E0, .box (asL h sn xc gc qn win nilA nilA (.rsl E2 1 0 1) (.rsl E3 1 0 1))), (E1, noteO), (E2, row0), (E3, row0)]) := by
  refine LSpec.run (tysAOk) followsB Try.func10 (by decide) rfl Try.ntmps10 (Nat.le_of_ble_eq_true rfl) rfl rfl fun w0 R0 Lo hG => ?_
  conv => whnf
  refine ⟨_, _, .refl _, ?_, rfl, rfl⟩
  exact ⟨OLe.refl _, OLe.refl _, OLe.refl _, OLe.refl _, trivial⟩
theorem deleteM_spec : PSpec Try.prog 39 [nilA, .any] (· = nilA) := by
  refine PSpec.run (tysOk) followsB Try.func39 (by decide) rfl Try.ntmps39 (Nat.le_of_ble_eq_true rfl) rfl fun w0 R0 hG => ?_
  conv => whnf
  refine ⟨_, indexM_spec, ?_⟩
  rintro q rfl
  conv => whnf
  exact ⟨_, .refl _, rfl, rfl⟩
theorem cloneM_spec : PSpec Try.prog 40 [nilA] (· = nilA) := by
  refine PSpec.run (tysOk) followsB Try.func40 (by decide) rfl Try.ntmps40 (Nat.le_of_ble_eq_true rfl) rfl fun w0 R0 hG => ?_
  conv => whnf
  exact ⟨_, .refl _, rfl, rfl⟩
theorem metI_spec (h : H) (n : Nat) (xc : Int) (hn : (n : Int) ≤ 16) (k : Nat) (hk : h.ins = k ∧ 1 ≤ k ∧ k ≤ 16) (m : Nat) (hm : h.outs = m ∧ m ≤ 65535) (win : Int) : LSpec Try.prog 23 [.ptr E0 0] (asI h (.sl 1 n fun _ => [.i .u16 0]) xc 0 nilD win) (fun r hl => r = .tup [] ∧ hl = asI h (.sl 1 (min n m) fun _ => [.i .u16 0]) xc (IntKind.u32.wrap (h.peerTsn - 1)) (.sl 1 k fun _ => [.i .u16 0]) win) := by
  obtain ⟨st, tr, du, ot, pt, ou, pu, mi, wi, os_, is_, co⟩ := h
  dsimp only at hk hm
  obtain ⟨rfl, hk2⟩ := hk
  obtain ⟨rfl, hm2⟩ := hm
  refine LSpec.run (tysAOk) followsB Try.func23 (by decide) rfl Try.ntmps23 (Nat.le_of_ble_eq_true rfl) rfl rfl fun w0 R0 Lo hG => ?_
  conv => whnf
  refine ⟨_, (gotNew_spec pu), ?_⟩
  conv => whnf
  refine ⟨by kernel_rfl, ?_⟩
  conv => whnf
  refine ⟨by first | omega | (simp only [Int.toNat_natCast]; omega) | (simp; done) | (simp; omega), ?_⟩
  conv => whnf
  refine ⟨_, (orderNew_spec k hk2), ?_⟩
  conv => whnf
  refine ⟨by kernel_rfl, ?_⟩
  conv => whnf
  refine ALoop.rounds tysAOk followsB 1 ?_
  conv => whnf
  refine ⟨_, cloneM_spec, ?_⟩
  conv => whnf
  refine ⟨_, deleteM_spec, ?_⟩
  conv => whnf
  refine ⟨by kernel_rfl, ?_⟩
  conv => whnf
  refine ⟨by first | omega | (simp only [Int.toNat_natCast]; omega) | (simp; done) | (simp; omega), ?_⟩
  conv => whnf
  refine ⟨by first | omega | (simp only [Int.toNat_natCast]; omega) | (simp; done) | (simp; omega), ?_⟩
  conv => whnf
  rw [show (min (n : Int) (m : Int)).toNat = min n m from by omega]
  refine ⟨by kernel_rfl, ?_⟩
  conv => whnf
  refine ⟨by kernel_rfl, ?_⟩
  conv => whnf
  refine ⟨_, _, .refl _, ?_, rfl, rfl⟩
  exact ⟨OLe.refl _, OLe.refl _, OLe.refl _, trivial⟩

end Go.Proofs.Ytnnaeedpojpejaa
