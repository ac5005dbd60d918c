/- Chapter 19: an association of two paths begins: contracts. -/
import Derived.Test.YtbghocipmlobnaaGreatAbB
namespace Go.Proofs.YtbghocipmlobnaaGreat
open Go Go.RowKit Towline Towline.Hand Towline.Ab
set_option linter.unusedVariables false
set_option linter.unusedSimpArgs false
set_option maxRecDepth 20000
set_option maxHeartbeats 4000000
abbrev lentAb : List (Nat × List Bool) := [(37, []), (11, [true]), (12, [false, true]), (17, [false, false, true]), (9, []), (6, []), (8, []), (20, []), (25, []), (31, []), (19, []), (43, []), (23, []), (5, [])]
abbrev TB : Tys := tysX false [] lentAb [3000000000 + 41, 3000000000 + 35, 2000000000 + 26]
theorem tysBOk : TysOk Tryz.prog TB := tysXOk _ _ _ _
abbrev row2 (x y : Int) : AObj := .row 3 1 2 fun k => match k with | 0 => [.i .i64 x] | _ + 1 => [.i .i64 y]
theorem k2 {k : Nat} (h : k < 2) : k = 0 ∨ k = 1 := by omega
abbrev bsI (h : H) (p q : Pth) (sn : D) (xc gc : Int) (qn : D) (x y : Int) : Heap := [(Z0, .box (bsL h p q sn xc gc qn nilA nilA (.rsl Z1 1 0 2) (.rsl Z2 1 0 2))), (Z1, row2 0 0), (Z2, row2 x y)]
abbrev bsII (h : H) (p q : Pth) (sn : D) (xc gc : Int) (qn : D) (x y : Int) (m : Nat) (o : AObj) : Heap := [(Z0, .box (bsL h p q sn xc gc qn (.rsl Z1 2 0 m) nilA (.rsl Z2 1 0 2) (.rsl Z3 1 0 2))), (Z1, o), (Z2, row2 0 0), (Z3, row2 x y)]
abbrev bsIII (h : H) (p q : Pth) (sn : D) (xc gc : Int) (qn : D) (x y : Int) : Heap := [(Z0, .box (bsL h p q sn xc gc qn nilA (.rsl Z1 2 0 1) (.rsl Z2 1 0 2) (.rsl Z3 1 0 2))), (Z1, noteO), (Z2, row2 0 0), (Z3, row2 x y)]
abbrev bsIV (h : H) (p q : Pth) (sn : D) (xc gc : Int) (qn : D) (x y : Int) (m : Nat) (o : AObj) : Heap := [(Z0, .box (bsL h p q sn xc gc qn (.rsl Z1 2 0 m) (.rsl Z2 2 0 1) (.rsl Z3 1 0 2) (.rsl Z4 1 0 2))), (Z1, o), (Z2, noteO), (Z3, row2 0 0), (Z4, row2 x y)]
theorem begin2_spec (s t : List UInt8) (h1 : s.length = 4) (h2 : t.length = 4) (hne : s ≠ t) : LSpec Tryz.prog 37 [adr2 s t, v32 60000, vi 0] [] (fun r hl => r = .tup [.ptr 28 0, vi 0] ∧ hl = [(28, .box (bsL H.nil (p0 s 2) (p0 t 1) nilD 0 0 nilD nilA nilA (.rsl 26 1 0 2) (.rsl 41 1 0 2))), (26, row2 0 0), (41, row2 0 0)]) := by
  refine LSpec.run (tysBOk) followsB Tryz.func37 (by decide) rfl Tryz.ntmps37 (Nat.le_of_ble_eq_true rfl) rfl rfl fun w0 R0 Lo hGw => ?_
  conv => whnf
  refine ⟨_, (pathNew2_spec s t h1 h2 hne), ?_⟩
  rintro q rfl
  conv => whnf
  refine ⟨by first | omega | (simp only [Int.toNat_natCast]; omega) | (simp; done) | (simp; omega), ?_⟩
  conv => whnf
  refine ⟨by simp only [ty3]; omega, ?_⟩
  conv => whnf
  refine ⟨by kernel_rfl, ?_⟩
  conv => whnf
  refine ALoop.roundsR tysBOk followsB 3 [] [0, 1, 2, 6, 7, 10, 31, 32] [26, 28, 41] ?_
  conv => whnf
  refine ⟨⟨⟨by omega, by simp only [ty3]; omega⟩, by omega⟩, ?_⟩
  conv => whnf
  refine ⟨by first | omega | decide +kernel, ?_⟩
  conv => whnf
  refine ⟨⟨⟨rfl, by omega, by simp only [ty3]; omega⟩, by omega⟩, ?_⟩
  conv => whnf
  refine ⟨by first | omega | decide +kernel, ?_⟩
  conv => whnf
  refine ⟨_, _, .refl _, ?_, rfl, rfl⟩
  exact ⟨OLe.refl _, ⟨rfl, rfl, rfl, fun k hk => by rcases k2 hk with rfl | rfl <;> rfl⟩, ⟨rfl, rfl, rfl, fun k hk => by rcases k2 hk with rfl | rfl <;> rfl⟩, trivial⟩
def encKI (c : K) (it : D) : List D := [.i .i64 c.ty, .i .i64 c.flags, .i .u32 c.tsn, .i .u32 c.tag, .i .u32 c.window, .i .u32 c.ppid, .i .u16 c.stream, .i .u16 c.ssn, .i .u16 c.outs, .i .u16 c.ins, nilD, nilD, it, .s c.text]
abbrev outC (tw : Int) (c : K) (it : D) : List D := [.i .i64 tw, .sl 14 1 fun k => [encKI c it].getD k []]
abbrev out1 (tw : Int) (c : K) (it : D) : AObj := .row 58 2 1 fun _ => outC tw c it
abbrev out2 (tw : Int) (c : K) (it : D) (tw2 : Int) (c2 : K) (it2 : D) : AObj := .row 58 2 2 fun k => match k with | 0 => outC tw c it | _ + 1 => outC tw2 c2 it2
abbrev kArg (c : K) (it : D) : AVal := .d (.sl 14 1 fun _ => encKI c it)
theorem replyNI_spec (h : H) (p q : Pth) (sn : D) (xc gc : Int) (qn : D) (x y : Int) (c : K) (it : D) (hp : p.st = 2) : LSpec Tryz.prog 17 [.ptr Z0 0, vi (-1), kArg c it] (bsI h p q sn xc gc qn x y) (fun r hl => r = .tup [] ∧ hl = [(Z0, .box (bsL h p q sn xc gc qn (.rsl 26 2 0 1) nilA (.rsl Z1 1 0 2) (.rsl Z2 1 0 2))), (Z1, row2 0 0), (Z2, row2 x y), (26, out1 0 c it)]) := by
  refine LSpec.run (tysBOk) followsB Tryz.func17 (by decide) rfl Tryz.ntmps17 (Nat.le_of_ble_eq_true rfl) rfl rfl fun w0 R0 Lo hGw => ?_
  conv => whnf
  refine ALoop.rounds tysBOk followsB 2 ?_
  conv => whnf
  refine ⟨by first | omega | decide +kernel, ?_⟩
  conv => whnf
  refine ⟨by first | omega | decide +kernel, ?_⟩
  conv => whnf
  refine ⟨by first | omega | decide +kernel, ?_⟩
  conv => whnf
  refine ⟨_, (thereN_spec h p q sn xc gc qn nilD nilD _ _ hp), ?_⟩
  conv => whnf
  refine ⟨⟨⟨by omega, by simp only [ty58]; omega⟩, by omega⟩, ?_⟩
  conv => whnf
  refine ⟨by kernel_rfl, ?_⟩
  conv => whnf
  refine ⟨by first | omega | decide +kernel, ?_⟩
  conv => whnf
  refine ⟨_, _, .refl _, ?_, rfl, rfl⟩
  exact ⟨OLe.refl _, OLe.refl _, OLe.refl _, ⟨rfl, rfl, rfl, fun k hk => by cases k0 hk; rfl⟩, trivial⟩
theorem replyNIII_spec (h : H) (p q : Pth) (sn : D) (xc gc : Int) (qn : D) (x y : Int) (c : K) (it : D) (hp : p.st = 2) : LSpec Tryz.prog 17 [.ptr Z0 0, vi (-1), kArg c it] (bsIII h p q sn xc gc qn x y) (fun r hl => r = .tup [] ∧ hl = [(Z0, .box (bsL h p q sn xc gc qn (.rsl 26 2 0 1) (.rsl Z1 2 0 1) (.rsl Z2 1 0 2) (.rsl Z3 1 0 2))), (Z1, noteO), (Z2, row2 0 0), (Z3, row2 x y), (26, out1 0 c it)]) := by
  refine LSpec.run (tysBOk) followsB Tryz.func17 (by decide) rfl Tryz.ntmps17 (Nat.le_of_ble_eq_true rfl) rfl rfl fun w0 R0 Lo hGw => ?_
  conv => whnf
  refine ALoop.rounds tysBOk followsB 2 ?_
  conv => whnf
  refine ⟨by first | omega | decide +kernel, ?_⟩
  conv => whnf
  refine ⟨by first | omega | decide +kernel, ?_⟩
  conv => whnf
  refine ⟨by first | omega | decide +kernel, ?_⟩
  conv => whnf
  refine ⟨by first | omega | decide +kernel, ?_⟩
  conv => whnf
  refine ⟨_, (thereN_spec h p q sn xc gc qn nilD _ _ _ hp), ?_⟩
  conv => whnf
  refine ⟨⟨⟨by omega, by simp only [ty58]; omega⟩, by omega⟩, ?_⟩
  conv => whnf
  refine ⟨by kernel_rfl, ?_⟩
  conv => whnf
  refine ⟨by first | omega | decide +kernel, ?_⟩
  conv => whnf
  refine ⟨_, _, .refl _, ?_, rfl, rfl⟩
  exact ⟨OLe.refl _, OLe.refl _, OLe.refl _, OLe.refl _, ⟨rfl, rfl, rfl, fun k hk => by cases k0 hk; rfl⟩, trivial⟩
theorem reply0I_spec (h : H) (p q : Pth) (sn : D) (xc gc : Int) (qn : D) (x y : Int) (c : K) (it : D) : LSpec Tryz.prog 17 [.ptr Z0 0, vi 0, kArg c it] (bsI h p q sn xc gc qn x y) (fun r hl => r = .tup [] ∧ hl = [(Z0, .box (bsL h p q sn xc gc qn (.rsl 26 2 0 1) nilA (.rsl Z1 1 0 2) (.rsl Z2 1 0 2))), (Z1, row2 0 0), (Z2, row2 x y), (26, out1 0 c it)]) := by
  refine LSpec.run (tysBOk) followsB Tryz.func17 (by decide) rfl Tryz.ntmps17 (Nat.le_of_ble_eq_true rfl) rfl rfl fun w0 R0 Lo hGw => ?_
  conv => whnf
  refine ALoop.rounds tysBOk followsB 2 ?_
  conv => whnf
  refine ⟨by first | omega | decide +kernel, ?_⟩
  conv => whnf
  refine ⟨by first | omega | decide +kernel, ?_⟩
  conv => whnf
  refine ⟨by first | omega | decide +kernel, ?_⟩
  conv => whnf
  refine ⟨_, (there0_spec h p q sn xc gc qn nilD nilD _ _), ?_⟩
  conv => whnf
  refine ⟨⟨⟨by omega, by simp only [ty58]; omega⟩, by omega⟩, ?_⟩
  conv => whnf
  refine ⟨by kernel_rfl, ?_⟩
  conv => whnf
  refine ⟨by first | omega | decide +kernel, ?_⟩
  conv => whnf
  refine ⟨_, _, .refl _, ?_, rfl, rfl⟩
  exact ⟨OLe.refl _, OLe.refl _, OLe.refl _, ⟨rfl, rfl, rfl, fun k hk => by cases k0 hk; rfl⟩, trivial⟩
theorem reply0III_spec (h : H) (p q : Pth) (sn : D) (xc gc : Int) (qn : D) (x y : Int) (c : K) (it : D) : LSpec Tryz.prog 17 [.ptr Z0 0, vi 0, kArg c it] (bsIII h p q sn xc gc qn x y) (fun r hl => r = .tup [] ∧ hl = [(Z0, .box (bsL h p q sn xc gc qn (.rsl 26 2 0 1) (.rsl Z1 2 0 1) (.rsl Z2 1 0 2) (.rsl Z3 1 0 2))), (Z1, noteO), (Z2, row2 0 0), (Z3, row2 x y), (26, out1 0 c it)]) := by
  refine LSpec.run (tysBOk) followsB Tryz.func17 (by decide) rfl Tryz.ntmps17 (Nat.le_of_ble_eq_true rfl) rfl rfl fun w0 R0 Lo hGw => ?_
  conv => whnf
  refine ALoop.rounds tysBOk followsB 2 ?_
  conv => whnf
  refine ⟨by first | omega | decide +kernel, ?_⟩
  conv => whnf
  refine ⟨by first | omega | decide +kernel, ?_⟩
  conv => whnf
  refine ⟨by first | omega | decide +kernel, ?_⟩
  conv => whnf
  refine ⟨by first | omega | decide +kernel, ?_⟩
  conv => whnf
  refine ⟨_, (there0_spec h p q sn xc gc qn nilD _ _ _), ?_⟩
  conv => whnf
  refine ⟨⟨⟨by omega, by simp only [ty58]; omega⟩, by omega⟩, ?_⟩
  conv => whnf
  refine ⟨by kernel_rfl, ?_⟩
  conv => whnf
  refine ⟨by first | omega | decide +kernel, ?_⟩
  conv => whnf
  refine ⟨_, _, .refl _, ?_, rfl, rfl⟩
  exact ⟨OLe.refl _, OLe.refl _, OLe.refl _, OLe.refl _, ⟨rfl, rfl, rfl, fun k hk => by cases k0 hk; rfl⟩, trivial⟩
theorem reply1IV_spec (h : H) (p q : Pth) (sn : D) (xc gc : Int) (qn : D) (x y : Int) (to0 : Int) (c0 : K) (it0 : D) (c : K) (it : D) : LSpec Tryz.prog 17 [.ptr Z0 0, vi 1, kArg c it] (bsIV h p q sn xc gc qn x y 1 (out1 to0 c0 it0)) (fun r hl => r = .tup [] ∧ hl = [(Z0, .box (bsL h p q sn xc gc qn (.rsl 26 2 0 2) (.rsl Z2 2 0 1) (.rsl Z3 1 0 2) (.rsl Z4 1 0 2))), (Z2, noteO), (Z3, row2 0 0), (Z4, row2 x y), (26, out2 to0 c0 it0 1 c it)]) := by
  refine LSpec.run (tysBOk) followsB Tryz.func17 (by decide) rfl Tryz.ntmps17 (Nat.le_of_ble_eq_true rfl) rfl rfl fun w0 R0 Lo hGw => ?_
  conv => whnf
  refine ALoop.rounds tysBOk followsB 2 ?_
  conv => whnf
  refine ⟨by first | omega | decide +kernel, ?_⟩
  conv => whnf
  refine ⟨by first | omega | decide +kernel, ?_⟩
  conv => whnf
  refine ⟨by first | omega | decide +kernel, ?_⟩
  conv => whnf
  refine ⟨by first | omega | decide +kernel, ?_⟩
  conv => whnf
  refine ⟨by first | omega | decide +kernel, ?_⟩
  conv => whnf
  refine ⟨_, (there1_spec h p q sn xc gc qn _ _ _ _), ?_⟩
  conv => whnf
  refine ⟨⟨⟨rfl, by omega, by simp only [ty58]; omega⟩, by omega⟩, ?_⟩
  conv => whnf
  refine ⟨by kernel_rfl, ?_⟩
  conv => whnf
  refine ⟨by first | omega | decide +kernel, ?_⟩
  conv => whnf
  refine ⟨_, _, .refl _, ?_, rfl, rfl⟩
  exact ⟨OLe.refl _, OLe.refl _, OLe.refl _, OLe.refl _, ⟨rfl, rfl, rfl, fun k hk => by rcases k2 hk with rfl | rfl <;> rfl⟩, trivial⟩
theorem reply00_spec (h : H) (p q : Pth) (sn : D) (xc gc : Int) (qn : D) (x y : Int) (tw : Int) : LSpec Tryz.prog 17 [.ptr Z0 0, vi tw, nilA] (bsIII h p q sn xc gc qn x y) (fun r hl => r = .tup [] ∧ hl = bsIII h p q sn xc gc qn x y) := by
  refine LSpec.run (tysBOk) followsB Tryz.func17 (by decide) rfl Tryz.ntmps17 (Nat.le_of_ble_eq_true rfl) rfl rfl fun w0 R0 Lo hGw => ?_
  conv => whnf
  refine ALoop.rounds tysBOk followsB 1 ?_
  conv => whnf
  refine ⟨_, _, .refl _, ?_, rfl, rfl⟩
  exact ⟨OLe.refl _, OLe.refl _, OLe.refl _, OLe.refl _, trivial⟩
theorem noteBI_spec (h : H) (p q : Pth) (sn : D) (xc gc : Int) (qn : D) (x y : Int) : LSpec Tryz.prog 23 [.ptr Z0 0, vi 1, vi 0] (bsI h p q sn xc gc qn x y) (fun r hl => r = .tup [] ∧ hl = [(Z0, .box (bsL h p q sn xc gc qn nilA (.rsl 15 2 0 1) (.rsl Z1 1 0 2) (.rsl Z2 1 0 2))), (Z1, row2 0 0), (Z2, row2 x y), (15, noteO)]) := by
  refine LSpec.run (tysBOk) followsB Tryz.func23 (by decide) rfl Tryz.ntmps23 (Nat.le_of_ble_eq_true rfl) rfl rfl fun w0 R0 Lo hGw => ?_
  conv => whnf
  refine ⟨⟨⟨by omega, by simp only [ty151]; omega⟩, by omega⟩, ?_⟩
  conv => whnf
  refine ⟨_, _, .refl _, ?_, rfl, rfl⟩
  exact ⟨OLe.refl _, OLe.refl _, OLe.refl _, ⟨rfl, rfl, rfl, fun k hk => by cases k0 hk; rfl⟩, trivial⟩
end Go.Proofs.YtbghocipmlobnaaGreat
