/- Chapter 19: an association with two paths: contracts of the small ones. -/
import Derived.Test.YtbghocipmlobnaaGreatAsE
namespace Towline.Ab
structure Pth where
  ad : List UInt8
  st : Int
  er : Int
  srtt : Int
  var : Int
  rto : Int
  backs : Int
  kn : Bool
  cw : Int
  ss : Int
  pa : Int
  nonce : Int
  beaten : Int
  sent : Int
  deriving Inhabited
def p0 (ad : List UInt8) (st : Int) : Pth := ⟨ad, st, 0, 0, 0, 1000, 0, false, 4500, 60000, 0, 0, 0, 0⟩
end Towline.Ab
namespace Go.Proofs.YtbghocipmlobnaaGreat
open Go Go.RowKit Towline Towline.Hand Towline.Ab
set_option linter.unusedVariables false
set_option linter.unusedSimpArgs false
set_option maxRecDepth 20000
set_option maxHeartbeats 4000000
def encP (p : Pth) : List D := [.s p.ad, .i .i64 p.st, .i .i64 p.er, .i .i64 p.srtt, .i .i64 p.var, .i .i64 p.rto, .i .i64 p.backs, .b p.kn, .i .i64 p.cw, .i .i64 p.ss, .i .i64 p.pa, .i .u32 p.nonce, .i .i64 p.beaten, .i .i64 p.sent]
abbrev pL (p : Pth) : List AVal := [vs p.ad, vi p.st, vi p.er, vi p.srtt, vi p.var, vi p.rto, vi p.backs, vb p.kn, vi p.cw, vi p.ss, vi p.pa, v32 p.nonce, vi p.beaten, vi p.sent]
abbrev pA (p : Pth) : AVal := .agg (pL p)
/-- Two paths. -/
abbrev p2 (p q : Pth) : D := .sl 14 2 fun k => match k with | 0 => encP p | _ + 1 => encP q
abbrev psL (p q : Pth) : List AVal := [.d (p2 p q), vi 0, vi 0]
abbrev adr2 (s t : List UInt8) : AVal := .d (.sl 1 2 fun k => match k with | 0 => [.s s] | _ + 1 => [.s t])
theorem new1L_spec (s : List UInt8) (h : s.length = 4) : PSpec Tryz.prog 139 [vs s] (· = vb false) := by
  refine PSpec.run (tysOk) followsB Tryz.func139 (by decide) rfl Tryz.ntmps139 (Nat.le_of_ble_eq_true rfl) rfl fun w0 R0 hGw => ?_
  conv => whnf
  rw [show ((s.length : Int) != 4) = false from by rw [h]; rfl]
  conv => whnf
  exact ⟨_, .refl _, rfl, rfl⟩
theorem indexS2_spec (s t : List UInt8) (h : s.length = 4) (h2 : t.length = 4) : PSpec Tryz.prog 176 [adr2 s t, .fn 139 []] (· = vi (-1)) := by
  refine PSpec.run (tysOk) followsB Tryz.func176 (by decide) rfl Tryz.ntmps176 (Nat.le_of_ble_eq_true rfl) rfl fun w0 R0 hGw => ?_
  conv => whnf
  refine ALoop.rounds (tysOk) followsB 3 ?_
  conv => whnf
  refine ⟨by first | omega | decide +kernel, ?_⟩
  conv => whnf
  refine ⟨_, (new1L_spec s h), ?_⟩
  rintro q rfl
  conv => whnf
  refine ⟨by first | omega | decide +kernel, ?_⟩
  conv => whnf
  refine ⟨by first | omega | decide +kernel, ?_⟩
  conv => whnf
  refine ⟨_, (new1L_spec t h2), ?_⟩
  rintro q rfl
  conv => whnf
  refine ⟨by first | omega | decide +kernel, ?_⟩
  conv => whnf
  exact ⟨_, .refl _, rfl, rfl⟩
theorem containsS2_spec (s t : List UInt8) (h : s.length = 4) (h2 : t.length = 4) : PSpec Tryz.prog 140 [adr2 s t, .fn 139 []] (· = vb false) := by
  refine PSpec.run (tysOk) followsB Tryz.func140 (by decide) rfl Tryz.ntmps140 (Nat.le_of_ble_eq_true rfl) rfl fun w0 R0 hGw => ?_
  conv => whnf
  refine ⟨_, (indexS2_spec s t h h2), ?_⟩
  rintro q rfl
  conv => whnf
  exact ⟨_, .refl _, rfl, rfl⟩
theorem pfind1_spec (p : Pth) (s : List UInt8) : PSpec Tryz.prog 178 [pA p, .eptr 1 1 (fun _ => [.s s]) 0 0] (· = vb (p.ad == s)) := by
  refine PSpec.run (tysOk) followsB Tryz.func178 (by decide) rfl Tryz.ntmps178 (Nat.le_of_ble_eq_true rfl) rfl fun w0 R0 hGw => ?_
  conv => whnf
  exact ⟨_, .refl _, rfl, rfl⟩
theorem indexP1_spec (p : Pth) (s : List UInt8) (h : p.ad ≠ s) : PSpec Tryz.prog 177 [.d (.sl 14 1 fun _ => encP p), .fn 178 [.eptr 1 1 (fun _ => [.s s]) 0 0]] (· = vi (-1)) := by
  refine PSpec.run (tysOk) followsB Tryz.func177 (by decide) rfl Tryz.ntmps177 (Nat.le_of_ble_eq_true rfl) rfl fun w0 R0 hGw => ?_
  conv => whnf
  refine ALoop.rounds (tysOk) followsB 2 ?_
  conv => whnf
  refine ⟨by first | omega | decide +kernel, ?_⟩
  conv => whnf
  refine ⟨_, (pfind1_spec p s), ?_⟩
  rintro q rfl
  conv => whnf
  rw [show (p.ad == s) = false from beq_eq_false_iff_ne.2 h]
  conv => whnf
  refine ⟨by first | omega | decide +kernel, ?_⟩
  conv => whnf
  exact ⟨_, .refl _, rfl, rfl⟩
theorem findP1_spec (p : Pth) (s : List UInt8) (h : p.ad ≠ s) : PSpec Tryz.prog 141 [.agg [.d (.sl 14 1 fun _ => encP p), vi 0, vi 0], vs s] (· = vi (-1)) := by
  refine PSpec.run (tysOk) followsB Tryz.func141 (by decide) rfl Tryz.ntmps141 (Nat.le_of_ble_eq_true rfl) rfl fun w0 R0 hGw => ?_
  conv => whnf
  refine ⟨_, (indexP1_spec p s h), ?_⟩
  rintro q rfl
  conv => whnf
  exact ⟨_, .refl _, rfl, rfl⟩
theorem pathNew2_spec (s t : List UInt8) (h : s.length = 4) (h2 : t.length = 4) (hne : s ≠ t) : PSpec Tryz.prog 83 [adr2 s t, vi 60000] (· = .tup [.agg (psL (p0 s 2) (p0 t 1)), vi 0]) := by
  refine PSpec.run (tysOk) followsB Tryz.func83 (by decide) rfl Tryz.ntmps83 (Nat.le_of_ble_eq_true rfl) rfl fun w0 R0 hGw => ?_
  conv => whnf
  refine ⟨_, (containsS2_spec s t h h2), ?_⟩
  rintro q rfl
  conv => whnf
  refine ALoop.roundsR tysOk followsB 3 [(44, 900)] [0, 1, 4, 5, 6, 7, 25, 26, 27] [4, 7, 900] ?_
  conv => whnf
  refine ⟨by first | omega | decide +kernel, ?_⟩
  conv => whnf
  refine ⟨_, (pfind_spec s), ?_⟩
  rintro q rfl
  conv => whnf
  refine ⟨_, rtoNew_spec, ?_⟩
  conv => whnf
  refine ⟨_, windowNew_spec, ?_⟩
  conv => whnf
  refine ⟨⟨⟨by omega, by simp only [ty48]; omega⟩, by omega⟩, ?_⟩
  conv => whnf
  refine ⟨by kernel_rfl, ?_⟩
  conv => whnf
  refine ⟨by first | omega | decide +kernel, ?_⟩
  conv => whnf
  refine ⟨by first | omega | decide +kernel, ?_⟩
  conv => whnf
  refine ⟨by first | omega | decide +kernel, ?_⟩
  conv => whnf
  refine ⟨_, ((findP1_spec (p0 s 1) t hne).argsC ⟨.agg ⟨.sl rfl fun k hk => by cases k0 hk; rfl, .refl _, .refl _, trivial⟩, .refl _, trivial⟩), ?_⟩
  rintro q rfl
  conv => whnf
  refine ⟨_, rtoNew_spec, ?_⟩
  conv => whnf
  refine ⟨_, windowNew_spec, ?_⟩
  conv => whnf
  refine ⟨⟨⟨rfl, by omega, by simp only [ty48]; omega⟩, by omega⟩, ?_⟩
  conv => whnf
  refine ⟨by kernel_rfl, ?_⟩
  conv => whnf
  refine ⟨by first | omega | decide +kernel, ?_⟩
  conv => whnf
  refine ⟨by first | omega | decide +kernel, ?_⟩
  conv => whnf
  refine ⟨by first | omega | decide +kernel, ?_⟩
  conv => whnf
  refine ⟨by first | omega | decide +kernel, ?_⟩
  conv => whnf
  refine ⟨.tup [.agg (psL (p0 s 2) (p0 t 1)), vi 0], .tup ⟨.agg ⟨.sl rfl fun k hk => ?_, .refl _, .refl _, trivial⟩, .refl _, trivial⟩, rfl, rfl⟩
  rcases (show k = 0 ∨ k = 1 by omega) with rfl | rfl <;> rfl
theorem there2_spec (p q : Pth) (i : Int) : PSpec Tryz.prog 66 [.agg (psL p q), vi i] (· = vb (decide (0 ≤ i) && decide (i < 2))) := by
  refine PSpec.run (tysOk) followsB Tryz.func66 (by decide) rfl Tryz.ntmps66 (Nat.le_of_ble_eq_true rfl) rfl fun w0 R0 hGw => ?_
  conv => whnf
  split <;> rename_i g
  · conv => whnf
    exact ⟨_, .refl _, congrArg vb (by rw [g]; rfl), rfl⟩
  · conv => whnf
    exact ⟨_, .refl _, congrArg vb (by rw [g]; rfl), rfl⟩
theorem choose12_spec (p q : Pth) (h : p.st = 2) : PSpec Tryz.prog 65 [vi 0, .eptr 3 1 (fun _ => [p2 p q, .i .i64 0, .i .i64 0]) 0 0] (· = vb true) := by
  refine PSpec.run (tysOk) followsB Tryz.func65 (by decide) rfl Tryz.ntmps65 (Nat.le_of_ble_eq_true rfl) rfl fun w0 R0 hGw => ?_
  conv => whnf
  refine ⟨_, (there2_spec p q 0), ?_⟩
  rintro q rfl
  conv => whnf
  refine ⟨by first | omega | decide +kernel, ?_⟩
  conv => whnf
  rw [show (p.st == 2) = true from by rw [h]; rfl]
  conv => whnf
  exact ⟨_, .refl _, rfl, rfl⟩
theorem choose2_spec (p q : Pth) (h : p.st = 2) : PSpec Tryz.prog 26 [.agg (psL p q), vi (-1)] (· = vi 0) := by
  refine PSpec.run (tysOk) followsB Tryz.func26 (by decide) rfl Tryz.ntmps26 (Nat.le_of_ble_eq_true rfl) rfl fun w0 R0 hGw => ?_
  conv => whnf
  refine ALoop.roundsR tysOk followsB 3 [] [0, 1, 2, 4, 5, 15, 16] [2, 22] ?_
  conv => whnf
  refine ⟨⟨⟨rfl, by omega, by simp only [ty3]; omega⟩, by omega⟩, ?_⟩
  conv => whnf
  refine ⟨by first | omega | decide +kernel, ?_⟩
  conv => whnf
  refine ⟨⟨⟨rfl, by omega, by simp only [ty3]; omega⟩, by omega⟩, ?_⟩
  conv => whnf
  refine ⟨by first | omega | decide +kernel, ?_⟩
  conv => whnf
  refine ALoop.rounds (tysOk) followsB 3 ?_
  conv => whnf
  refine ⟨by first | omega | decide +kernel, ?_⟩
  conv => whnf
  refine ⟨by first | omega | decide +kernel, ?_⟩
  conv => whnf
  refine ⟨_, (choose12_spec p q h), ?_⟩
  rintro q rfl
  conv => whnf
  exact ⟨_, .refl _, rfl, rfl⟩
theorem choose11_spec (p q : Pth) (h : q.st = 1) : PSpec Tryz.prog 65 [vi 1, .eptr 3 1 (fun _ => [p2 p q, .i .i64 0, .i .i64 0]) 0 0] (· = vb false) := by
  refine PSpec.run (tysOk) followsB Tryz.func65 (by decide) rfl Tryz.ntmps65 (Nat.le_of_ble_eq_true rfl) rfl fun w0 R0 hGw => ?_
  conv => whnf
  refine ⟨_, (there2_spec p q 1), ?_⟩
  rintro q rfl
  conv => whnf
  refine ⟨by first | omega | decide +kernel, ?_⟩
  conv => whnf
  rw [show (q.st == 2) = false from by rw [h]; rfl]
  conv => whnf
  exact ⟨_, .refl _, rfl, rfl⟩
theorem chooseP_spec (p q : Pth) (h : p.st = 2) (h2 : q.st = 1) : PSpec Tryz.prog 26 [.agg (psL p q), vi 0] (· = vi 0) := by
  refine PSpec.run (tysOk) followsB Tryz.func26 (by decide) rfl Tryz.ntmps26 (Nat.le_of_ble_eq_true rfl) rfl fun w0 R0 hGw => ?_
  conv => whnf
  refine ALoop.roundsR tysOk followsB 3 [] [0, 1, 2, 4, 5, 15, 16] [2, 22] ?_
  conv => whnf
  refine ⟨⟨⟨rfl, by omega, by simp only [ty3]; omega⟩, by omega⟩, ?_⟩
  conv => whnf
  refine ⟨by first | omega | decide +kernel, ?_⟩
  conv => whnf
  refine ⟨⟨⟨rfl, by omega, by simp only [ty3]; omega⟩, by omega⟩, ?_⟩
  conv => whnf
  refine ⟨by first | omega | decide +kernel, ?_⟩
  conv => whnf
  refine ALoop.rounds (tysOk) followsB 4 ?_
  conv => whnf
  refine ⟨by first | omega | decide +kernel, ?_⟩
  conv => whnf
  refine ⟨by first | omega | decide +kernel, ?_⟩
  conv => whnf
  refine ⟨by first | omega | decide +kernel, ?_⟩
  conv => whnf
  refine ⟨by first | omega | decide +kernel, ?_⟩
  conv => whnf
  refine ⟨by first | omega | decide +kernel, ?_⟩
  conv => whnf
  refine ⟨by first | omega | decide +kernel, ?_⟩
  conv => whnf
  refine ⟨by first | omega | decide +kernel, ?_⟩
  conv => whnf
  refine ⟨by first | omega | decide +kernel, ?_⟩
  conv => whnf
  refine ⟨_, (choose11_spec p q h2), ?_⟩
  rintro q rfl
  conv => whnf
  refine ⟨by first | omega | decide +kernel, ?_⟩
  conv => whnf
  refine ⟨_, (choose12_spec p q h), ?_⟩
  rintro q rfl
  conv => whnf
  exact ⟨_, .refl _, rfl, rfl⟩
theorem rhold_spec (n a b : Int) : PSpec Tryz.prog 121 [vi n, vi a, vi b] (· = vi (max a (min n b))) := by
  refine PSpec.run (tysOk) followsB Tryz.func121 (by decide) rfl Tryz.ntmps121 (Nat.le_of_ble_eq_true rfl) rfl fun w0 R0 hGw => ?_
  conv => whnf
  exact ⟨_, .refl _, rfl, rfl⟩
abbrev tmA (srtt var rto backs : Int) (kn : Bool) : AVal := .agg [vi srtt, vi var, vi rto, vi backs, vb kn]
theorem rbeat_spec (a b d : Int) (kn : Bool) : PSpec Tryz.prog 71 [tmA a b 1000 d kn, vi 30000] (· = vi 31000) := by
  refine PSpec.run (tysOk) followsB Tryz.func71 (by decide) rfl Tryz.ntmps71 (Nat.le_of_ble_eq_true rfl) rfl fun w0 R0 hGw => ?_
  conv => whnf
  refine ⟨_, (rhold_spec 1000 0 1048576), ?_⟩
  rintro q rfl
  conv => whnf
  refine ⟨_, (rhold_spec 30000 0 1048576), ?_⟩
  rintro q rfl
  conv => whnf
  refine ⟨by first | omega | decide +kernel, ?_⟩
  conv => whnf
  exact ⟨_, .refl _, rfl, rfl⟩
theorem rwait_spec (r b : Int) (kn : Bool) : PSpec Tryz.prog 122 [tmA 500 250 r b kn] (· = vi 1500) := by
  refine PSpec.run (tysOk) followsB Tryz.func122 (by decide) rfl Tryz.ntmps122 (Nat.le_of_ble_eq_true rfl) rfl fun w0 R0 hGw => ?_
  conv => whnf
  refine ⟨_, (rhold_spec 500 0 1048576), ?_⟩
  conv => whnf
  refine ⟨_, (rhold_spec 250 0 1048576), ?_⟩
  conv => whnf
  refine ⟨by first | omega | decide +kernel, ?_⟩
  conv => whnf
  refine ⟨by first | omega | decide +kernel, ?_⟩
  conv => whnf
  refine ⟨_, (rhold_spec 1500 1000 60000), ?_⟩
  conv => whnf
  refine ⟨by kernel_rfl, ?_⟩
  conv => whnf
  exact ⟨_, .refl _, rfl, rfl⟩
theorem rsample_spec (d : Int) : PSpec Tryz.prog 53 [tmA 0 0 1000 d false, vi 500] (· = tmA 500 250 1500 0 true) := by
  refine PSpec.run (tysOk) followsB Tryz.func53 (by decide) rfl Tryz.ntmps53 (Nat.le_of_ble_eq_true rfl) rfl fun w0 R0 hGw => ?_
  conv => whnf
  refine ⟨_, (rhold_spec 500 0 60000), ?_⟩
  rintro q rfl
  conv => whnf
  refine ⟨by first | omega | decide +kernel, ?_⟩
  conv => whnf
  refine ⟨_, (rwait_spec 0 0 true), ?_⟩
  rintro q rfl
  conv => whnf
  exact ⟨_, .refl _, rfl, rfl⟩
theorem rgood0_spec (a b r d : Int) : PSpec Tryz.prog 172 [tmA a b r d false] (· = tmA a b 1000 0 false) := by
  refine PSpec.run (tysOk) followsB Tryz.func172 (by decide) rfl Tryz.ntmps172 (Nat.le_of_ble_eq_true rfl) rfl fun w0 R0 hGw => ?_
  conv => whnf
  exact ⟨_, .refl _, rfl, rfl⟩
theorem rgood1_spec (r d : Int) : PSpec Tryz.prog 172 [tmA 500 250 r d true] (· = tmA 500 250 1500 0 true) := by
  refine PSpec.run (tysOk) followsB Tryz.func172 (by decide) rfl Tryz.ntmps172 (Nat.le_of_ble_eq_true rfl) rfl fun w0 R0 hGw => ?_
  conv => whnf
  refine ⟨_, (rwait_spec 1000 0 true), ?_⟩
  rintro q rfl
  conv => whnf
  exact ⟨_, .refl _, rfl, rfl⟩
abbrev pathT : Nat := 48
abbrev lentP : List (Nat × List Bool) := [(73, []), (124, []), (171, [])]
abbrev F0 : Nat := 1000000000
abbrev F1 : Nat := 1000000001
abbrev F2 : Nat := 1000000002
abbrev rowP (p q : Pth) : AObj := .row pathT 14 2 fun k => match k with | 0 => encP p | _ + 1 => encP q
def beatP (p : Pth) (x now : Int) : Pth := { p with nonce := x, beaten := now, sent := 1 }
theorem beat10_spec (p q : Pth) (x now : Int) : LSpec Tryz.prog 73 [.rptr F0 14 0 0, .ptr F1 0, .ptr F2 0] [(F0, rowP p q), (F1, .box [v32 x]), (F2, .box [vi now])] (fun r hl => r = .tup [] ∧ hl = [(F0, rowP (beatP p x now) q), (F1, .box [v32 x]), (F2, .box [vi now])]) := by
  refine LSpec.run (tysOk) followsB Tryz.func73 (by decide) rfl Tryz.ntmps73 (Nat.le_of_ble_eq_true rfl) rfl rfl fun w0 R0 Lo hGw => ?_
  conv => whnf
  refine ⟨by first | omega | decide +kernel, ?_⟩
  conv => whnf
  refine ⟨by first | omega | decide +kernel, ?_⟩
  conv => whnf
  refine ⟨by first | omega | decide +kernel, ?_⟩
  conv => whnf
  refine ⟨by kernel_rfl, ?_⟩
  conv => whnf
  refine ⟨_, _, .refl _, ?_, rfl, rfl⟩
  exact ⟨⟨rfl, rfl, rfl, fun k hk => by rcases (show k = 0 ∨ k = 1 by omega) with rfl | rfl <;> rfl⟩, OLe.refl _, OLe.refl _, trivial⟩
theorem beat11_spec (p q : Pth) (x now : Int) : LSpec Tryz.prog 73 [.rptr F0 14 1 0, .ptr F1 0, .ptr F2 0] [(F0, rowP p q), (F1, .box [v32 x]), (F2, .box [vi now])] (fun r hl => r = .tup [] ∧ hl = [(F0, rowP p (beatP q x now)), (F1, .box [v32 x]), (F2, .box [vi now])]) := by
  refine LSpec.run (tysOk) followsB Tryz.func73 (by decide) rfl Tryz.ntmps73 (Nat.le_of_ble_eq_true rfl) rfl rfl fun w0 R0 Lo hGw => ?_
  conv => whnf
  refine ⟨by first | omega | decide +kernel, ?_⟩
  conv => whnf
  refine ⟨by first | omega | decide +kernel, ?_⟩
  conv => whnf
  refine ⟨by first | omega | decide +kernel, ?_⟩
  conv => whnf
  refine ⟨by kernel_rfl, ?_⟩
  conv => whnf
  refine ⟨_, _, .refl _, ?_, rfl, rfl⟩
  exact ⟨⟨rfl, rfl, rfl, fun k hk => by rcases (show k = 0 ∨ k = 1 by omega) with rfl | rfl <;> rfl⟩, OLe.refl _, OLe.refl _, trivial⟩
def ackP (p : Pth) : Pth := { p with srtt := 500, var := 250, rto := 1500, backs := 0, kn := true, sent := 0, st := 2 }
def goodP (p : Pth) : Pth := { p with er := 0, backs := 0, rto := 1500 }
theorem timer_le (q : Pth) (h : q.srtt = 0 ∧ q.var = 0 ∧ q.rto = 1000 ∧ q.kn = false) : True := trivial
theorem ack11_spec (p q : Pth) (now : Int) (h : q.srtt = 0 ∧ q.var = 0 ∧ q.rto = 1000 ∧ q.kn = false) (hb : now - q.beaten = 500) (hs : q.st = 1) : LSpec Tryz.prog 124 [.rptr F0 14 1 0, .ptr F1 0] [(F0, rowP p q), (F1, .box [vi now])] (fun r hl => r = .tup [] ∧ hl = [(F0, rowP p (ackP q)), (F1, .box [vi now])]) := by
  obtain ⟨ad, st, er, srtt, var, rt, bk, kn, cw, ss, pa, nn, bt, se⟩ := q
  dsimp only at h hb hs
  obtain ⟨rfl, rfl, rfl, rfl⟩ := h
  subst hs
  refine LSpec.run (tysOk) followsB Tryz.func124 (by decide) rfl Tryz.ntmps124 (Nat.le_of_ble_eq_true rfl) rfl rfl fun w0 R0 Lo hGw => ?_
  conv => whnf
  refine ⟨by first | omega | (simp only [Int.toNat_natCast]; omega) | (simp; done) | (simp; omega), ?_⟩
  conv => whnf
  refine ⟨by first | omega | (simp only [Int.toNat_natCast]; omega) | (simp; done) | (simp; omega), ?_⟩
  conv => whnf
  refine ⟨by first | omega | (simp only [Int.toNat_natCast]; omega) | (simp; done) | (simp; omega), ?_⟩
  conv => whnf
  rw [hb]
  refine ⟨_, (rsample_spec bk), ?_⟩
  conv => whnf
  refine ⟨by first | omega | decide +kernel, ?_⟩
  conv => whnf
  refine ⟨by first | omega | decide +kernel, ?_⟩
  conv => whnf
  refine ⟨by kernel_rfl, ?_⟩
  conv => whnf
  refine ⟨by first | omega | decide +kernel, ?_⟩
  conv => whnf
  refine ⟨by first | omega | decide +kernel, ?_⟩
  conv => whnf
  refine ⟨_, _, .refl _, ?_, rfl, rfl⟩
  exact ⟨⟨rfl, rfl, rfl, fun k hk => by rcases (show k = 0 ∨ k = 1 by omega) with rfl | rfl <;> rfl⟩, OLe.refl _, trivial⟩
theorem good11_spec (p q : Pth) (h : q.srtt = 500 ∧ q.var = 250 ∧ q.kn = true) (hs : q.st = 2) : LSpec Tryz.prog 171 [.rptr F0 14 1 0] [(F0, rowP p q)] (fun r hl => r = .tup [] ∧ hl = [(F0, rowP p (goodP q))]) := by
  obtain ⟨ad, st, er, srtt, var, rt, bk, kn, cw, ss, pa, nn, bt, se⟩ := q
  dsimp only at h hs
  obtain ⟨rfl, rfl, rfl⟩ := h
  subst hs
  refine LSpec.run (tysOk) followsB Tryz.func171 (by decide) rfl Tryz.ntmps171 (Nat.le_of_ble_eq_true rfl) rfl rfl fun w0 R0 Lo hGw => ?_
  conv => whnf
  refine ⟨by first | omega | decide +kernel, ?_⟩
  conv => whnf
  refine ⟨_, (rgood1_spec rt bk), ?_⟩
  rintro q rfl
  conv => whnf
  refine ⟨by first | omega | decide +kernel, ?_⟩
  conv => whnf
  refine ⟨by first | omega | decide +kernel, ?_⟩
  conv => whnf
  refine ⟨by first | omega | decide +kernel, ?_⟩
  conv => whnf
  refine ⟨_, _, .refl _, ?_, rfl, rfl⟩
  exact ⟨⟨rfl, rfl, rfl, fun k hk => by rcases (show k = 0 ∨ k = 1 by omega) with rfl | rfl <;> rfl⟩, trivial⟩
theorem cloneP_spec (p q : Pth) : PSpec Tryz.prog 21 [.d (p2 p q)] (· = .fresh pathT 14 2 fun k => match k with | 0 => encP p | _ + 1 => encP q) := by
  refine PSpec.runF (tysOk) followsB Tryz.func21 (by decide) rfl Tryz.ntmps21 (Nat.le_of_ble_eq_true rfl) rfl fun w0 R0 hGw => ?_
  conv => whnf
  intro b hb
  obtain rfl := hb (by omega)
  conv => whnf
  refine ⟨⟨rfl, by omega, by simp only [ty48]; omega⟩, ?_⟩
  conv => whnf
  exact ⟨rfl, rfl, 2, _, rfl, fun k hk => by rcases (show k = 0 ∨ k = 1 by omega) with rfl | rfl <;> rfl, rfl⟩
theorem changeB0_spec (p q : Pth) (x now : Int) : LSpec Tryz.prog 72 [.agg (psL p q), vi 0, .fn 73 [.ptr F0 0, .ptr F1 0]] [(F0, .box [v32 x]), (F1, .box [vi now])] (fun r hl => r = .agg [.rsl 12 14 0 2, vi 0, vi 0] ∧ hl = [(12, rowP (beatP p x now) q), (F0, .box [v32 x]), (F1, .box [vi now])]) := by
  refine LSpec.run ((tysLOk lentP)) followsB Tryz.func72 (by decide) rfl Tryz.ntmps72 (Nat.le_of_ble_eq_true rfl) rfl rfl fun w0 R0 Lo hGw => ?_
  conv => whnf
  refine ⟨_, (there2_spec p q 0), ?_⟩
  rintro q rfl
  conv => whnf
  refine ⟨_, (cloneP_spec p q), ?_⟩
  rintro q rfl
  conv => whnf
  refine ⟨by first | omega | decide +kernel, ?_⟩
  conv => whnf
  refine ⟨_, (beat10_spec p q x now), ?_⟩
  rintro q hq ⟨rfl, rfl⟩
  conv => whnf
  refine ⟨_, _, .refl _, ?_, rfl, rfl⟩
  exact ⟨OLe.refl _, OLe.refl _, OLe.refl _, trivial⟩
theorem changeB1_spec (p q : Pth) (x now : Int) : LSpec Tryz.prog 72 [.agg (psL p q), vi 1, .fn 73 [.ptr F0 0, .ptr F1 0]] [(F0, .box [v32 x]), (F1, .box [vi now])] (fun r hl => r = .agg [.rsl 12 14 0 2, vi 0, vi 0] ∧ hl = [(12, rowP p (beatP q x now)), (F0, .box [v32 x]), (F1, .box [vi now])]) := by
  refine LSpec.run ((tysLOk lentP)) followsB Tryz.func72 (by decide) rfl Tryz.ntmps72 (Nat.le_of_ble_eq_true rfl) rfl rfl fun w0 R0 Lo hGw => ?_
  conv => whnf
  refine ⟨_, (there2_spec p q 1), ?_⟩
  rintro q rfl
  conv => whnf
  refine ⟨_, (cloneP_spec p q), ?_⟩
  rintro q rfl
  conv => whnf
  refine ⟨by first | omega | decide +kernel, ?_⟩
  conv => whnf
  refine ⟨_, (beat11_spec p q x now), ?_⟩
  rintro q hq ⟨rfl, rfl⟩
  conv => whnf
  refine ⟨_, _, .refl _, ?_, rfl, rfl⟩
  exact ⟨OLe.refl _, OLe.refl _, OLe.refl _, trivial⟩
theorem changeA1_spec (p q : Pth) (now : Int) (h : q.srtt = 0 ∧ q.var = 0 ∧ q.rto = 1000 ∧ q.kn = false) (hb : now - q.beaten = 500) (hs : q.st = 1) : LSpec Tryz.prog 72 [.agg (psL p q), vi 1, .fn 124 [.ptr F0 0]] [(F0, .box [vi now])] (fun r hl => r = .agg [.rsl 12 14 0 2, vi 0, vi 0] ∧ hl = [(12, rowP p (ackP q)), (F0, .box [vi now])]) := by
  refine LSpec.run ((tysLOk lentP)) followsB Tryz.func72 (by decide) rfl Tryz.ntmps72 (Nat.le_of_ble_eq_true rfl) rfl rfl fun w0 R0 Lo hGw => ?_
  conv => whnf
  refine ⟨_, (there2_spec p q 1), ?_⟩
  rintro q rfl
  conv => whnf
  refine ⟨_, (cloneP_spec p q), ?_⟩
  rintro q rfl
  conv => whnf
  refine ⟨by first | omega | decide +kernel, ?_⟩
  conv => whnf
  refine ⟨_, (ack11_spec p q now h hb hs), ?_⟩
  rintro q hq ⟨rfl, rfl⟩
  conv => whnf
  refine ⟨_, _, .refl _, ?_, rfl, rfl⟩
  exact ⟨OLe.refl _, OLe.refl _, trivial⟩
theorem changeG1_spec (p q : Pth) (h : q.srtt = 500 ∧ q.var = 250 ∧ q.kn = true) (hs : q.st = 2) : PSpec Tryz.prog 72 [.agg (psL p q), vi 1, .fn 171 []] (· = .agg (psL p (goodP q))) := by
  refine PSpec.run ((tysLOk lentP)) followsB Tryz.func72 (by decide) rfl Tryz.ntmps72 (Nat.le_of_ble_eq_true rfl) rfl fun w0 R0 hGw => ?_
  conv => whnf
  refine ⟨_, (there2_spec p q 1), ?_⟩
  rintro q rfl
  conv => whnf
  refine ⟨_, (cloneP_spec p q), ?_⟩
  rintro q rfl
  conv => whnf
  refine ⟨by first | omega | decide +kernel, ?_⟩
  conv => whnf
  refine ⟨_, (good11_spec p q h hs), ?_⟩
  rintro q hq ⟨rfl, rfl⟩
  conv => whnf
  refine ⟨by first | omega | decide +kernel, ?_⟩
  conv => whnf
  exact ⟨_, .refl _, rfl, rfl⟩
abbrev lentC : List (Nat × List Bool) := [(72, [])]
theorem beatA_spec (p q : Pth) (x now : Int) : PSpec Tryz.prog 30 [.agg (psL p q), vi 0, v32 x, vi now] (· = .agg (psL (beatP p x now) q)) := by
  refine PSpec.run ((tysLOk lentC)) followsB Tryz.func30 (by decide) rfl Tryz.ntmps30 (Nat.le_of_ble_eq_true rfl) rfl fun w0 R0 hGw => ?_
  conv => whnf
  refine ⟨_, (changeB0_spec p q x now), ?_⟩
  rintro q hq ⟨rfl, rfl⟩
  conv => whnf
  refine ⟨by first | omega | decide +kernel, ?_⟩
  conv => whnf
  exact ⟨_, .refl _, rfl, rfl⟩
theorem beatB_spec (p q : Pth) (x now : Int) : PSpec Tryz.prog 30 [.agg (psL p q), vi 1, v32 x, vi now] (· = .agg (psL p (beatP q x now))) := by
  refine PSpec.run ((tysLOk lentC)) followsB Tryz.func30 (by decide) rfl Tryz.ntmps30 (Nat.le_of_ble_eq_true rfl) rfl fun w0 R0 hGw => ?_
  conv => whnf
  refine ⟨_, (changeB1_spec p q x now), ?_⟩
  rintro q hq ⟨rfl, rfl⟩
  conv => whnf
  refine ⟨by first | omega | decide +kernel, ?_⟩
  conv => whnf
  exact ⟨_, .refl _, rfl, rfl⟩
theorem good1_spec (p q : Pth) (h : q.srtt = 500 ∧ q.var = 250 ∧ q.kn = true) (hs : q.st = 2) : PSpec Tryz.prog 123 [.agg (psL p q), vi 1] (· = .agg (psL p (goodP q))) := by
  refine PSpec.run (tysOk) followsB Tryz.func123 (by decide) rfl Tryz.ntmps123 (Nat.le_of_ble_eq_true rfl) rfl fun w0 R0 hGw => ?_
  conv => whnf
  refine ⟨_, (there2_spec p q 1), ?_⟩
  rintro q rfl
  conv => whnf
  refine ⟨_, (changeG1_spec p q h hs), ?_⟩
  rintro q rfl
  conv => whnf
  exact ⟨_, .refl _, rfl, rfl⟩
theorem ackN_spec (p q : Pth) (i : Int) (hi : i = 0 ∨ i = 1) (x now : Int) (hp : p.sent ≠ 1) (hq : q.sent ≠ 1) : PSpec Tryz.prog 56 [.agg (psL p q), vi i, v32 x, vi now] (· = .tup [.agg (psL p q), vb false]) := by
  rcases hi with rfl | rfl
  · refine PSpec.run ((tysLOk lentC)) followsB Tryz.func56 (by decide) rfl Tryz.ntmps56 (Nat.le_of_ble_eq_true rfl) rfl fun w0 R0 hGw => ?_
    conv => whnf
    refine ⟨_, (there2_spec p q 0), ?_⟩
    rintro q rfl
    conv => whnf
    refine ⟨by first | omega | decide +kernel, ?_⟩
    conv => whnf
    rw [show (p.sent != 1) = true from bne_iff_ne.2 hp]
    conv => whnf
    exact ⟨_, .refl _, rfl, rfl⟩
  · refine PSpec.run ((tysLOk lentC)) followsB Tryz.func56 (by decide) rfl Tryz.ntmps56 (Nat.le_of_ble_eq_true rfl) rfl fun w0 R0 hGw => ?_
    conv => whnf
    refine ⟨_, (there2_spec p q 1), ?_⟩
    rintro q rfl
    conv => whnf
    refine ⟨by first | omega | decide +kernel, ?_⟩
    conv => whnf
    rw [show (q.sent != 1) = true from bne_iff_ne.2 hq]
    conv => whnf
    exact ⟨_, .refl _, rfl, rfl⟩
theorem ackY_spec (p q : Pth) (x now : Int) (h : q.srtt = 0 ∧ q.var = 0 ∧ q.rto = 1000 ∧ q.kn = false) (hb : now - q.beaten = 500) (hs : q.st = 1) (hx : q.nonce = x) (hq : q.sent = 1) : PSpec Tryz.prog 56 [.agg (psL p q), vi 1, v32 x, vi now] (· = .tup [.agg (psL p (goodP (ackP q))), vb true]) := by
  refine PSpec.run ((tysPLOk [43] lentC)) followsB Tryz.func56 (by decide) rfl Tryz.ntmps56 (Nat.le_of_ble_eq_true rfl) rfl fun w0 R0 hGw => ?_
  conv => whnf
  refine ⟨_, (there2_spec p q 1), ?_⟩
  rintro q rfl
  conv => whnf
  refine ⟨by first | omega | decide +kernel, ?_⟩
  conv => whnf
  rw [show (q.sent != 1) = false from bne_eq_false_iff_eq.2 hq]
  conv => whnf
  rw [show (q.nonce != x) = false from bne_eq_false_iff_eq.2 hx]
  conv => whnf
  rw [show decide (now < q.beaten) = false from decide_eq_false (by omega)]
  conv => whnf
  refine ⟨_, (changeA1_spec p q now h hb hs), ?_⟩
  rintro q hq ⟨rfl, rfl⟩
  conv => whnf
  refine ⟨by first | omega | decide +kernel, ?_⟩
  conv => whnf
  refine ⟨_, (good1_spec p (ackP q) ⟨rfl, rfl, rfl⟩ rfl), ?_⟩
  rintro q rfl
  conv => whnf
  exact ⟨_, .refl _, rfl, rfl⟩
end Go.Proofs.YtbghocipmlobnaaGreat
