/- Chapter 19: what an association is made of: contracts of the small ones. -/
import Derived.Test.YtbghocipmlobnaaGreatHaE
import Derived.Test.YtbghocipmlobnaaGreatHaC
namespace Go.Proofs.YtbghocipmlobnaaGreat
open Go Go.RowKit Towline Towline.Hand
set_option linter.unusedVariables false
set_option linter.unusedSimpArgs false
set_option maxRecDepth 20000
set_option maxHeartbeats 4000000
abbrev nilA : AVal := .d nilD
abbrev a4 : List UInt8 := [97, 97, 97, 97]
abbrev adr1 : AVal := .d (.sl 1 1 fun _ => [.s a4])
/-- A path, as it begins. -/
abbrev pathL : List D := [.s a4, .i .i64 2, .i .i64 0, .i .i64 0, .i .i64 0, .i .i64 1000, .i .i64 0, .b false, .i .i64 4500, .i .i64 60000, .i .i64 0, .i .u32 0, .i .i64 0, .i .i64 0]
abbrev pathsL : List AVal := [.d (.sl 14 1 fun _ => pathL), vi 0, vi 0]
theorem new1_spec : PSpec Tryz.prog 139 [vs a4] (· = vb false) := by
  refine PSpec.run (tysOk) followsB Tryz.func139 (by decide) rfl Tryz.ntmps139 (Nat.le_of_ble_eq_true rfl) rfl fun w0 R0 hGw => ?_
  conv => whnf
  exact ⟨_, .refl _, rfl, rfl⟩
theorem indexS_spec : PSpec Tryz.prog 176 [adr1, .fn 139 []] (· = vi (-1)) := by
  refine PSpec.run (tysOk) followsB Tryz.func176 (by decide) rfl Tryz.ntmps176 (Nat.le_of_ble_eq_true rfl) rfl fun w0 R0 hGw => ?_
  conv => whnf
  refine ALoop.rounds (tysOk) followsB 3 ?_
  conv => whnf
  refine ⟨by first | omega | decide +kernel, ?_⟩
  conv => whnf
  refine ⟨_, new1_spec, ?_⟩
  rintro q rfl
  conv => whnf
  refine ⟨by first | omega | decide +kernel, ?_⟩
  conv => whnf
  exact ⟨_, .refl _, rfl, rfl⟩
theorem containsS_spec : PSpec Tryz.prog 140 [adr1, .fn 139 []] (· = vb false) := by
  refine PSpec.run (tysOk) followsB Tryz.func140 (by decide) rfl Tryz.ntmps140 (Nat.le_of_ble_eq_true rfl) rfl fun w0 R0 hGw => ?_
  conv => whnf
  refine ⟨_, indexS_spec, ?_⟩
  rintro q rfl
  conv => whnf
  exact ⟨_, .refl _, rfl, rfl⟩
theorem indexP_spec : PSpec Tryz.prog 177 [nilA, .any] (· = vi (-1)) := by
  refine PSpec.run (tysOk) followsB Tryz.func177 (by decide) rfl Tryz.ntmps177 (Nat.le_of_ble_eq_true rfl) rfl fun w0 R0 hGw => ?_
  conv => whnf
  refine ALoop.rounds (tysOk) followsB 1 ?_
  conv => whnf
  exact ⟨_, .refl _, rfl, rfl⟩
theorem pfind_spec (s : List UInt8) : PSpec Tryz.prog 141 [.agg [nilA, vi 0, vi 0], vs s] (· = vi (-1)) := by
  refine PSpec.run (tysOk) followsB Tryz.func141 (by decide) rfl Tryz.ntmps141 (Nat.le_of_ble_eq_true rfl) rfl fun w0 R0 hGw => ?_
  conv => whnf
  refine ⟨_, (indexP_spec.argsC ⟨.refl _, .any _, trivial⟩), ?_⟩
  rintro q rfl
  conv => whnf
  exact ⟨_, .refl _, rfl, rfl⟩
theorem rtoNew_spec : PSpec Tryz.prog 142 [] (· = .agg [vi 0, vi 0, vi 1000, vi 0, vb false]) := by
  refine PSpec.run (tysOk) followsB Tryz.func142 (by decide) rfl Tryz.ntmps142 (Nat.le_of_ble_eq_true rfl) rfl fun w0 R0 hGw => ?_
  conv => whnf
  exact ⟨_, .refl _, rfl, rfl⟩
theorem hold_spec (n m : Int) : PSpec Tryz.prog 117 [vi n, vi m] (· = vi (max m (min n 1073741824))) := by
  refine PSpec.run (tysOk) followsB Tryz.func117 (by decide) rfl Tryz.ntmps117 (Nat.le_of_ble_eq_true rfl) rfl fun w0 R0 hGw => ?_
  conv => whnf
  exact ⟨_, .refl _, rfl, rfl⟩
theorem windowNew_spec : PSpec Tryz.prog 143 [vi 60000] (· = .agg [vi 4500, vi 60000, vi 0]) := by
  refine PSpec.run (tysOk) followsB Tryz.func143 (by decide) rfl Tryz.ntmps143 (Nat.le_of_ble_eq_true rfl) rfl fun w0 R0 hGw => ?_
  conv => whnf
  refine ⟨_, (hold_spec 60000 0), ?_⟩
  rintro q rfl
  conv => whnf
  exact ⟨_, .refl _, rfl, rfl⟩
theorem pathNew_spec : PSpec Tryz.prog 83 [adr1, vi 60000] (· = .tup [.agg pathsL, vi 0]) := by
  refine PSpec.run (tysOk) followsB Tryz.func83 (by decide) rfl Tryz.ntmps83 (Nat.le_of_ble_eq_true rfl) rfl fun w0 R0 hGw => ?_
  conv => whnf
  refine ⟨_, containsS_spec, ?_⟩
  rintro q rfl
  conv => whnf
  refine ALoop.rounds (tysOk) followsB 2 ?_
  conv => whnf
  refine ⟨by first | omega | decide +kernel, ?_⟩
  conv => whnf
  refine ⟨_, (pfind_spec a4), ?_⟩
  rintro q rfl
  conv => whnf
  refine ⟨_, rtoNew_spec, ?_⟩
  conv => whnf
  refine ⟨_, windowNew_spec, ?_⟩
  conv => whnf
  refine ⟨⟨⟨by omega, by simp only [ty48]; omega⟩, by omega⟩, ?_⟩
  conv => whnf
  refine ⟨by kernel_rfl, ?_⟩
  conv => whnf
  refine ⟨by first | omega | decide +kernel, ?_⟩
  conv => whnf
  refine ⟨by first | omega | decide +kernel, ?_⟩
  conv => whnf
  refine ⟨by first | omega | decide +kernel, ?_⟩
  conv => whnf
  refine ⟨by first | omega | decide +kernel, ?_⟩
  conv => whnf
  refine ⟨.tup [.agg pathsL, vi 0], .tup ⟨.agg ⟨.sl rfl fun k hk => ?_, .refl _, .refl _, trivial⟩, .refl _, trivial⟩, rfl, rfl⟩
  obtain rfl : k = 0 := by omega
  rfl
theorem pathNil_spec : PSpec Tryz.prog 83 [nilA, vi 60000] (· = .tup [.agg [nilA, vi 0, vi 0], vi 1]) := by
  refine PSpec.run (tysOk) followsB Tryz.func83 (by decide) rfl Tryz.ntmps83 (Nat.le_of_ble_eq_true rfl) rfl fun w0 R0 hGw => ?_
  conv => whnf
  exact ⟨_, .refl _, rfl, rfl⟩
theorem storeNew_spec (n : Nat) (h : 1 ≤ n ∧ n ≤ 16) : PSpec Tryz.prog 38 [vi n] (· = .tup [.agg [nilA, vi 0, .d (.sl 1 n fun _ => [.i .u16 0])], vi 0]) := by
  refine PSpec.run (tysOk) followsB Tryz.func38 (by decide) rfl Tryz.ntmps38 (Nat.le_of_ble_eq_true rfl) rfl fun w0 R0 hGw => ?_
  conv => whnf
  rw [show decide ((n : Int) < 1) = false from decide_eq_false (by omega)]
  conv => whnf
  rw [show decide ((16 : Int) < n) = false from decide_eq_false (by omega)]
  conv => whnf
  refine ⟨by simp only [ty37]; omega, ?_⟩
  rw [Int.toNat_natCast]
  conv => whnf
  refine ⟨by first | omega | (simp only [Int.toNat_natCast]; omega) | (simp; done) | (simp; omega), ?_⟩
  conv => whnf
  exact ⟨_, .refl _, rfl, rfl⟩
theorem sentNew_spec (n : Int) : PSpec Tryz.prog 40 [v32 n] (· = .agg [v32 (IntKind.u32.wrap (n - 1)), nilA]) := by
  refine PSpec.run (tysOk) followsB Tryz.func40 (by decide) rfl Tryz.ntmps40 (Nat.le_of_ble_eq_true rfl) rfl fun w0 R0 hGw => ?_
  conv => whnf
  exact ⟨_, .refl _, rfl, rfl⟩
theorem gotNew_spec (n : Int) : PSpec Tryz.prog 85 [v32 n] (· = .agg [v32 (IntKind.u32.wrap (n - 1)), nilA, nilA]) := by
  refine PSpec.run (tysOk) followsB Tryz.func85 (by decide) rfl Tryz.ntmps85 (Nat.le_of_ble_eq_true rfl) rfl fun w0 R0 hGw => ?_
  conv => whnf
  exact ⟨_, .refl _, rfl, rfl⟩
theorem orderNew_spec (n : Nat) (h : 1 ≤ n ∧ n ≤ 16) : PSpec Tryz.prog 86 [vi n] (· = .tup [.agg [.d (.sl 1 n fun _ => [.i .u16 0]), nilA], vi 0]) := by
  refine PSpec.run (tysOk) followsB Tryz.func86 (by decide) rfl Tryz.ntmps86 (Nat.le_of_ble_eq_true rfl) rfl fun w0 R0 hGw => ?_
  conv => whnf
  rw [show decide ((n : Int) < 1) = false from decide_eq_false (by omega)]
  conv => whnf
  rw [show decide ((16 : Int) < n) = false from decide_eq_false (by omega)]
  conv => whnf
  refine ⟨by simp only [ty37]; omega, ?_⟩
  rw [Int.toNat_natCast]
  conv => whnf
  refine ⟨by first | omega | (simp only [Int.toNat_natCast]; omega) | (simp; done) | (simp; omega), ?_⟩
  conv => whnf
  exact ⟨_, .refl _, rfl, rfl⟩
theorem there_spec (i : Int) : PSpec Tryz.prog 66 [.agg pathsL, vi i] (· = vb (decide (0 ≤ i) && decide (i < 1))) := by
  refine PSpec.run (tysOk) followsB Tryz.func66 (by decide) rfl Tryz.ntmps66 (Nat.le_of_ble_eq_true rfl) rfl fun w0 R0 hGw => ?_
  conv => whnf
  split <;> rename_i g
  · conv => whnf
    exact ⟨_, .refl _, congrArg vb (by rw [g]; rfl), rfl⟩
  · conv => whnf
    exact ⟨_, .refl _, congrArg vb (by rw [g]; rfl), rfl⟩
theorem choose1_spec : PSpec Tryz.prog 65 [vi 0, .eptr 3 1 (fun _ => [.sl 14 1 fun _ => pathL, .i .i64 0, .i .i64 0]) 0 0] (· = vb true) := by
  refine PSpec.run (tysOk) followsB Tryz.func65 (by decide) rfl Tryz.ntmps65 (Nat.le_of_ble_eq_true rfl) rfl fun w0 R0 hGw => ?_
  conv => whnf
  refine ⟨_, (there_spec 0), ?_⟩
  rintro q rfl
  conv => whnf
  refine ⟨by first | omega | decide +kernel, ?_⟩
  conv => whnf
  exact ⟨_, .refl _, rfl, rfl⟩
theorem choose_spec : PSpec Tryz.prog 26 [.agg pathsL, vi (-1)] (· = vi 0) := by
  refine PSpec.run (tysOk) followsB Tryz.func26 (by decide) rfl Tryz.ntmps26 (Nat.le_of_ble_eq_true rfl) rfl fun w0 R0 hGw => ?_
  conv => whnf
  refine ALoop.rounds (tysOk) followsB 2 ?_
  conv => whnf
  refine ⟨⟨⟨rfl, by omega, by simp only [ty3]; omega⟩, by omega⟩, ?_⟩
  conv => whnf
  refine ⟨by first | omega | decide +kernel, ?_⟩
  conv => whnf
  refine ALoop.rounds (tysOk) followsB 3 ?_
  conv => whnf
  refine ⟨by first | omega | decide +kernel, ?_⟩
  conv => whnf
  refine ⟨by first | omega | decide +kernel, ?_⟩
  conv => whnf
  refine ⟨_, choose1_spec, ?_⟩
  rintro q rfl
  conv => whnf
  exact ⟨_, .refl _, rfl, rfl⟩
structure RightS (s : S) : Prop where
  p : s.peer.length = 4 ∨ s.peer.length = 16
  m : 0 ≤ s.made ∧ s.made ≤ 1099511627776 ∧ 0 ≤ s.life ∧ s.life ≤ 1099511627776
  n : s.ourTag ≠ 0 ∧ s.peerTag ≠ 0 ∧ s.outs ≠ 0 ∧ s.ins ≠ 0 ∧ s.ourPort ≠ 0 ∧ s.peerPort ≠ 0
theorem RightS.iff (s : S) : RightS s ↔ (s.peer.length = 4 ∨ s.peer.length = 16) ∧ (0 ≤ s.made ∧ s.made ≤ 1099511627776 ∧ 0 ≤ s.life ∧ s.life ≤ 1099511627776) ∧ s.ourTag ≠ 0 ∧ s.peerTag ≠ 0 ∧ s.outs ≠ 0 ∧ s.ins ≠ 0 ∧ s.ourPort ≠ 0 ∧ s.peerPort ≠ 0 :=
  ⟨fun ⟨a, b, c⟩ => ⟨a, b, c⟩, fun ⟨a, b, c⟩ => ⟨a, b, c⟩⟩
theorem wrap32 {n : Int} (h : 0 ≤ n ∧ n < 65536) : IntKind.u32.wrap n = n := by
  simp [IntKind.wrap, IntKind.signed, IntKind.bits]
  omega
def rightB (s : S) : Bool := decide ((s.peer.length = 4 ∨ s.peer.length = 16) ∧ (0 ≤ s.made ∧ s.made ≤ 1099511627776 ∧ 0 ≤ s.life ∧ s.life ≤ 1099511627776) ∧ s.ourTag ≠ 0 ∧ s.peerTag ≠ 0 ∧ s.outs ≠ 0 ∧ s.ins ≠ 0 ∧ s.ourPort ≠ 0 ∧ s.peerPort ≠ 0)
theorem cright_spec (s : S) (h1 : 0 ≤ s.outs ∧ s.outs < 65536) (h2 : 0 ≤ s.ins ∧ s.ins < 65536) (h3 : 0 ≤ s.ourPort ∧ s.ourPort < 65536) (h4 : 0 ≤ s.peerPort ∧ s.peerPort < 65536) :
    PSpec Tryz.prog 41 [sA s] (· = vb (rightB s)) := by
  have e1 := wrap32 h1
  have e2 := wrap32 h2
  have e3 := wrap32 h3
  have e4 := wrap32 h4
  have fin : ∀ b : Bool, (b = true ↔ RightS s) → b = rightB s := fun b hb => by
    rw [RightS.iff] at hb
    unfold rightB
    cases b with
    | true => exact (decide_eq_true (hb.1 rfl)).symm
    | false => exact (decide_eq_false (fun h => absurd (hb.2 h) (by decide))).symm
  refine PSpec.run (tysOk) followsB Tryz.func41 (by decide) rfl Tryz.ntmps41 (Nat.le_of_ble_eq_true rfl) rfl fun w0 R0 hGw => ?_
  conv => whnf
  repeat' first
    | exact ⟨_, .refl _, congrArg vb (fin _ (by rw [RightS.iff]; simp only [beq_iff_eq, beq_eq_false_iff_ne, decide_eq_true_eq, decide_eq_false_iff_not, ne_eq, Bool.false_eq_true, false_iff, true_iff, e1, e2, e3, e4] at *; omega)), rfl⟩
    | (refine ALoop.rounds tysOk followsB 7 ?_; conv => whnf)
    | (refine ⟨by first | omega | decide, ?_⟩; conv => whnf)
    | (split <;> conv => whnf)
end Go.Proofs.YtbghocipmlobnaaGreat
