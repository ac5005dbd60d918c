/- Chapter 5: texts of addresses, the examples: contracts. -/
import Derived.Test.YtmknfobhmnolmaaDoorIpC
import Derived.Test.YtmknfobhmnolmaaDoorShelf
namespace Go.Proofs.YtmknfobhmnolmaaDoor
open Go Go.RowKit Towline Towline.Ip
set_option linter.unusedVariables false
set_option linter.unusedSimpArgs false
set_option maxRecDepth 20000
set_option maxHeartbeats 4000000
def encS (x : List UInt8) : List D := [.s x]
theorem join_spec (l : List (List UInt8)) (sep : List UInt8) (h0 : 0 < l.length) (hl : (Lib.join l sep).length ≤ 100000) (hn : l.length ≤ 1000) : PSpec Tryd.prog 25 [.d (slT 1 encS l), tvs sep] (· = tvs (Lib.join l sep)) := by
  refine ⟨⟨_, _, Tryd.func25, by decide, rfl⟩, fun w R vs hG hR hz ha => ?_⟩
  have k0 := repA_sl (ha 0 _ rfl)
  have k1 := repA_s (ha 1 _ rfl)
  obtain ⟨v0, v1, rfl⟩ : ∃ v0 v1, vs = #[v0, v1] := by
    obtain ⟨l⟩ := vs
    match l, hz with
    | [x, y], _ => exact ⟨x, y, rfl⟩
  have k1 : v1 = .string ⟨sep.toArray⟩ := k1
  subst k1
  have k0 : RepD w R (slT 1 encS l) v0 := k0
  unfold slT at k0
  generalize hn0 : l.length = n at k0
  cases k0 with
  | sl0 => omega
  | sl _ _ _ b o c cs hn' hc hm hg hb hzz hcell hrep =>
    subst hn0
    have hx : (l.map fun x => (⟨x.toArray⟩ : ByteArray)).map (·.data.toList) = l := by
      rw [List.map_map]
      conv => rhs; rw [← List.map_id l]
      exact List.map_congr_left fun x _ => by simp
    have hj := Tryd.strings_Join b o c (l.map fun x => ⟨x.toArray⟩) ⟨sep.toArray⟩ w (fun j x hx => by
        rw [List.getElem?_map] at hx
        obtain ⟨y, hy, rfl⟩ := Option.map_eq_some_iff.1 hx
        have hjl : j < l.length := (List.getElem?_eq_some_iff.1 hy).1
        have h2 := hcell j hjl 0 (by decide)
        have h3 := hrep j hjl 0 (.s y) (by simp [encS, List.getD_eq_getElem?_getD, hy])
        have h4 : cs j 0 = .string ⟨y.toArray⟩ := repA_s (L := L0 0) (.d h3)
        rw [h4] at h2
        simpa using h2) hb (by rw [List.length_map]; omega) (by rw [List.length_map]; exact hc) (by
        rw [hx]
        show (Lib.join l sep).length ≤ _
        omega)
    rw [hx, List.length_map] at hj
    refine hj.mono ?_
    rintro e w' ⟨rfl, hbel⟩
    exact ⟨_, tvs (Lib.join l sep), rfl, rfl, hbel, rfl, .d (.s _)⟩
theorem small10_spec : PSpec Tryd.prog 36 [tvi 10] (· = tvs [49, 48]) := by
  refine PSpec.run (tysOk) followsB Tryd.func36 (by decide) rfl Tryd.ntmps36 (Nat.le_of_ble_eq_true rfl) rfl fun w0 R0 hG => ?_
  conv => whnf
  refine ⟨by first | omega | decide +kernel, ?_⟩
  conv => whnf
  refine ⟨by first | omega | decide +kernel, ?_⟩
  conv => whnf
  refine ⟨by first | omega | decide +kernel, ?_⟩
  conv => whnf
  refine ⟨by first | omega | decide +kernel, ?_⟩
  conv => whnf
  exact ⟨_, .refl _, (congrArg tvs (by decide +kernel)), rfl⟩
theorem fmtd10_spec : PSpec Tryd.prog 33 [tvi 10, tvi 10] (· = tvs [49, 48]) := by
  refine PSpec.run (tysOk) followsB Tryd.func33 (by decide) rfl Tryd.ntmps33 (Nat.le_of_ble_eq_true rfl) rfl fun w0 R0 hG => ?_
  conv => whnf
  refine ⟨_, small10_spec, ?_⟩
  rintro q rfl
  conv => whnf
  exact ⟨_, .refl _, rfl, rfl⟩
theorem itoai10_spec : PSpec Tryd.prog 29 [tvi 10] (· = tvs [49, 48]) := by
  refine PSpec.run (tysOk) followsB Tryd.func29 (by decide) rfl Tryd.ntmps29 (Nat.le_of_ble_eq_true rfl) rfl fun w0 R0 hG => ?_
  conv => whnf
  refine ⟨_, fmtd10_spec, ?_⟩
  rintro q rfl
  conv => whnf
  exact ⟨_, .refl _, rfl, rfl⟩
theorem itoa10_spec : PSpec Tryd.prog 24 [tvi 10] (· = tvs [49, 48]) := by
  refine PSpec.run (tysOk) followsB Tryd.func24 (by decide) rfl Tryd.ntmps24 (Nat.le_of_ble_eq_true rfl) rfl fun w0 R0 hG => ?_
  conv => whnf
  refine ⟨_, itoai10_spec, ?_⟩
  rintro q rfl
  conv => whnf
  exact ⟨_, .refl _, rfl, rfl⟩
theorem small0_spec : PSpec Tryd.prog 36 [tvi 0] (· = tvs [48]) := by
  refine PSpec.run (tysOk) followsB Tryd.func36 (by decide) rfl Tryd.ntmps36 (Nat.le_of_ble_eq_true rfl) rfl fun w0 R0 hG => ?_
  conv => whnf
  refine ⟨by first | omega | decide +kernel, ?_⟩
  conv => whnf
  refine ⟨by first | omega | decide +kernel, ?_⟩
  conv => whnf
  exact ⟨_, .refl _, (congrArg tvs (by decide +kernel)), rfl⟩
theorem fmtd0_spec : PSpec Tryd.prog 33 [tvi 0, tvi 10] (· = tvs [48]) := by
  refine PSpec.run (tysOk) followsB Tryd.func33 (by decide) rfl Tryd.ntmps33 (Nat.le_of_ble_eq_true rfl) rfl fun w0 R0 hG => ?_
  conv => whnf
  refine ⟨_, small0_spec, ?_⟩
  rintro q rfl
  conv => whnf
  exact ⟨_, .refl _, rfl, rfl⟩
theorem itoai0_spec : PSpec Tryd.prog 29 [tvi 0] (· = tvs [48]) := by
  refine PSpec.run (tysOk) followsB Tryd.func29 (by decide) rfl Tryd.ntmps29 (Nat.le_of_ble_eq_true rfl) rfl fun w0 R0 hG => ?_
  conv => whnf
  refine ⟨_, fmtd0_spec, ?_⟩
  rintro q rfl
  conv => whnf
  exact ⟨_, .refl _, rfl, rfl⟩
theorem itoa0_spec : PSpec Tryd.prog 24 [tvi 0] (· = tvs [48]) := by
  refine PSpec.run (tysOk) followsB Tryd.func24 (by decide) rfl Tryd.ntmps24 (Nat.le_of_ble_eq_true rfl) rfl fun w0 R0 hG => ?_
  conv => whnf
  refine ⟨_, itoai0_spec, ?_⟩
  rintro q rfl
  conv => whnf
  exact ⟨_, .refl _, rfl, rfl⟩
theorem small1_spec : PSpec Tryd.prog 36 [tvi 1] (· = tvs [49]) := by
  refine PSpec.run (tysOk) followsB Tryd.func36 (by decide) rfl Tryd.ntmps36 (Nat.le_of_ble_eq_true rfl) rfl fun w0 R0 hG => ?_
  conv => whnf
  refine ⟨by first | omega | decide +kernel, ?_⟩
  conv => whnf
  refine ⟨by first | omega | decide +kernel, ?_⟩
  conv => whnf
  exact ⟨_, .refl _, (congrArg tvs (by decide +kernel)), rfl⟩
theorem fmtd1_spec : PSpec Tryd.prog 33 [tvi 1, tvi 10] (· = tvs [49]) := by
  refine PSpec.run (tysOk) followsB Tryd.func33 (by decide) rfl Tryd.ntmps33 (Nat.le_of_ble_eq_true rfl) rfl fun w0 R0 hG => ?_
  conv => whnf
  refine ⟨_, small1_spec, ?_⟩
  rintro q rfl
  conv => whnf
  exact ⟨_, .refl _, rfl, rfl⟩
theorem itoai1_spec : PSpec Tryd.prog 29 [tvi 1] (· = tvs [49]) := by
  refine PSpec.run (tysOk) followsB Tryd.func29 (by decide) rfl Tryd.ntmps29 (Nat.le_of_ble_eq_true rfl) rfl fun w0 R0 hG => ?_
  conv => whnf
  refine ⟨_, fmtd1_spec, ?_⟩
  rintro q rfl
  conv => whnf
  exact ⟨_, .refl _, rfl, rfl⟩
theorem itoa1_spec : PSpec Tryd.prog 24 [tvi 1] (· = tvs [49]) := by
  refine PSpec.run (tysOk) followsB Tryd.func24 (by decide) rfl Tryd.ntmps24 (Nat.le_of_ble_eq_true rfl) rfl fun w0 R0 hG => ?_
  conv => whnf
  refine ⟨_, itoai1_spec, ?_⟩
  rintro q rfl
  conv => whnf
  exact ⟨_, .refl _, rfl, rfl⟩
/-- Which functions are lent objects. -/
abbrev lentR : List (Nat × List Bool) := [(23, []), (28, [])]
theorem text4_spec : PSpec Tryd.prog 17 [tvs [10, 0, 0, 1]] (· = tvs [49, 48, 46, 48, 46, 48, 46, 49]) := by
  have t0 := take_spec [10, 0, 0, 1] 0 1 (by decide) (by decide) (by decide)
  have t1 := take_spec [10, 0, 0, 1] 1 1 (by decide) (by decide) (by decide)
  have t2 := take_spec [10, 0, 0, 1] 2 1 (by decide) (by decide) (by decide)
  have t3 := take_spec [10, 0, 0, 1] 3 1 (by decide) (by decide) (by decide)
  refine PSpec.run ((tysLOk lentR)) followsB Tryd.func17 (by decide) rfl Tryd.ntmps17 (Nat.le_of_ble_eq_true rfl) rfl fun w0 R0 hG => ?_
  conv => whnf
  refine ⟨_, (reader_spec _), ?_⟩
  rintro q hq ⟨rfl, rfl⟩
  conv => whnf
  refine ALoop.roundsK (tysLOk lentR) followsB 5 [3, 4, 8, 11] [7000, 7001, 18] ?_
  conv => whnf
  refine ⟨_, t0, ?_⟩
  rintro q hq ⟨rfl, rfl⟩
  conv => whnf
  refine ⟨_, itoa10_spec, ?_⟩
  rintro q rfl
  conv => whnf
  refine ⟨⟨by decide, by decide⟩, ?_⟩
  conv => whnf
  refine ⟨by first | omega | decide +kernel, ?_⟩
  conv => whnf
  refine ⟨_, t1, ?_⟩
  rintro q hq ⟨rfl, rfl⟩
  conv => whnf
  refine ⟨_, itoa0_spec, ?_⟩
  rintro q rfl
  conv => whnf
  refine ⟨⟨by decide, by decide⟩, ?_⟩
  conv => whnf
  refine ⟨by first | omega | decide +kernel, ?_⟩
  conv => whnf
  refine ⟨_, t2, ?_⟩
  rintro q hq ⟨rfl, rfl⟩
  conv => whnf
  refine ⟨_, itoa0_spec, ?_⟩
  rintro q rfl
  conv => whnf
  refine ⟨⟨by decide, by decide⟩, ?_⟩
  conv => whnf
  refine ⟨by first | omega | decide +kernel, ?_⟩
  conv => whnf
  refine ⟨_, t3, ?_⟩
  rintro q hq ⟨rfl, rfl⟩
  conv => whnf
  refine ⟨_, itoa1_spec, ?_⟩
  rintro q rfl
  conv => whnf
  refine ⟨⟨by decide, by decide⟩, ?_⟩
  conv => whnf
  refine ⟨by first | omega | decide +kernel, ?_⟩
  conv => whnf
  refine ⟨by first | omega | decide +kernel, ?_⟩
  conv => whnf
  refine ⟨_, (join_spec [[49, 48], [48], [48], [49]] [46] (by decide) (by decide) (by decide)).argsC ⟨?_, .refl _, trivial⟩, ?_⟩
  · refine AVal.le.sl rfl fun k hk => ?_
    have h : k = 0 ∨ k = 1 ∨ k = 2 ∨ k = 3 := by omega
    rcases h with rfl | rfl | rfl | rfl <;> rfl
  rintro q rfl
  conv => whnf
  exact ⟨_, .refl _, rfl, rfl⟩
theorem text16_spec : PSpec Tryd.prog 17 [tvs [32, 1, 13, 184, 0, 0, 0, 0, 0, 0, 0, 0, 0, 0, 0, 1]] (· = tvs [50, 48, 48, 49, 58, 100, 98, 56, 58, 48, 58, 48, 58, 48, 58, 48, 58, 48, 58, 49]) := by
  have t0 := take_spec [32, 1, 13, 184, 0, 0, 0, 0, 0, 0, 0, 0, 0, 0, 0, 1] 0 2 (by decide) (by decide) (by decide)
  have t1 := take_spec [32, 1, 13, 184, 0, 0, 0, 0, 0, 0, 0, 0, 0, 0, 0, 1] 2 2 (by decide) (by decide) (by decide)
  have t2 := take_spec [32, 1, 13, 184, 0, 0, 0, 0, 0, 0, 0, 0, 0, 0, 0, 1] 4 2 (by decide) (by decide) (by decide)
  have t3 := take_spec [32, 1, 13, 184, 0, 0, 0, 0, 0, 0, 0, 0, 0, 0, 0, 1] 6 2 (by decide) (by decide) (by decide)
  have t4 := take_spec [32, 1, 13, 184, 0, 0, 0, 0, 0, 0, 0, 0, 0, 0, 0, 1] 8 2 (by decide) (by decide) (by decide)
  have t5 := take_spec [32, 1, 13, 184, 0, 0, 0, 0, 0, 0, 0, 0, 0, 0, 0, 1] 10 2 (by decide) (by decide) (by decide)
  have t6 := take_spec [32, 1, 13, 184, 0, 0, 0, 0, 0, 0, 0, 0, 0, 0, 0, 1] 12 2 (by decide) (by decide) (by decide)
  have t7 := take_spec [32, 1, 13, 184, 0, 0, 0, 0, 0, 0, 0, 0, 0, 0, 0, 1] 14 2 (by decide) (by decide) (by decide)
  refine PSpec.run ((tysLOk lentR)) followsB Tryd.func17 (by decide) rfl Tryd.ntmps17 (Nat.le_of_ble_eq_true rfl) rfl fun w0 R0 hG => ?_
  conv => whnf
  refine ⟨_, (reader_spec _), ?_⟩
  rintro q hq ⟨rfl, rfl⟩
  conv => whnf
  refine ALoop.roundsK (tysLOk lentR) followsB 9 [3, 4, 8, 24] [7000, 7001, 31] ?_
  conv => whnf
  refine ⟨_, t0, ?_⟩
  rintro q hq ⟨rfl, rfl⟩
  conv => whnf
  refine ⟨_, fmt8193_spec, ?_⟩
  rintro q rfl
  conv => whnf
  refine ⟨⟨by decide, by decide⟩, ?_⟩
  conv => whnf
  refine ⟨by first | omega | decide +kernel, ?_⟩
  conv => whnf
  refine ⟨_, t1, ?_⟩
  rintro q hq ⟨rfl, rfl⟩
  conv => whnf
  refine ⟨_, fmt3512_spec, ?_⟩
  rintro q rfl
  conv => whnf
  refine ⟨⟨by decide, by decide⟩, ?_⟩
  conv => whnf
  refine ⟨by first | omega | decide +kernel, ?_⟩
  conv => whnf
  refine ⟨_, t2, ?_⟩
  rintro q hq ⟨rfl, rfl⟩
  conv => whnf
  refine ⟨_, fmt0_spec, ?_⟩
  rintro q rfl
  conv => whnf
  refine ⟨⟨by decide, by decide⟩, ?_⟩
  conv => whnf
  refine ⟨by first | omega | decide +kernel, ?_⟩
  conv => whnf
  refine ⟨_, t3, ?_⟩
  rintro q hq ⟨rfl, rfl⟩
  conv => whnf
  refine ⟨_, fmt0_spec, ?_⟩
  rintro q rfl
  conv => whnf
  refine ⟨⟨by decide, by decide⟩, ?_⟩
  conv => whnf
  refine ⟨by first | omega | decide +kernel, ?_⟩
  conv => whnf
  refine ⟨_, t4, ?_⟩
  rintro q hq ⟨rfl, rfl⟩
  conv => whnf
  refine ⟨_, fmt0_spec, ?_⟩
  rintro q rfl
  conv => whnf
  refine ⟨⟨by decide, by decide⟩, ?_⟩
  conv => whnf
  refine ⟨by first | omega | decide +kernel, ?_⟩
  conv => whnf
  refine ⟨_, t5, ?_⟩
  rintro q hq ⟨rfl, rfl⟩
  conv => whnf
  refine ⟨_, fmt0_spec, ?_⟩
  rintro q rfl
  conv => whnf
  refine ⟨⟨by decide, by decide⟩, ?_⟩
  conv => whnf
  refine ⟨by first | omega | decide +kernel, ?_⟩
  conv => whnf
  refine ⟨_, t6, ?_⟩
  rintro q hq ⟨rfl, rfl⟩
  conv => whnf
  refine ⟨_, fmt0_spec, ?_⟩
  rintro q rfl
  conv => whnf
  refine ⟨⟨by decide, by decide⟩, ?_⟩
  conv => whnf
  refine ⟨by first | omega | decide +kernel, ?_⟩
  conv => whnf
  refine ⟨_, t7, ?_⟩
  rintro q hq ⟨rfl, rfl⟩
  conv => whnf
  refine ⟨_, fmt1_spec, ?_⟩
  rintro q rfl
  conv => whnf
  refine ⟨⟨by decide, by decide⟩, ?_⟩
  conv => whnf
  refine ⟨by first | omega | decide +kernel, ?_⟩
  conv => whnf
  refine ⟨by first | omega | decide +kernel, ?_⟩
  conv => whnf
  refine ⟨_, (join_spec [[50, 48, 48, 49], [100, 98, 56], [48], [48], [48], [48], [48], [49]] [58] (by decide) (by decide) (by decide)).argsC ⟨?_, .refl _, trivial⟩, ?_⟩
  · refine AVal.le.sl rfl fun k hk => ?_
    have h : k = 0 ∨ k = 1 ∨ k = 2 ∨ k = 3 ∨ k = 4 ∨ k = 5 ∨ k = 6 ∨ k = 7 := by omega
    rcases h with rfl | rfl | rfl | rfl | rfl | rfl | rfl | rfl <;> rfl
  rintro q rfl
  conv => whnf
  exact ⟨_, .refl _, rfl, rfl⟩
-- end of texts
end Go.Proofs.YtmknfobhmnolmaaDoor
