/- Chapter 7: what the statements are made of: contracts. -/
import Derived.Test.YtbojiemjgiacbaaDoorChJ
namespace Go.Proofs.YtbojiemjgiacbaaDoor
open Go Go.RowKit Towline Towline.Tlv Towline.Chunk
set_option linter.unusedVariables false
set_option linter.unusedSimpArgs false
set_option maxRecDepth 20000
set_option maxHeartbeats 1000000
theorem size_spec (c : Ch) (h : ChOk c) : PSpec Tryd.prog 17 [cA c] (· = tvi (buildC c).1.length) := by
  refine PSpec.run (tysOk) followsB Tryd.func17 (by decide) rfl Tryd.ntmps17 (Nat.le_of_ble_eq_true rfl) rfl fun w0 R0 => ?_
  conv => whnf
  refine ⟨_, build_spec7 c h, ?_⟩
  rintro q rfl
  conv => whnf
  exact ⟨_, .refl _, rfl, rfl⟩
theorem as7_spec (c : Ch) (hi : c.items.length ≤ 2 ^ 40) : PSpec Tryd.prog 15 [cA c] (· = cA c) := by
  refine PSpec.run (tysOk) followsB Tryd.func15 (by decide) rfl Tryd.ntmps15 (Nat.le_of_ble_eq_true rfl) rfl fun w0 R0 => ?_
  conv => whnf
  refine ALoop.adoptCell 3 12 1000 2 66 (fun k => encI (c.items.getD k default)) rfl rfl rfl rfl rfl ?_
  refine ALoop.introR tysOk followsB (fun k : {k // k ≤ c.items.length} => ([(1, .ptr 1 0), (2, .ptr 2 0), (3, .ptr 3 0), (4, tvi k.1)], [(1, .box (cL c) none), (2, .box [tvi 0, tvi 0, cv32 0, cv32 0, cv32 0, cv32 0, cv16 0, cv16 0, cv16 0, cv16 0, nilD, nilD, nilD, tvs []] none), (3, .box [tvi c.ty, tvi c.flags, cv32 c.tsn, cv32 c.tag, cv32 c.window, cv32 c.ppid, cv16 c.stream, cv16 c.ssn, cv16 c.outs, cv16 c.ins, .d (slT 2 encG c.gaps), .d (slT 1 enc32 c.dups), .rsl 1000 2 0 k.1, tvs c.text] none), (1000, .row 66 2 k.1 (fun k => encI (c.items.getD k default)))])) (fun k => c.items.length - k.1) ⟨0, by omega⟩ ?_ ?_
  · exact ⟨.refl _, .refl _, .refl _, .refl _, OLe.refl _, OLe.refl _, OLe.refl _, OLe.refl _, trivial⟩
  · rintro ⟨k, hk1⟩
    dsimp only
    conv => whnf
    split <;> rename_i h1
    · have hlt : k < c.items.length := by simpa using h1
      conv => whnf
      refine ⟨by first | omega | (simp only [Int.toNat_natCast]; omega) | (simp; done) | (simp; omega), ?_⟩
      conv => whnf
      refine ⟨by first | omega | (simp only [Int.toNat_natCast]; omega) | (simp; done) | (simp; omega), ?_⟩
      conv => whnf
      refine ⟨⟨⟨rfl, by omega, by simp only [ty66]; omega⟩, by omega⟩, ?_⟩
      conv => whnf
      conv => whnf
      refine ⟨by kernel_rfl, ?_⟩
      conv => whnf
      refine ⟨by first | omega | (simp only [Int.toNat_natCast]; omega) | (simp; done) | (simp; omega), ?_⟩
      conv => whnf
      refine ⟨⟨k + 1, by omega⟩, [(55, 1000)], by dsimp only; omega, .refl _, .refl _, .refl _, .refl _, OLe.refl _, OLe.refl _, OLe.refl _, ⟨rfl, rfl, rfl, ?_⟩, trivial⟩
      intro j hj
      simp only [fcat]
      split
      · rfl
      · have : j = k := by omega
        subst this; simp [encI]
    · have hlt : ¬ k < c.items.length := by simpa using h1
      obtain rfl : k = c.items.length := by omega
      conv => whnf
      refine ⟨by first | omega | (simp only [Int.toNat_natCast]; omega) | (simp; done) | (simp; omega), ?_⟩
      conv => whnf
      exact ⟨_, .refl _, rfl, rfl⟩
theorem sameR_spec (c : Ch) (hg : c.gaps.length ≤ 2 ^ 40) (hd : c.dups.length ≤ 2 ^ 40) (hi : c.items.length ≤ 2 ^ 40) : PSpec Tryd.prog 22 [cA c, cA c] (· = tvb true) := by
  refine PSpec.run (tysOk) followsB Tryd.func22 (by decide) rfl Tryd.ntmps22 (Nat.le_of_ble_eq_true rfl) rfl fun w0 R0 => ?_
  conv => whnf
  rw [bne_self_eq_false]
  conv => whnf
  rw [bne_self_eq_false]
  conv => whnf
  rw [bne_self_eq_false]
  conv => whnf
  rw [bne_self_eq_false]
  conv => whnf
  rw [bne_self_eq_false]
  conv => whnf
  rw [bne_self_eq_false]
  conv => whnf
  rw [bne_self_eq_false]
  conv => whnf
  rw [bne_self_eq_false]
  conv => whnf
  rw [bne_self_eq_false]
  conv => whnf
  rw [bne_self_eq_false]
  conv => whnf
  rw [bne_self_eq_false]
  conv => whnf
  rw [bne_self_eq_false]
  conv => whnf
  rw [bne_self_eq_false]
  conv => whnf
  rw [bne_self_eq_false]
  conv => whnf
  refine ALoop.introR tysOk followsB (fun k : {k // k ≤ c.gaps.length} => ([(2, .ptr 2 0), (3, .ptr 3 0), (5, tvi k.1)], [(2, .box (cL c) none), (3, .box (cL c) none)])) (fun k => c.gaps.length - k.1) ⟨0, by omega⟩ ⟨.refl _, .refl _, .refl _, OLe.refl _, OLe.refl _, trivial⟩ ?_
  rintro ⟨k, hk⟩
  dsimp only
  conv => whnf
  split <;> rename_i h1
  · have hlt : k < c.gaps.length := by simpa using h1
    conv => whnf
    refine ⟨by first | omega | (simp only [Int.toNat_natCast]; omega) | (simp; done) | (simp; omega), ?_⟩
    conv => whnf
    refine ⟨by first | omega | (simp only [Int.toNat_natCast]; omega) | (simp; done) | (simp; omega), ?_⟩
    conv => whnf
    refine ⟨by kernel_rfl, ?_⟩
    conv => whnf
    rw [beq_self_eq_true, beq_self_eq_true]
    conv => whnf
    refine ⟨by first | omega | (simp only [Int.toNat_natCast]; omega) | (simp; done) | (simp; omega), ?_⟩
    conv => whnf
    refine ⟨⟨k + 1, by omega⟩, [], by dsimp only; omega, .refl _, .refl _, .refl _, OLe.refl _, OLe.refl _, trivial⟩
  have hlt : ¬ k < c.gaps.length := by simpa using h1
  conv => whnf
  refine ALoop.introR tysOk followsB (fun k : {k // k ≤ c.dups.length} => ([(2, .ptr 2 0), (3, .ptr 3 0), (6, tvi k.1)], [(2, .box (cL c) none), (3, .box (cL c) none)])) (fun k => c.dups.length - k.1) ⟨0, by omega⟩ ⟨.refl _, .refl _, .refl _, OLe.refl _, OLe.refl _, trivial⟩ ?_
  rintro ⟨k, hk⟩
  dsimp only
  conv => whnf
  split <;> rename_i h1
  · have hlt : k < c.dups.length := by simpa using h1
    conv => whnf
    refine ⟨by first | omega | (simp only [Int.toNat_natCast]; omega) | (simp; done) | (simp; omega), ?_⟩
    conv => whnf
    refine ⟨by first | omega | (simp only [Int.toNat_natCast]; omega) | (simp; done) | (simp; omega), ?_⟩
    conv => whnf
    refine ⟨by kernel_rfl, ?_⟩
    conv => whnf
    rw [bne_self_eq_false]
    conv => whnf
    refine ⟨by first | omega | (simp only [Int.toNat_natCast]; omega) | (simp; done) | (simp; omega), ?_⟩
    conv => whnf
    refine ⟨⟨k + 1, by omega⟩, [], by dsimp only; omega, .refl _, .refl _, .refl _, OLe.refl _, OLe.refl _, trivial⟩
  have hlt : ¬ k < c.dups.length := by simpa using h1
  conv => whnf
  refine ALoop.introR tysOk followsB (fun k : {k // k ≤ c.items.length} => ([(2, .ptr 2 0), (3, .ptr 3 0), (7, tvi k.1)], [(2, .box (cL c) none), (3, .box (cL c) none)])) (fun k => c.items.length - k.1) ⟨0, by omega⟩ ⟨.refl _, .refl _, .refl _, OLe.refl _, OLe.refl _, trivial⟩ ?_
  rintro ⟨k, hk⟩
  dsimp only
  conv => whnf
  split <;> rename_i h1
  · have hlt : k < c.items.length := by simpa using h1
    conv => whnf
    refine ⟨by first | omega | (simp only [Int.toNat_natCast]; omega) | (simp; done) | (simp; omega), ?_⟩
    conv => whnf
    refine ⟨by first | omega | (simp only [Int.toNat_natCast]; omega) | (simp; done) | (simp; omega), ?_⟩
    conv => whnf
    refine ⟨by kernel_rfl, ?_⟩
    conv => whnf
    rw [beq_self_eq_true, beq_self_eq_true]
    conv => whnf
    refine ⟨by first | omega | (simp only [Int.toNat_natCast]; omega) | (simp; done) | (simp; omega), ?_⟩
    conv => whnf
    refine ⟨⟨k + 1, by omega⟩, [], by dsimp only; omega, .refl _, .refl _, .refl _, OLe.refl _, OLe.refl _, trivial⟩
  have hlt : ¬ k < c.items.length := by simpa using h1
  conv => whnf
  exact ⟨_, .refl _, rfl, rfl⟩
theorem sameL_spec (c : Ch) (h : ChOk c) : PSpec Tryd.prog 10 [cA c, cA c] (· = tvb true) := by
  have hi := h.items
  refine PSpec.run (tysOk) followsB Tryd.func10 (by decide) rfl Tryd.ntmps10 (Nat.le_of_ble_eq_true rfl) rfl fun w0 R0 => ?_
  conv => whnf
  refine ⟨_, as7_spec c (by omega), ?_⟩
  conv => whnf
  refine ⟨_, as7_spec c (by omega), ?_⟩
  conv => whnf
  refine ⟨_, sameR_spec c h.gaps h.dups (by omega), ?_⟩
  conv => whnf
  refine ⟨by kernel_rfl, ?_⟩
  conv => whnf
  exact ⟨_, .refl _, rfl, rfl⟩
theorem small7_spec (c : Ch) : PSpec Tryd.prog 13 [cA c] (fun r => ∃ b, r = tvb b ∧ (b = true → c.items.length ≤ 30 ∧ c.gaps.length ≤ 200 ∧ c.dups.length ≤ 200)) := by
  refine PSpec.run (tysOk) followsB Tryd.func13 (by decide) rfl Tryd.ntmps13 (Nat.le_of_ble_eq_true rfl) rfl fun w0 R0 => ?_
  conv => whnf
  split <;> rename_i h1
  · conv => whnf
    exact ⟨_, .refl _, ⟨false, rfl, fun h => by cases h⟩, rfl⟩
  replace h1 := of_decide_eq_false h1
  try simp only [Int.toNat_natCast] at h1
  conv => whnf
  split <;> rename_i h2
  · conv => whnf
    exact ⟨_, .refl _, ⟨false, rfl, fun h => by cases h⟩, rfl⟩
  replace h2 := of_decide_eq_false h2
  try simp only [Int.toNat_natCast] at h2
  conv => whnf
  split <;> rename_i h3
  · conv => whnf
    exact ⟨_, .refl _, ⟨false, rfl, fun h => by cases h⟩, rfl⟩
  replace h3 := of_decide_eq_false h3
  try simp only [Int.toNat_natCast] at h3
  conv => whnf
  split <;> rename_i h4
  · conv => whnf
    exact ⟨_, .refl _, ⟨false, rfl, fun h => by cases h⟩, rfl⟩
  conv => whnf
  refine ALoop.introR tysOk followsB (fun k : {k // k ≤ c.items.length} => ([(1, .ptr 1 0), (3, tvi k.1)], [(1, .box (cL c) none)])) (fun k => c.items.length - k.1) ⟨0, by omega⟩ ⟨.refl _, .refl _, OLe.refl _, trivial⟩ ?_
  rintro ⟨k, hk⟩
  dsimp only
  conv => whnf
  split <;> rename_i h5
  · have hlt : k < c.items.length := by simpa using h5
    conv => whnf
    refine ⟨by first | omega | (simp only [Int.toNat_natCast]; omega) | (simp; done) | (simp; omega), ?_⟩
    conv => whnf
    split <;> rename_i h6
    · conv => whnf
      exact ⟨_, .refl _, ⟨false, rfl, fun h => by cases h⟩, rfl⟩
    · conv => whnf
      refine ⟨by first | omega | (simp only [Int.toNat_natCast]; omega) | (simp; done) | (simp; omega), ?_⟩
      conv => whnf
      exact ⟨⟨k + 1, by omega⟩, [], by dsimp only; omega, .refl _, .refl _, OLe.refl _, trivial⟩
  · conv => whnf
    exact ⟨_, .refl _, ⟨true, rfl, fun _ => ⟨by omega, by omega, by omega⟩⟩, rfl⟩
theorem ok0 {c : Ch} (h1 : c.gaps = []) (h2 : c.dups = []) (h3 : c.items = []) : ChOk c := by
  refine ⟨by rw [h1]; decide, by rw [h2]; decide, by rw [h3]; decide, fun j => ?_⟩
  rw [h1, show ([] : List (Int × Int)).getD j default = default from by simp]
  exact ⟨by decide, by decide, by decide, by decide⟩
theorem shown7_spec : PSpec Tryd.prog 8 [] (· = tvb true) := by
  have hb := build_spec7 ⟨7, 0, 5, 0, 0, 0, 0, 0, 0, 0, [], [], [], []⟩ (ok0 rfl rfl rfl)
  rw [show buildC ⟨7, 0, 5, 0, 0, 0, 0, 0, 0, 0, [], [], [], []⟩ = ([7, 0, 0, 8, 0, 0, 0, 5], 0) from by decide +kernel] at hb
  have h1 := parseC_spec [0, 3, 0, 17, 0, 0, 0, 1, 0, 0, 0, 0, 0, 0, 0, 0, 120] (by decide)
  rw [show parseC [0, 3, 0, 17, 0, 0, 0, 1, 0, 0, 0, 0, 0, 0, 0, 0, 120] = (⟨0, 3, 1, 0, 0, 0, 0, 0, 0, 0, [], [], [], [120]⟩, 17, 0) from by decide +kernel] at h1
  have h2 := parseC_spec [11, 0, 0, 4] (by decide)
  rw [show parseC [11, 0, 0, 4] = (⟨11, 0, 0, 0, 0, 0, 0, 0, 0, 0, [], [], [], []⟩, 4, 0) from by decide +kernel] at h2
  have hs := sameL_spec ⟨0, 3, 1, 0, 0, 0, 0, 0, 0, 0, [], [], [], [120]⟩ (ok0 rfl rfl rfl)
  refine PSpec.run (tysOk) followsB Tryd.func8 (by decide) rfl Tryd.ntmps8 (Nat.le_of_ble_eq_true rfl) rfl fun w0 R0 => ?_
  conv => whnf
  refine ⟨_, hb.argsC ⟨.agg ⟨.refl _, .refl _, .refl _, .refl _, .refl _, .refl _, .refl _, .refl _, .refl _, .refl _, .nil, .nil, .nil, .refl _, trivial⟩, trivial⟩, ?_⟩
  rintro q rfl
  conv => whnf
  refine ⟨_, h1, ?_⟩
  rintro q rfl
  conv => whnf
  refine ⟨_, h2, ?_⟩
  rintro q rfl
  conv => whnf
  refine ⟨_, hs.argsC ⟨.refl _, .agg ⟨.refl _, .refl _, .refl _, .refl _, .refl _, .refl _, .refl _, .refl _, .refl _, .refl _, .nil, .nil, .nil, .refl _, trivial⟩, trivial⟩, ?_⟩
  rintro q rfl
  conv => whnf
  exact ⟨_, .refl _, rfl, rfl⟩
end Go.Proofs.YtbojiemjgiacbaaDoor
