/- Chapter 8: what the statements are made of: contracts. -/
import Derived.Test.YtcdondbegnbdgaaDoorPkE
namespace Go.Proofs.YtcdondbegnbdgaaDoor
open Go Go.RowKit Towline Towline.Tlv Towline.Chunk Towline.Packet Towline.Crc
set_option linter.unusedVariables false
set_option linter.unusedSimpArgs false
set_option maxRecDepth 20000
set_option maxHeartbeats 1000000
def lightC (c : Ch) : Prop := c.items.length ≤ 30 ∧ c.gaps.length ≤ 200 ∧ c.dups.length ≤ 200
theorem small8_spec (l : List Ch) : PSpec Tryd.prog 7 [.d (slT 14 encCh l)] (fun r => ∃ b, r = tvb b ∧ (b = true → l.length ≤ 60 ∧ ∀ c ∈ l, lightC c)) := by
  refine PSpec.run (tysOk) followsB Tryd.func7 (by decide) rfl Tryd.ntmps7 (Nat.le_of_ble_eq_true rfl) rfl fun w0 R0 => ?_
  conv => whnf
  split <;> rename_i h1
  · conv => whnf
    exact ⟨_, .refl _, ⟨false, rfl, fun h => by cases h⟩, rfl⟩
  replace h1 := of_decide_eq_false h1
  try simp only [Int.toNat_natCast] at h1
  conv => whnf
  refine ALoop.introR tysOk followsB (fun k : {k // k ≤ l.length ∧ ∀ j, j < k → lightC (l.getD j default)} => ([(0, .d (slT 14 encCh l)), (3, tvi k.1)], [])) (fun k => l.length - k.1) ⟨0, by omega, fun j hj => by omega⟩ ⟨.refl _, .refl _, trivial⟩ ?_
  rintro ⟨k, hk, hj⟩
  dsimp only
  conv => whnf
  split <;> rename_i h5
  · have hlt : k < l.length := by simpa using h5
    conv => whnf
    refine ⟨by first | omega | (simp only [Int.toNat_natCast]; omega) | (simp; done) | (simp; omega), ?_⟩
    conv => whnf
    refine ⟨_, light_spec (l.getD (Int.toNat k) default), ?_⟩
    rintro q ⟨b, rfl, hb⟩
    cases b
    · conv => whnf
      exact ⟨_, .refl _, ⟨false, rfl, fun h => by cases h⟩, rfl⟩
    · conv => whnf
      refine ⟨by first | omega | (simp only [Int.toNat_natCast]; omega) | (simp; done) | (simp; omega), ?_⟩
      conv => whnf
      exact ⟨⟨k + 1, by omega, fun j hj' => (Nat.lt_or_eq_of_le (Nat.le_of_lt_succ hj')).elim (hj j) (fun e => e ▸ hb rfl)⟩, [], by dsimp only; omega, .refl _, .refl _, trivial⟩
  · have hlt : ¬ k < l.length := by simpa using h5
    conv => whnf
    refine ⟨_, .refl _, ⟨true, rfl, fun _ => ⟨by omega, fun c hc => ?_⟩⟩, rfl⟩
    obtain ⟨i, hi, rfl⟩ := List.getElem_of_mem hc
    have := hj i (by omega)
    rwa [List.getD_eq_getElem?_getD, List.getElem?_eq_getElem hi] at this
theorem all8_spec (l : List Ch) (hl : l.length ≤ 2 ^ 30) (hi : ∀ c ∈ l, c.items.length ≤ 2 ^ 40) : PSpec Tryd.prog 31 [.d (slT 14 encCh l)] (· = .d (slT 14 encCh l)) := by
  refine PSpec.run (tysOk) followsB Tryd.func31 (by decide) rfl Tryd.ntmps31 (Nat.le_of_ble_eq_true rfl) rfl fun w0 R0 => ?_
  conv => whnf
  refine ALoop.adopt 3 1000 14 77 (fun _ => []) rfl rfl rfl ?_
  refine ALoop.introR tysOk followsB (fun k : {k // k ≤ l.length} => ([(0, .d (slT 14 encCh l)), (4, tvi k.1), (3, .rsl 1000 14 0 k.1)], [(1000, .row 77 14 k.1 (fun j => encCh (l.getD j default)))])) (fun k => l.length - k.1) ⟨0, by omega⟩ ?_ ?_
  · exact ⟨.refl _, .refl _, .refl _, ⟨rfl, rfl, rfl, fun _ hj => by simp at hj⟩, trivial⟩
  rintro ⟨k, hk⟩
  dsimp only
  conv => whnf
  split <;> rename_i h5
  · have hlt : k < l.length := by simpa using h5
    conv => whnf
    refine ⟨by first | omega | (simp only [Int.toNat_natCast]; omega) | (simp; done) | (simp; omega), ?_⟩
    conv => whnf
    refine ⟨_, as8_spec (l.getD (Int.toNat k) default) (mem_getD (p := fun c => c.items.length ≤ 2 ^ 40) hi hlt), ?_⟩
    rintro q rfl
    conv => whnf
    refine ⟨⟨⟨rfl, by omega, by simp only [ty77]; omega⟩, by omega⟩, ?_⟩
    conv => whnf
    conv => whnf
    refine ⟨by first | omega | (simp only [Int.toNat_natCast]; omega) | (simp; done) | (simp; omega), ?_⟩
    conv => whnf
    refine ⟨⟨k + 1, by omega⟩, [(18, 1000)], by dsimp only; omega, .refl _, .refl _, .refl _, ⟨rfl, rfl, rfl, fun j hj => ?_⟩, trivial⟩
    simp only [fcat]
    split
    · rfl
    · have : j = k := by
        have hj : j < k + 1 := hj
        omega
      subst this; rw [Nat.sub_self]; rfl
  · have hlt : ¬ k < l.length := by simpa using h5
    obtain rfl : k = l.length := by omega
    conv => whnf
    refine ⟨by first | omega | (simp only [Int.toNat_natCast]; omega) | (simp; done) | (simp; omega), ?_⟩
    conv => whnf
    exact ⟨_, .refl _, rfl, rfl⟩
theorem ref8_spec (p : Pk) (hl : p.chunks.length ≤ 2 ^ 30) (hi : ∀ c ∈ p.chunks, c.items.length ≤ 2 ^ 40) : PSpec Tryd.prog 14 [pA p] (· = pA p) := by
  refine PSpec.run (tysOk) followsB Tryd.func14 (by decide) rfl Tryd.ntmps14 (Nat.le_of_ble_eq_true rfl) rfl fun w0 R0 => ?_
  conv => whnf
  refine ⟨_, all8_spec p.chunks hl hi, ?_⟩
  conv => whnf
  refine ⟨by kernel_rfl, ?_⟩
  conv => whnf
  exact ⟨_, .refl _, rfl, rfl⟩
theorem same8_spec (p : Pk) (hl : p.chunks.length ≤ 2 ^ 30) (hk : ∀ c ∈ p.chunks, ChOk c) : PSpec Tryd.prog 13 [pA p, pA p] (· = tvb true) := by
  refine PSpec.run (tysOk) followsB Tryd.func13 (by decide) rfl Tryd.ntmps13 (Nat.le_of_ble_eq_true rfl) rfl fun w0 R0 => ?_
  conv => whnf
  rw [bne_self_eq_false]
  conv => whnf
  rw [bne_self_eq_false]
  conv => whnf
  rw [bne_self_eq_false]
  conv => whnf
  rw [bne_self_eq_false]
  conv => whnf
  refine ALoop.introR tysOk followsB (fun k : {k // k ≤ p.chunks.length} => ([(2, .ptr 2 0), (3, .ptr 3 0), (5, tvi k.1)], [(2, .box (pL p) none), (3, .box (pL p) none)])) (fun k => p.chunks.length - k.1) ⟨0, by omega⟩ ⟨.refl _, .refl _, .refl _, OLe.refl _, OLe.refl _, trivial⟩ ?_
  rintro ⟨k, hk'⟩
  dsimp only
  conv => whnf
  split <;> rename_i h5
  · have hlt : k < p.chunks.length := by simpa using h5
    have hok := mem_getD hk hlt
    have hS := rsame_spec (p.chunks.getD k default) (p.chunks.getD k default) hok.gaps hok.dups (Nat.le_trans hok.items (by decide))
    rw [decide_eq_true rfl] at hS
    conv => whnf
    refine ⟨by first | omega | (simp only [Int.toNat_natCast]; omega) | (simp; done) | (simp; omega), ?_⟩
    conv => whnf
    refine ⟨by first | omega | (simp only [Int.toNat_natCast]; omega) | (simp; done) | (simp; omega), ?_⟩
    conv => whnf
    refine ⟨_, hS, ?_⟩
    conv => whnf
    refine ⟨by kernel_rfl, ?_⟩
    conv => whnf
    refine ⟨by first | omega | (simp only [Int.toNat_natCast]; omega) | (simp; done) | (simp; omega), ?_⟩
    conv => whnf
    exact ⟨⟨k + 1, by omega⟩, [], by dsimp only; omega, .refl _, .refl _, .refl _, OLe.refl _, OLe.refl _, trivial⟩
  · conv => whnf
    exact ⟨_, .refl _, rfl, rfl⟩
end Go.Proofs.YtcdondbegnbdgaaDoor
