/- Chapter 5: the document's datagrams: contracts. -/
import Derived.Test.YtmknfobhmnolmaaDoorIpL
namespace Go.Proofs.YtmknfobhmnolmaaDoor
open Go Go.RowKit Towline Towline.Ip
set_option linter.unusedVariables false
set_option linter.unusedSimpArgs false
set_option maxRecDepth 20000
set_option maxHeartbeats 4000000
theorem rbuild5_spec (h : Hd) (p : List UInt8) (hp : p.length ≤ 2 ^ 30) : PSpec Tryd.prog 11 [hA h, tvs p] (· = .tup [tvs (buildH h p).1, tvi (buildH h p).2]) := by
  refine PSpec.run (tysOk) followsB Tryd.func11 (by decide) rfl Tryd.ntmps11 (Nat.le_of_ble_eq_true rfl) rfl fun w0 R0 hG => ?_
  conv => whnf
  refine ⟨_, (rright5_spec h), ?_⟩
  rintro q rfl
  conv => whnf
  by_cases hr : OkH h
  rotate_left
  · rw [show rightH h = false from decide_eq_false hr]
    conv => whnf
    rw [show buildH h p = ([], 1) from by unfold buildH rightH; rw [if_pos (decide_eq_false hr)]]
    exact ⟨_, .refl _, rfl, rfl⟩
  rw [show rightH h = true from decide_eq_true hr]
  conv => whnf
  by_cases hl : 1500 < p.length
  · rw [show decide ((1500 : Int) < (p.length : Int)) = true from decide_eq_true (by omega)]
    conv => whnf
    rw [show buildH h p = ([], 4) from by unfold buildH; rw [if_neg (by simp [rightH, hr]), if_pos hl]]
    exact ⟨_, .refl _, rfl, rfl⟩
  rw [show decide ((1500 : Int) < (p.length : Int)) = false from decide_eq_false (by omega)]
  conv => whnf
  obtain ⟨m, hm⟩ : ∃ m : Nat, h.mark = m := ⟨h.mark.toNat, (Int.toNat_of_nonneg hr.2.2.2).symm⟩
  obtain ⟨oo, ho⟩ : ∃ o : Nat, h.hops = o := ⟨h.hops.toNat, (Int.toNat_of_nonneg hr.2.1).symm⟩
  by_cases h6 : h.ver = 6
  · rw [show (h.ver == 6) = true from beq_iff_eq.2 h6]
    rw [build6 hr (by omega) h6]
    have hft : h.from_.length = 16 ∧ h.to_.length = 16 := by rcases hr.1 with h4' | h6' <;> constructor <;> omega
    conv => whnf
    refine ⟨_, (two5_spec p.length (by omega)), ?_⟩
    conv => whnf
    refine ⟨by first | omega | (simp only [Int.toNat_natCast]; omega) | (simp; done) | (simp; omega), ?_⟩
    conv => whnf
    refine ⟨_, (one5_spec 132), ?_⟩
    conv => whnf
    refine ⟨by first | omega | (simp only [Int.toNat_natCast]; omega) | (simp; done) | (simp; omega), ?_⟩
    conv => whnf
    obtain ⟨v, o, mk, fr, tt⟩ := h
    dsimp only at hm ho hft h6
    subst hm ho
    refine ⟨_, (one5_spec oo), ?_⟩
    conv => whnf
    refine ⟨by first | omega | (simp only [Int.toNat_natCast]; omega) | (simp; done) | (simp; omega), ?_⟩
    conv => whnf
    refine ⟨by first | omega | (simp only [Int.toNat_natCast]; omega) | (simp; done) | (simp; omega), ?_⟩
    conv => whnf
    refine ⟨by first | omega | (simp only [Int.toNat_natCast]; omega) | (simp; done) | (simp; omega), ?_⟩
    conv => whnf
    refine ⟨by first | omega | (simp only [Int.toNat_natCast]; omega) | (simp; done) | (simp; omega), ?_⟩
    conv => whnf
    refine ⟨by kernel_rfl, ?_⟩
    conv => whnf
    refine ⟨_, .refl _, ?_, rfl⟩
    simp [raw6]
  · rw [show (h.ver == 6) = false from beq_eq_false_iff_ne.2 h6]
    have h4 : h.ver = 4 := by rcases hr.1 with h4 | h6' <;> omega
    rw [build4 hr (by omega) h4]
    have hm2 : m ≤ 65535 := by rcases hr.1 with h4' | h6' <;> omega
    have hft : h.from_.length = 4 ∧ h.to_.length = 4 := by rcases hr.1 with h4' | h6' <;> constructor <;> omega
    conv => whnf
    rw [show (20 : Int) + (p.length : Int) = ((20 + p.length : Nat) : Int) from by omega]
    refine ⟨by first | omega | (simp only [Int.toNat_natCast]; omega) | (simp; done) | (simp; omega), ?_⟩
    conv => whnf
    refine ⟨_, (two5_spec (20 + p.length) (by omega)), ?_⟩
    conv => whnf
    refine ⟨by first | omega | (simp only [Int.toNat_natCast]; omega) | (simp; done) | (simp; omega), ?_⟩
    conv => whnf
    obtain ⟨v, o, mk, fr, tt⟩ := h
    dsimp only at hm ho hft h4
    subst hm ho
    refine ⟨_, (two5_spec m (by omega)), ?_⟩
    conv => whnf
    refine ⟨by first | omega | (simp only [Int.toNat_natCast]; omega) | (simp; done) | (simp; omega), ?_⟩
    conv => whnf
    refine ⟨by first | omega | (simp only [Int.toNat_natCast]; omega) | (simp; done) | (simp; omega), ?_⟩
    conv => whnf
    refine ⟨_, (one5_spec oo), ?_⟩
    conv => whnf
    refine ⟨by first | omega | (simp only [Int.toNat_natCast]; omega) | (simp; done) | (simp; omega), ?_⟩
    conv => whnf
    refine ⟨_, (one5_spec 132), ?_⟩
    conv => whnf
    refine ⟨by first | omega | (simp only [Int.toNat_natCast]; omega) | (simp; done) | (simp; omega), ?_⟩
    conv => whnf
    refine ⟨by kernel_rfl, ?_⟩
    conv => whnf
    refine ⟨by first | omega | (simp only [Int.toNat_natCast]; omega) | (simp; done) | (simp; omega), ?_⟩
    conv => whnf
    refine ⟨by first | omega | (simp only [Int.toNat_natCast]; omega) | (simp; done) | (simp; omega), ?_⟩
    conv => whnf
    refine ⟨by first | omega | (simp only [Int.toNat_natCast]; omega) | (simp; done) | (simp; omega), ?_⟩
    conv => whnf
    have hs : ∀ c, [69, 0] ++ b2 (20 + p.length) ++ b2 m ++ [64, 0] ++ [UInt8.ofNat oo] ++ [UInt8.ofNat 132] ++ b2 c ++ (fr ++ tt) = raw4 ⟨v, (oo : Int), (m : Int), fr, tt⟩ p.length c := fun c => by simp [raw4]
    refine ⟨_, (show PSpec Tryd.prog 15 [tvs ([69, 0] ++ b2 (20 + p.length) ++ b2 m ++ [64, 0] ++ [UInt8.ofNat oo] ++ [UInt8.ofNat 132] ++ b2 0 ++ (fr ++ tt))] (· = .d (.i .u16 (c16 (raw4 ⟨v, (oo : Int), (m : Int), fr, tt⟩ p.length 0)))) from by rw [hs]; exact rcheck5_spec _ (by have := raw4_len ⟨v, (oo : Int), (m : Int), fr, tt⟩ p.length 0 hft.1 hft.2; omega)), ?_⟩
    rintro q rfl
    have hc := c16_le (raw4 ⟨v, (oo : Int), (m : Int), fr, tt⟩ p.length 0)
    generalize c16 (raw4 ⟨v, (oo : Int), (m : Int), fr, tt⟩ p.length 0) = c at *
    conv => whnf
    refine ⟨by simp; omega, ?_⟩
    conv => whnf
    refine ⟨_, (two5_spec c (by omega)), ?_⟩
    rintro q rfl
    conv => whnf
    refine ⟨by first | omega | (simp only [Int.toNat_natCast]; omega) | (simp; done) | (simp; omega), ?_⟩
    conv => whnf
    refine ⟨by first | omega | (simp only [Int.toNat_natCast]; omega) | (simp; done) | (simp; omega), ?_⟩
    conv => whnf
    refine ⟨by first | omega | (simp only [Int.toNat_natCast]; omega) | (simp; done) | (simp; omega), ?_⟩
    conv => whnf
    refine ⟨_, .refl _, ?_, rfl⟩
    rw [← hs]
theorem builds5_spec (h : Hd) (s : List UInt8) : PSpec Tryd.prog 4 [hA h, tvs s] (· = tvb true) := by
  refine PSpec.run (tysOk) followsB Tryd.func4 (by decide) rfl Tryd.ntmps4 (Nat.le_of_ble_eq_true rfl) rfl fun w0 R0 hG => ?_
  conv => whnf
  refine ⟨_, shown5_spec, ?_⟩
  rintro q rfl
  conv => whnf
  refine ⟨_, short5_spec h s, ?_⟩
  rintro q ⟨b, rfl, hb⟩
  cases b
  · conv => whnf
    exact ⟨_, .refl _, rfl, rfl⟩
  obtain ⟨hf, ht, hs⟩ := hb rfl
  conv => whnf
  refine ⟨_, (build5_spec h s (by omega)), ?_⟩
  rintro q rfl
  conv => whnf
  refine ⟨_, (as5_spec h), ?_⟩
  rintro q rfl
  conv => whnf
  refine ⟨_, (rbuild5_spec h s (by omega)), ?_⟩
  rintro q rfl
  conv => whnf
  have hs0 : ∀ l : List UInt8, (l == l) = true := fun l => beq_self_eq_true l
  have hi0 : ∀ l : Int, (l == l) = true := fun l => beq_self_eq_true l
  have hb0 : ∀ l : Bool, (l == l) = true := fun l => beq_self_eq_true l
  rw [hs0]
  conv => whnf
  rw [hi0]
  conv => whnf
  refine ⟨_, (right5_spec h), ?_⟩
  conv => whnf
  refine ⟨_, (as5_spec h), ?_⟩
  conv => whnf
  refine ⟨_, (rright5_spec h), ?_⟩
  conv => whnf
  rw [hb0]
  conv => whnf
  refine ⟨_, (check16_spec s (by omega)), ?_⟩
  conv => whnf
  refine ⟨_, (rcheck5_spec s (by omega)), ?_⟩
  conv => whnf
  rw [hi0]
  conv => whnf
  refine ⟨by kernel_rfl, ?_⟩
  conv => whnf
  exact ⟨_, .refl _, rfl, rfl⟩
theorem ipBuilds_of {l0 l1 : List D} (h0 : wt tys 8 29 l0) (h1 : wt tys 8 9 l1) : PSpec Tryd.prog 4 [asV true l0, asV false l1] (· = tvb true) := by
  obtain ⟨h, rfl⟩ := wt_hd (n := 6) h0
  obtain ⟨x1, hx1, _⟩ := h1
  subst hx1
  exact builds5_spec h x1
end Go.Proofs.YtmknfobhmnolmaaDoor
