/- Chapter 5: the examples; the law of sums: contracts, at any arguments of their types. -/
import Derived.Test.YtmknfobhmnolmaaDoorIpD
namespace Go.Proofs.YtmknfobhmnolmaaDoor
open Go Go.RowKit Towline Towline.Ip
set_option linter.unusedVariables false
set_option linter.unusedSimpArgs false
set_option maxRecDepth 20000
set_option maxHeartbeats 4000000
theorem shown5_spec : PSpec Tryd.prog 7 [] (· = tvb true) := by
  refine PSpec.run (tysOk) followsB Tryd.func7 (by decide) rfl Tryd.ntmps7 (Nat.le_of_ble_eq_true rfl) rfl fun w0 R0 hG => ?_
  conv => whnf
  refine ⟨_, (check16_spec _ (by decide)), ?_⟩
  rintro q rfl
  conv => whnf
  refine ⟨_, text16_spec, ?_⟩
  rintro q rfl
  conv => whnf
  refine ⟨_, text4_spec, ?_⟩
  rintro q rfl
  conv => whnf
  exact ⟨_, .refl _, rfl, rfl⟩
theorem shr8u (n : Nat) : shrOp .u16 (n : Int) 8 = ((n / 256 : Nat) : Int) := by
  unfold shrOp
  simp
  rw [show ((2 : Int) ^ min 8 IntKind.u16.bits) = 256 from by decide, Int.fdiv_eq_ediv_of_nonneg _ (by decide)]
theorem wrap8 (n : Nat) : IntKind.u8.wrap (n : Int) = ((UInt8.ofNat n).toNat : Nat) := by
  rw [b8_toNat]
  simp [IntKind.wrap, IntKind.signed, IntKind.bits]
theorem tmod2 (s : List UInt8) : (s.length : Int).tmod 2 = ((s.length % 2 : Nat) : Int) := by
  rw [Int.tmod_eq_emod_of_nonneg (by omega)]
  omega
theorem sums_spec (s t : List UInt8) : PSpec Tryd.prog 3 [tvs s, tvs t] (· = tvb true) := by
  refine PSpec.run (tysOk) followsB Tryd.func3 (by decide) rfl Tryd.ntmps3 (Nat.le_of_ble_eq_true rfl) rfl fun w0 R0 hG => ?_
  conv => whnf
  refine ⟨_, shown5_spec, ?_⟩
  rintro q rfl
  conv => whnf
  by_cases hs : 1000 < s.length
  · rw [show decide ((1000 : Int) < (s.length : Int)) = true from decide_eq_true (by omega)]
    conv => whnf
    exact ⟨_, .refl _, rfl, rfl⟩
  rw [show decide ((1000 : Int) < (s.length : Int)) = false from decide_eq_false (by omega)]
  conv => whnf
  by_cases ht : 1000 < t.length
  · rw [show decide ((1000 : Int) < (t.length : Int)) = true from decide_eq_true (by omega)]
    conv => whnf
    exact ⟨_, .refl _, rfl, rfl⟩
  rw [show decide ((1000 : Int) < (t.length : Int)) = false from decide_eq_false (by omega)]
  conv => whnf
  refine ⟨by first | omega | decide +kernel, ?_⟩
  conv => whnf
  rw [tmod2 s]
  by_cases hp : s.length % 2 = 1
  · rw [hp]
    conv => whnf
    refine ⟨by first | omega | (simp only [Int.toNat_natCast]; omega) | (simp; done) | (simp; omega), ?_⟩
    conv => whnf
    have h2 : (s.drop 1).length % 2 = 0 := by rw [List.length_drop]; omega
    have h3 : (s.drop 1).length ≤ 1000 := by rw [List.length_drop]; omega
    rw [show cutS s (some 1) none = s.drop 1 from rfl]
    generalize s.drop 1 = u at *
    refine ⟨_, (check16_spec u (by omega)), ?_⟩
    rintro q rfl
    conv => whnf
    rw [shr8u]
    refine ⟨by first | omega | decide +kernel, ?_⟩
    conv => whnf
    refine ⟨b2 (c16 u), ⟨rfl, by omega, fun k hk => ?_⟩, ?_⟩
    · have hk2 : k = 0 ∨ k = 1 := by omega
      rcases hk2 with rfl | rfl
      · show [D.i .u8 (IntKind.u8.wrap ((c16 u / 256 : Nat) : Int))] = [D.i .u8 ((UInt8.ofNat (c16 u / 256)).toNat : Nat)]
        rw [wrap8]
      · show [D.i .u8 (IntKind.u8.wrap ((c16 u : Nat) : Int))] = [D.i .u8 ((UInt8.ofNat (c16 u)).toNat : Nat)]
        rw [wrap8]
    conv => whnf
    have hb2 : (b2 (c16 u)).length = 2 := rfl
    refine ⟨by first | omega | (simp only [Int.toNat_natCast]; omega) | (simp; done) | (simp; omega), ?_⟩
    conv => whnf
    have hown := check16_spec (u ++ b2 (c16 u)) (by rw [List.length_append]; omega)
    rw [c16_own u h2] at hown
    refine ⟨_, hown, ?_⟩
    rintro q rfl
    conv => whnf
    refine ⟨by first | omega | decide +kernel, ?_⟩
    conv => whnf
    rw [tmod2 t]
    by_cases hpt : t.length % 2 = 1
    · rw [hpt]
      conv => whnf
      exact ⟨_, .refl _, rfl, rfl⟩
    have hpt2 : t.length % 2 = 0 := by omega
    rw [hpt2]
    conv => whnf
    refine ⟨by first | omega | (simp only [Int.toNat_natCast]; omega) | (simp; done) | (simp; omega), ?_⟩
    conv => whnf
    refine ⟨_, (check16_spec (u ++ t) (by rw [List.length_append]; omega)), ?_⟩
    rintro q rfl
    conv => whnf
    refine ⟨by first | omega | (simp only [Int.toNat_natCast]; omega) | (simp; done) | (simp; omega), ?_⟩
    conv => whnf
    have htu := check16_spec (t ++ u) (by rw [List.length_append]; omega)
    rw [c16_comm t u hpt2 h2] at htu
    refine ⟨_, htu, ?_⟩
    rintro q rfl
    conv => whnf
    exact ⟨_, .refl _, (congrArg tvb (by simp)), rfl⟩
  · have h2 : s.length % 2 = 0 := by omega
    rw [h2]
    conv => whnf
    have h3 : s.length ≤ 1000 := by omega
    generalize s = u at *
    refine ⟨_, (check16_spec u (by omega)), ?_⟩
    rintro q rfl
    conv => whnf
    rw [shr8u]
    refine ⟨by first | omega | decide +kernel, ?_⟩
    conv => whnf
    refine ⟨b2 (c16 u), ⟨rfl, by omega, fun k hk => ?_⟩, ?_⟩
    · have hk2 : k = 0 ∨ k = 1 := by omega
      rcases hk2 with rfl | rfl
      · show [D.i .u8 (IntKind.u8.wrap ((c16 u / 256 : Nat) : Int))] = [D.i .u8 ((UInt8.ofNat (c16 u / 256)).toNat : Nat)]
        rw [wrap8]
      · show [D.i .u8 (IntKind.u8.wrap ((c16 u : Nat) : Int))] = [D.i .u8 ((UInt8.ofNat (c16 u)).toNat : Nat)]
        rw [wrap8]
    conv => whnf
    have hb2 : (b2 (c16 u)).length = 2 := rfl
    refine ⟨by first | omega | (simp only [Int.toNat_natCast]; omega) | (simp; done) | (simp; omega), ?_⟩
    conv => whnf
    have hown := check16_spec (u ++ b2 (c16 u)) (by rw [List.length_append]; omega)
    rw [c16_own u h2] at hown
    refine ⟨_, hown, ?_⟩
    rintro q rfl
    conv => whnf
    refine ⟨by first | omega | decide +kernel, ?_⟩
    conv => whnf
    rw [tmod2 t]
    by_cases hpt : t.length % 2 = 1
    · rw [hpt]
      conv => whnf
      exact ⟨_, .refl _, rfl, rfl⟩
    have hpt2 : t.length % 2 = 0 := by omega
    rw [hpt2]
    conv => whnf
    refine ⟨by first | omega | (simp only [Int.toNat_natCast]; omega) | (simp; done) | (simp; omega), ?_⟩
    conv => whnf
    refine ⟨_, (check16_spec (u ++ t) (by rw [List.length_append]; omega)), ?_⟩
    rintro q rfl
    conv => whnf
    refine ⟨by first | omega | (simp only [Int.toNat_natCast]; omega) | (simp; done) | (simp; omega), ?_⟩
    conv => whnf
    have htu := check16_spec (t ++ u) (by rw [List.length_append]; omega)
    rw [c16_comm t u hpt2 h2] at htu
    refine ⟨_, htu, ?_⟩
    rintro q rfl
    conv => whnf
    exact ⟨_, .refl _, (congrArg tvb (by simp)), rfl⟩
theorem ipSums_of {l0 l1 : List D} (h0 : wt tys 8 9 l0) (h1 : wt tys 8 9 l1) : PSpec Tryd.prog 3 [asV false l0, asV false l1] (· = tvb true) := by
  obtain ⟨x0, hx0, _⟩ := h0
  obtain ⟨x1, hx1, _⟩ := h1
  subst hx0 hx1
  exact sums_spec x0 x1
end Go.Proofs.YtmknfobhmnolmaaDoor
