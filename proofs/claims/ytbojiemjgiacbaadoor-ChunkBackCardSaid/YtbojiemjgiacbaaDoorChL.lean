/- Chapter 7: the statements: contracts. -/
import Derived.Test.YtbojiemjgiacbaaDoorChK
namespace Go.Proofs.YtbojiemjgiacbaaDoor
open Go Go.RowKit Towline Towline.Tlv Towline.Chunk
set_option linter.unusedVariables false
set_option linter.unusedSimpArgs false
set_option maxRecDepth 20000
set_option maxHeartbeats 1000000
theorem nilC_ok : ChOk nilC := ok0 rfl rfl rfl
theorem ChOk.of {c : Ch} (hr : ChR c) (h : c.items.length ≤ 30 ∧ c.gaps.length ≤ 200 ∧ c.dups.length ≤ 200) : ChOk c := hr.ok (by omega) (by omega) (by omega)
theorem tmod_nat (m k : Nat) : ((m : Int).tmod (k : Int)) = ((m % k : Nat) : Int) := by
  rw [Int.tmod_eq_emod_of_nonneg (by omega)]
  omega
/-- Other flags alone. -/
theorem turn_good {c : Ch} (h : goodC c = true) (h0 : c.ty = 0) : goodC { c with flags := 7 - c.flags } = true := by
  obtain ⟨hb, hfit, ho⟩ := good_parts h
  have hf : 0 ≤ c.flags ∧ c.flags ≤ 7 ∧ textB c = true := by
    simp only [fitsB, if_pos h0, Bool.and_eq_true, decide_eq_true_eq] at hfit
    exact ⟨hfit.1.1, hfit.1.2, hfit.2⟩
  simp only [goodC, Bool.and_eq_true, beq_iff_eq, decide_eq_true_eq]
  refine ⟨⟨hb, ?_⟩, ?_⟩
  · simp only [fitsB, if_pos h0, Bool.and_eq_true, decide_eq_true_eq]
    exact ⟨⟨by omega, by omega⟩, hf.2.2⟩
  · rw [only_0 (c := { c with flags := 7 - c.flags }) h0]
    rw [only_0 h0] at ho
    have e := congrArg (fun x : Ch => ({ x with flags := 7 - c.flags } : Ch)) ho
    exact e
theorem again_spec (s : List UInt8) : PSpec Tryd.prog 3 [tvs s] (· = tvb true) := by
  refine PSpec.run (tysOk) followsB Tryd.func3 (by decide) rfl Tryd.ntmps3 (Nat.le_of_ble_eq_true rfl) rfl fun w0 R0 => ?_
  conv => whnf
  refine ⟨_, shown7_spec, ?_⟩
  rintro q rfl
  conv => whnf
  split <;> rename_i g1
  · conv => whnf
    exact ⟨_, .refl _, rfl, rfl⟩
  replace g1 := of_decide_eq_false g1
  try simp only [Int.toNat_natCast] at g1
  conv => whnf
  have hps := parseC_spec s (by omega)
  by_cases he : (parseC s).2.2 = 0
  rotate_left
  · obtain ⟨e1, e2⟩ := parse_err he
    refine ⟨_, hps, ?_⟩
    rintro q rfl
    conv => whnf
    rw [show ((parseC s).2.2 != 0) = true from by simp [he]]
    conv => whnf
    rw [e2]
    conv => whnf
    rw [e1]
    refine ⟨_, (sameL_spec nilC nilC_ok).argsC ⟨.refl _, .agg ⟨.refl _, .refl _, .refl _, .refl _, .refl _, .refl _, .refl _, .refl _, .refl _, .refl _, .nil, .nil, .nil, .refl _, trivial⟩, trivial⟩, ?_⟩
    rintro q rfl
    conv => whnf
    exact ⟨_, .refl _, rfl, rfl⟩
  obtain ⟨k1, k2, k3, k4, k5⟩ := parse_ok he
  obtain ⟨a1, a2, a3, a4, a5, a6⟩ := parse_again he
  obtain ⟨b1, b2', b3⟩ := build_good a1
  have hless := parse_less he
  have hpe := parse_enc b1 a2 b2' []
  rw [List.append_nil] at hpe
  obtain ⟨c, hc⟩ : ∃ c, c = (parseC s).1 := ⟨_, rfl⟩
  have hm : (parseC s).2.1 = endN s := by rw [k4]
  obtain ⟨E, hE⟩ : ∃ E, E = endN s := ⟨_, rfl⟩
  have hEe : E = min (b2 s 2 + padN (b2 s 2)) s.length := hE
  have hpad := padN_lt (b2 s 2)
  rw [show parseC s = (c, E, 0) from by rw [hc, hE, ← hm, ← he]] at hps
  rw [← hc] at a1 a2 a3 a4 a5 a6 b1 b2' b3 hpe
  have hbs := build_spec7 c a3
  rw [b3] at hbs
  have hpb := parseC_spec (encC c) (by omega)
  rw [hpe] at hpb
  have hR := right_spec c a3
  rw [b3] at hR
  have hS := sameL_spec c a3
  have hpl := parseC_spec (s.take (b2 s 2 - 1)) (by rw [List.length_take]; omega)
  clear hc
  dsimp only at hps hbs hpb hR
  have q2 := UInt8.toNat_lt (s.getD (Int.toNat 2) 0)
  have q3 := UInt8.toNat_lt (s.getD (Int.toNat 3) 0)
  have hbn : ((s.getD (Int.toNat 2) 0).toNat : Int) * 256 + ((s.getD (Int.toNat 3) 0).toNat : Int) = (b2 s 2 : Nat) := by
    show _ = (((s.getD (Int.toNat 2) 0).toNat * 256 + (s.getD (Int.toNat 3) 0).toNat : Nat) : Int)
    omega
  have hcutl : cutS s none (some (((b2 s 2 : Nat) : Int) - 1)) = s.take (b2 s 2 - 1) := by
    show s.take (Int.toNat _) = _
    congr 1
    omega
  refine ⟨_, hps, ?_⟩
  rintro q rfl
  conv => whnf
  refine ⟨_, hbs, ?_⟩
  rintro q rfl
  conv => whnf
  refine ⟨_, hpb, ?_⟩
  rintro q rfl
  conv => whnf
  repeat (refine ⟨by first | decide | omega, ?_⟩; conv => whnf)
  refine ⟨by kernel_rfl, ?_⟩
  conv => whnf
  rw [hbn]
  conv => whnf
  repeat (refine ⟨by first | decide | omega, ?_⟩; conv => whnf)
  rw [hcutl]
  refine ⟨_, hpl, ?_⟩
  rintro q rfl
  conv => whnf
  refine ⟨_, hR, ?_⟩
  rintro q rfl
  conv => whnf
  refine ⟨_, hS, ?_⟩
  rintro q rfl
  conv => whnf
  rw [beq_self_eq_true]
  conv => whnf
  rw [show decide (((b2 s 2 : Nat) : Int) ≤ (E : Int)) = true from decide_eq_true (by omega)]
  conv => whnf
  rw [show decide ((E : Int) ≤ (s.length : Int)) = true from decide_eq_true (by omega)]
  conv => whnf
  refine ⟨by first | omega | (simp only [Int.toNat_natCast]; omega) | (simp; done) | (simp; omega), ?_⟩
  conv => whnf
  rw [show decide ((E : Int) < ((b2 s 2 : Nat) : Int) + 4) = true from decide_eq_true (by omega)]
  conv => whnf
  rw [hless]
  exact ⟨_, .refl _, rfl, rfl⟩
theorem heads_spec (c : Ch) (hr : ChR c) : PSpec Tryd.prog 5 [cA c] (· = tvb true) := by
  refine PSpec.run (tysOk) followsB Tryd.func5 (by decide) rfl Tryd.ntmps5 (Nat.le_of_ble_eq_true rfl) rfl fun w0 R0 => ?_
  conv => whnf
  refine ⟨_, shown7_spec, ?_⟩
  rintro q rfl
  conv => whnf
  refine ⟨_, small7_spec c, ?_⟩
  rintro q ⟨b, rfl, hb⟩
  cases b
  · conv => whnf
    exact ⟨_, .refl _, rfl, rfl⟩
  have hok := ChOk.of hr (hb rfl)
  have hbs := build_spec7 c hok
  by_cases he : (buildC c).2 = 0
  rotate_left
  · conv => whnf
    refine ⟨_, hbs, ?_⟩
    rintro q rfl
    conv => whnf
    rw [show ((buildC c).2 != 0) = true from by simp [he]]
    conv => whnf
    exact ⟨_, .refl _, rfl, rfl⟩
  obtain ⟨b1, b2', b3⟩ := build_good he
  rw [b3] at hbs
  dsimp only at hbs
  obtain ⟨hen, hel⟩ := enc_parts c
  have hpad := padN_lt ((valB [] c).length + 4)
  have q2 := UInt8.toNat_lt ((encC c).getD (Int.toNat 2) 0)
  have q3 := UInt8.toNat_lt ((encC c).getD (Int.toNat 3) 0)
  conv => whnf
  obtain ⟨⟨t1, t2⟩, f1, f2⟩ := good_head b1
  obtain ⟨w, hw⟩ : ∃ w, w = valB [] c := ⟨_, rfl⟩
  have hen2 := hen
  rw [← hw] at hen hel hpad
  have h0 : ((((encC c).getD (Int.toNat 0) 0).toNat : Nat) : Int) = c.ty := by
    rw [hen]
    show ((u8 c.ty).toNat : Int) = _
    rw [u8_nat]
    omega
  have h1 : ((((encC c).getD (Int.toNat 1) 0).toNat : Nat) : Int) = c.flags := by
    rw [hen]
    show ((u8 c.flags).toNat : Int) = _
    rw [u8_nat]
    omega
  have hbn : (((encC c).getD (Int.toNat 2) 0).toNat : Int) * 256 + (((encC c).getD (Int.toNat 3) 0).toNat : Int) = ((w.length + 4 : Nat) : Int) := by
    rw [hen]
    have := u8_two ((w.length + 4 : Nat) : Int) (by omega) (by omega)
    show ((u8 (((w.length + 4 : Nat) : Int).fdiv 256)).toNat : Int) * 256 + ((u8 ((w.length + 4 : Nat) : Int)).toNat : Int) = _
    omega
  refine ⟨_, hbs, ?_⟩
  rintro q rfl
  conv => whnf
  repeat (refine ⟨by first | decide | omega, ?_⟩; conv => whnf)
  refine ⟨by kernel_rfl, ?_⟩
  conv => whnf
  rw [hbn]
  conv => whnf
  repeat (refine ⟨by first | decide | omega, ?_⟩; conv => whnf)
  rw [h0, bne_self_eq_false]
  conv => whnf
  repeat (refine ⟨by first | decide | omega, ?_⟩; conv => whnf)
  rw [h1, bne_self_eq_false]
  conv => whnf
  rw [show decide (((encC c).length : Int) < ((w.length + 4 : Nat) : Int)) = false from decide_eq_false (by omega)]
  conv => whnf
  repeat (refine ⟨by first | decide | omega, ?_⟩; conv => whnf)
  rw [show decide ((3 : Int) < ((encC c).length : Int) - ((w.length + 4 : Nat) : Int)) = false from decide_eq_false (by omega)]
  conv => whnf
  rw [show decide (((w.length + 4 : Nat) : Int) < 4) = false from decide_eq_false (by omega)]
  conv => whnf
  refine ⟨by kernel_rfl, ?_⟩
  conv => whnf
  by_cases hty : c.ty = 0
  rotate_left
  · rw [show (c.ty != 0) = true from by simp [hty]]
    conv => whnf
    exact ⟨_, .refl _, rfl, rfl⟩
  rw [show (c.ty != 0) = false from by simp [hty]]
  have td := turn_good b1 hty
  obtain ⟨dn, dl⟩ := enc_parts { c with flags := 7 - c.flags }
  have ev : valB [] { c with flags := 7 - c.flags } = valB [] c := rfl
  rw [ev, ← hw] at dn dl
  have dok : ChOk { c with flags := 7 - c.flags } := ⟨hok.gaps, hok.dups, hok.items, hok.gap⟩
  have hfl : c.flags ≤ 7 := by
    have := (good_parts b1).2.1
    simp only [fitsB, if_pos hty, Bool.and_eq_true, decide_eq_true_eq] at this
    exact this.1.2
  have hbd := build_spec7 _ dok
  rw [good_build td (by omega)] at hbd
  dsimp only at hbd dn dl
  obtain ⟨dd, hdd⟩ : ∃ dd, dd = encC { c with flags := 7 - c.flags } := ⟨_, rfl⟩
  rw [← hdd] at hbd dn dl
  have d1 : (((dd.getD (Int.toNat 1) 0).toNat : Nat) : Int) = 7 - c.flags := by
    rw [dn]
    show ((u8 (7 - c.flags)).toNat : Int) = _
    rw [u8_nat]
    omega
  have c1 : (cutS dd none (some 1) == cutS (encC c) none (some 1)) = true := by
    rw [dn, hen]
    simp [cutS]
  have c2 : (cutS dd (some 2) none == cutS (encC c) (some 2) none) = true := by
    rw [dn, hen]
    simp [cutS]
  conv => whnf
  refine ⟨by first | omega | (simp only [Int.toNat_natCast]; omega) | (simp; done) | (simp; omega), ?_⟩
  conv => whnf
  refine ⟨_, hbd, ?_⟩
  rintro q rfl
  conv => whnf
  repeat (refine ⟨by first | decide | omega, ?_⟩; conv => whnf)
  rw [c1]
  conv => whnf
  repeat (refine ⟨by first | decide | omega, ?_⟩; conv => whnf)
  rw [c2]
  conv => whnf
  have q4 := UInt8.toNat_lt (dd.getD (Int.toNat 1) 0)
  repeat (refine ⟨by first | decide | omega, ?_⟩; conv => whnf)
  rw [d1]
  conv => whnf
  refine ⟨by kernel_rfl, ?_⟩
  conv => whnf
  try rw [beq_self_eq_true]
  exact ⟨_, .refl _, rfl, rfl⟩
theorem back7_spec (c : Ch) (hr : ChR c) (more : List UInt8) : PSpec Tryd.prog 7 [cA c, tvs more] (· = tvb true) := by
  refine PSpec.run (tysOk) followsB Tryd.func7 (by decide) rfl Tryd.ntmps7 (Nat.le_of_ble_eq_true rfl) rfl fun w0 R0 => ?_
  conv => whnf
  refine ⟨_, shown7_spec, ?_⟩
  rintro q rfl
  conv => whnf
  refine ⟨_, small7_spec c, ?_⟩
  rintro q ⟨b, rfl, hb⟩
  cases b
  · conv => whnf
    exact ⟨_, .refl _, rfl, rfl⟩
  have hok := ChOk.of hr (hb rfl)
  have hbs := build_spec7 c hok
  have hR := right_spec c hok
  have hZ := size_spec c hok
  have hS := sameL_spec c hok
  conv => whnf
  split <;> rename_i g1
  · conv => whnf
    exact ⟨_, .refl _, rfl, rfl⟩
  replace g1 := of_decide_eq_false g1
  try simp only [Int.toNat_natCast] at g1
  by_cases he : (buildC c).2 = 0
  rotate_left
  · have e1 := build_bad he
    conv => whnf
    refine ⟨_, hbs, ?_⟩
    rintro q rfl
    conv => whnf
    rw [show ((buildC c).2 != 0) = true from by simp [he]]
    conv => whnf
    rw [e1]
    conv => whnf
    refine ⟨_, hR, ?_⟩
    rintro q rfl
    conv => whnf
    rw [show ((buildC c).2 == 0) = false from by simp [he]]
    conv => whnf
    refine ⟨_, hZ, ?_⟩
    rintro q rfl
    conv => whnf
    rw [e1]
    exact ⟨_, .refl _, rfl, rfl⟩
  obtain ⟨b1, b2', b3⟩ := build_good he
  rw [b3] at hbs hR hZ
  dsimp only at hbs hR hZ
  have hpe := parse_enc b1 hr b2' []
  rw [List.append_nil] at hpe
  have hpm := parse_enc b1 hr b2' more
  have hp1 := parseC_spec (encC c) (by omega)
  rw [hpe] at hp1
  have hp2 := parseC_spec (encC c ++ more) (by rw [List.length_append]; omega)
  rw [hpm] at hp2
  dsimp only at hp1 hp2
  obtain ⟨hen, hel⟩ := enc_parts c
  have hmod : (encC c).length % 4 = 0 := by rw [hel]; exact padN_mod _
  conv => whnf
  refine ⟨_, hbs, ?_⟩
  rintro q rfl
  conv => whnf
  refine ⟨_, hp1, ?_⟩
  rintro q rfl
  conv => whnf
  refine ⟨by first | omega | (simp only [Int.toNat_natCast]; omega) | (simp; done) | (simp; omega), ?_⟩
  conv => whnf
  refine ⟨_, hp2, ?_⟩
  rintro q rfl
  conv => whnf
  refine ⟨_, hS, ?_⟩
  rintro q rfl
  conv => whnf
  rw [beq_self_eq_true]
  conv => whnf
  refine ⟨_, hS, ?_⟩
  rintro q rfl
  conv => whnf
  rw [beq_self_eq_true]
  conv => whnf
  refine ⟨by first | omega | (simp only [Int.toNat_natCast]; omega) | (simp; done) | (simp; omega), ?_⟩
  conv => whnf
  rw [show (((encC c).length : Int).tmod 4 == 0) = true from by rw [show (((encC c).length : Int).tmod 4) = _ from tmod_nat _ 4, hmod]; rfl]
  conv => whnf
  rw [show decide (((encC c).length : Int) ≤ 1400) = true from decide_eq_true (by omega)]
  conv => whnf
  refine ⟨_, hZ, ?_⟩
  rintro q rfl
  conv => whnf
  rw [beq_self_eq_true]
  exact ⟨_, .refl _, rfl, rfl⟩
end Go.Proofs.YtbojiemjgiacbaaDoor
