/- Chapter 8: Parse: contract. -/
import Derived.Test.YtcdondbegnbdgaaDoorPkD
namespace Go.Proofs.YtcdondbegnbdgaaDoor
open Go Go.RowKit Towline Towline.Tlv Towline.Chunk Towline.Packet Towline.Crc
set_option linter.unusedVariables false
set_option linter.unusedSimpArgs false
set_option maxRecDepth 20000
set_option maxHeartbeats 1000000
theorem chunksR_nil {s : List UInt8} (h : s.length = 0) : chunksR s = ([], 0) := by
  have : s = [] := List.length_eq_zero_iff.1 h
  rw [this, chunks_nil]
theorem chunksR_bad {s : List UInt8} (h : 0 < s.length) (h2 : (parseC s).2.2 ≠ 0) : chunksR s = ([], (parseC s).2.2) := by
  rw [chunksR, dif_pos h, dif_neg h2]
theorem chunksR_go {s : List UInt8} (h : 0 < s.length) (h2 : (parseC s).2.2 = 0) : (chunksR s).2 = (chunksR (s.drop (parseC s).2.1)).2 ∧ ((chunksR s).2 = 0 → (chunksR s).1 = (parseC s).1 :: (chunksR (s.drop (parseC s).2.1)).1) := by
  rw [chunksR, dif_pos h, dif_pos h2]
  by_cases h3 : (chunksR (s.drop (parseC s).2.1)).2 = 0
  · rw [if_pos h3]; exact ⟨h3.symm, fun _ => rfl⟩
  · rw [if_neg h3]; exact ⟨rfl, fun h => (h3 h).elim⟩
theorem wrap16n (n : Nat) (h : n < 65536) : IntKind.u16.wrap (n : Int) = n := by
  simp [IntKind.wrap, IntKind.signed, IntKind.bits]; omega
theorem parse8_spec (s : List UInt8) (hs : s.length ≤ 2 ^ 40) : PSpec Tryd.prog 12 [tvs s] (· = .tup [pA (parseP s).1, tvi (parseP s).2]) := by
  refine PSpec.run (tysOk) followsB Tryd.func12 (by decide) rfl Tryd.ntmps12 (Nat.le_of_ble_eq_true rfl) rfl fun w0 R0 => ?_
  conv => whnf
  by_cases h1 : 1500 < s.length
  · rw [show parseP s = (nilPk, 4) from by unfold parseP; rw [if_pos h1], show decide ((1500 : Int) < (s.length : Int)) = true from decide_eq_true (by omega)]
    conv => whnf
    refine ⟨.tup [pA nilPk, tvi 4], .tup ⟨.agg ⟨.refl _, .refl _, .refl _, .nil, trivial⟩, .refl _, trivial⟩, rfl, rfl⟩
  rw [show decide ((1500 : Int) < (s.length : Int)) = false from decide_eq_false (by omega)]
  conv => whnf
  refine ⟨_, check_spec s hs, ?_⟩
  rintro q rfl
  conv => whnf
  by_cases h2 : checkL s = 0
  rotate_left
  · rw [show parseP s = (nilPk, checkL s) from by unfold parseP; rw [if_neg h1, if_pos h2], show (checkL s != 0) = true from bne_iff_ne.2 h2]
    conv => whnf
    refine ⟨.tup [pA nilPk, tvi (checkL s)], .tup ⟨.agg ⟨.refl _, .refl _, .refl _, .nil, trivial⟩, .refl _, trivial⟩, rfl, rfl⟩
  rw [h2]
  have h12 : 12 ≤ s.length := by
    unfold checkL at h2
    split at h2
    · cases h2
    · omega
  have n1 := number_spec s 0 2 (by omega) (by decide) hs
  have n2 := number_spec s 2 2 (by omega) (by decide) hs
  have n3 := number_spec s 4 4 (by omega) (by decide) hs
  have w1 := beN_take_lt (s.drop 0) 2
  have w2 := beN_take_lt (s.drop 2) 2
  conv => whnf
  refine ⟨_, n1, ?_⟩
  rintro q rfl
  conv => whnf
  rw [wrap16n _ (by omega)]
  conv => whnf
  refine ⟨_, n2, ?_⟩
  rintro q rfl
  conv => whnf
  rw [wrap16n _ (by omega)]
  conv => whnf
  refine ⟨_, n3, ?_⟩
  rintro q rfl
  conv => whnf
  refine ⟨by first | omega | (simp only [Int.toNat_natCast]; omega) | (simp; done) | (simp; omega), ?_⟩
  conv => whnf
  rw [show cutS s (some 12) none = s.drop 12 from rfl]
  refine ALoop.adoptCell 6 3 1000 14 35 (fun _ => []) rfl rfl rfl rfl rfl ?_
  refine ALoop.introR tysOk followsB (fun x : {x : List UInt8 × List Ch // (chunksR x.1).2 = (chunksR (s.drop 12)).2 ∧ ((chunksR x.1).2 = 0 → (chunksR (s.drop 12)).1 = x.2 ++ (chunksR x.1).1) ∧ x.1.length + x.2.length ≤ 1500 ∧ ∀ c ∈ x.2, ChOk c} =>
    ([(2, .ptr 2 0), (6, .ptr 6 0), (7, tvs x.1.1)], [(2, .box [cv16 0, cv16 0, cv32 0, .d (.v (.slice none 0 0))] none), (6, .box [cv16 (beN ((s.drop 0).take 2) : Nat), cv16 (beN ((s.drop 2).take 2) : Nat), cv32 (beN ((s.drop 4).take 4) : Nat), .rsl 1000 14 0 x.1.2.length] none), (1000, .row 35 14 x.1.2.length (fun k => encCh (x.1.2.getD k default)))]))
    (fun x => x.1.1.length) ⟨(s.drop 12, []), rfl, fun _ => rfl, by simp; omega, fun c hc => by cases hc⟩ ?_ ?_
  · exact ⟨.refl _, .refl _, .refl _, OLe.refl _, ⟨.refl _, .refl _, .refl _, .refl _, trivial⟩, ⟨rfl, rfl, rfl, fun _ hj => by simp at hj⟩, trivial⟩
  rintro ⟨⟨t, l⟩, i1, i2, i3, i4⟩
  dsimp only at i1 i2 i3 i4 ⊢
  conv => whnf
  have hpv : ∀ v e, (¬ (chunksR (s.drop 12)).2 ≠ 0 → v = if rightP (readP s (chunksR (s.drop 12)).1) = true then readP s (chunksR (s.drop 12)).1 else nilPk) → ((chunksR (s.drop 12)).2 ≠ 0 → v = nilPk) →
      (¬ (chunksR (s.drop 12)).2 ≠ 0 → e = if rightP (readP s (chunksR (s.drop 12)).1) = true then 0 else 2) → ((chunksR (s.drop 12)).2 ≠ 0 → e = (chunksR (s.drop 12)).2) → parseP s = (v, e) := by
    intro v e q1 q2 q3 q4
    unfold parseP
    rw [if_neg h1, if_neg (by rw [h2]; simp)]
    by_cases h3 : (chunksR (s.drop 12)).2 ≠ 0
    · rw [if_pos h3, q2 h3, q4 h3]
    · rw [if_neg h3, q1 h3, q3 h3]
      split <;> rfl
  by_cases hz : 0 < t.length
  · rw [show (t != { data := #[] : ByteArray }.data.toList) = true from bne_iff_ne.2 (fun h => by rw [h] at hz; exact absurd hz (by decide))]
    have hp := parseC_spec t (by omega)
    conv => whnf
    refine ⟨_, hp, ?_⟩
    rintro q rfl
    conv => whnf
    by_cases he : (parseC t).2.2 = 0
    rotate_left
    · rw [show ((parseC t).2.2 != 0) = true from bne_iff_ne.2 he]
      have hb := chunksR_bad hz he
      have h3 : (chunksR (s.drop 12)).2 = (parseC t).2.2 := by rw [← i1, hb]
      rw [hpv nilPk (parseC t).2.2 (fun h => (h (by rw [h3]; exact he)).elim) (fun _ => rfl) (fun h => (h (by rw [h3]; exact he)).elim) (fun _ => h3.symm)]
      conv => whnf
      refine ⟨.tup [pA nilPk, tvi (parseC t).2.2], .tup ⟨.agg ⟨.refl _, .refl _, .refl _, .nil, trivial⟩, .refl _, trivial⟩, rfl, rfl⟩
    rw [show ((parseC t).2.2 != 0) = false from by rw [he]; rfl]
    obtain ⟨b1, b2⟩ := chunksR_go hz he
    obtain ⟨k1, k2, k3, k4, k5⟩ := parse_ok he
    obtain ⟨a1, a2, a3, _⟩ := parse_again he
    have hE : (parseC t).2.1 = endN t := by rw [k4]
    have hEb : 4 ≤ endN t ∧ endN t ≤ t.length := by unfold endN; omega
    conv => whnf
    refine ⟨⟨⟨rfl, by omega, by simp only [ty35]; omega⟩, by omega⟩, ?_⟩
    conv => whnf
    conv => whnf
    refine ⟨by first | omega | (simp only [Int.toNat_natCast]; omega) | (simp; done) | (simp; omega), ?_⟩
    conv => whnf
    have hcut : cutS t (some ((parseC t).2.1 : Int)) none = t.drop (parseC t).2.1 := rfl
    rw [hcut]
    refine ⟨⟨(t.drop (parseC t).2.1, l ++ [(parseC t).1]), ?_, ?_, ?_, ?_⟩, [(49, 1000)], ?_, .refl _, .refl _, .refl _, OLe.refl _, ⟨.refl _, .refl _, .refl _, .of_eq (by rw [List.length_append]; rfl), trivial⟩, ⟨rfl, rfl, by simp, fun j hj => ?_⟩, trivial⟩
    · rw [← b1]; exact i1
    · intro h0
      have h0' := h0
      rw [← b1] at h0'
      rw [i2 h0', b2 h0', List.append_assoc]
      rfl
    · rw [List.length_append, List.length_drop, hE]
      simp only [List.length_cons, List.length_nil]
      omega
    · intro c hc
      rcases List.mem_append.1 hc with hc | hc
      · exact i4 c hc
      · rw [List.mem_singleton] at hc; subst hc; exact a3
    · dsimp only
      rw [List.length_drop, hE]
      omega
    · simp only [fcat]
      split
      · rename_i hlt2
        rw [List.getD_eq_getElem?_getD, List.getD_eq_getElem?_getD, List.getElem?_append_left hlt2]
      · have hj2 : j = l.length := by
          have hj3 : j < l.length + 1 := hj
          omega
        subst hj2
        rw [Nat.sub_self, getD_end]
        rfl
  · rw [show (t != { data := #[] : ByteArray }.data.toList) = false from by rw [List.length_eq_zero_iff.1 (show t.length = 0 from by omega)]; rfl]
    have hn := chunksR_nil (show t.length = 0 from by omega)
    rw [hn] at i1 i2
    have h3 : (chunksR (s.drop 12)).1 = l := by rw [i2 rfl, List.append_nil]
    have h4 : (chunksR (s.drop 12)).2 = 0 := i1.symm
    have hR := right8_spec (readP s l) i4 (by show l.length ≤ _; omega)
    have ez : s.drop 0 = s := rfl
    conv => whnf
    refine ⟨by first | omega | (simp only [Int.toNat_natCast]; omega) | (simp; done) | (simp; omega), ?_⟩
    conv => whnf
    refine ⟨_, hR, ?_⟩
    rintro q rfl
    conv => whnf
    cases hr : rightP (readP s l)
    · rw [hpv nilPk 2 (fun _ => by rw [h3, hr]; rfl) (fun _ => rfl) (fun _ => by rw [h3, hr]; rfl) (fun h => (h h4).elim)]
      conv => whnf
      refine ⟨.tup [pA nilPk, tvi 2], .tup ⟨.agg ⟨.refl _, .refl _, .refl _, .nil, trivial⟩, .refl _, trivial⟩, rfl, rfl⟩
    · rw [hpv (readP s l) 0 (fun _ => by rw [h3, if_pos hr]) (fun h => (h h4).elim) (fun _ => by rw [h3, if_pos hr]) (fun h => (h h4).elim)]
      conv => whnf
      refine ⟨by first | omega | (simp only [Int.toNat_natCast]; omega) | (simp; done) | (simp; omega), ?_⟩
      conv => whnf
      exact ⟨_, .refl _, rfl, rfl⟩
end Go.Proofs.YtcdondbegnbdgaaDoor
