/- Chapter 8: PacketParses: contract, at any arguments of its types. -/
import Derived.Test.YtcdondbegnbdgaaGreatDoorRf8Q
namespace Go.Proofs.YtcdondbegnbdgaaGreatDoor
open Go Go.RowKit Towline Towline.Tlv Towline.Chunk Towline.Packet Towline.Crc
set_option linter.unusedVariables false
set_option linter.unusedSimpArgs false
set_option maxRecDepth 20000
set_option maxHeartbeats 1000000
theorem number8_spec (s : List UInt8) (h : s.length ≤ 4) : PSpec Tryz.prog 22 [tvs s] (· = cv32 (beN s : Nat)) := by
  refine PSpec.run (tysOk) followsB Tryz.func22 (by decide) rfl Tryz.ntmps22 (Nat.le_of_ble_eq_true rfl) rfl fun w0 R0 => ?_
  conv => whnf
  refine ALoop.introR tysOk followsB (fun j : {j // j ≤ s.length} => ([(0, tvs s), (3, cv32 (beN (s.take j.1) : Nat)), (4, tvi j.1)], [])) (fun j => s.length - j.1) ⟨0, by omega⟩ ?_ ?_
  · exact ⟨.refl _, .refl _, .refl _, trivial⟩
  rintro ⟨j, hj⟩
  dsimp only
  conv => whnf
  split <;> rename_i h1
  · have hlt : j < s.length := by simpa using h1
    have hb := beN_lt (s.take j) 0
    have hjl : (s.take j).length = j := by rw [List.length_take]; omega
    rw [hjl] at hb
    have hb2 : beN (s.take j) < 16777216 := by
      have h3 : 256 ^ j ≤ 256 ^ 3 := Nat.pow_le_pow_right (by decide) (by omega)
      have h4 : (256 : Nat) ^ 3 = 16777216 := by decide
      unfold beN
      omega
    conv => whnf
    refine ⟨by first | omega | (simp only [Int.toNat_natCast]; omega) | (simp; done) | (simp; omega), ?_⟩
    conv => whnf
    refine ⟨by first | omega | (simp only [Int.toNat_natCast]; omega) | (simp; done) | (simp; omega), ?_⟩
    conv => whnf
    rw [or256u _ _ hb2]
    refine ⟨by first | omega | (simp only [Int.toNat_natCast]; omega) | (simp; done) | (simp; omega), ?_⟩
    conv => whnf
    refine ⟨⟨j + 1, by omega⟩, [], by dsimp only; omega, .refl _, .of_eq ?_, .refl _, trivial⟩
    dsimp only
    rw [beN_take _ j hlt]
    rfl
  · have hlt : ¬ j < s.length := by simpa using h1
    obtain rfl : j = s.length := by omega
    rw [List.take_length]
    conv => whnf
    exact ⟨_, .refl _, rfl, rfl⟩
theorem num_cut8 (v : List UInt8) (a n : Nat) (hn : n ≤ 4) : PSpec Tryz.prog 22 [tvs (cutS v (some (a : Int)) (some ((a + n : Nat) : Int)))] (· = cv32 (nB v a n)) := by
  have e : cutS v (some (a : Int)) (some ((a + n : Nat) : Int)) = (v.drop a).take n := by
    show (v.take (Int.toNat _)).drop (Int.toNat _) = _
    rw [Int.toNat_natCast, Int.toNat_natCast, List.drop_take, Nat.add_sub_cancel_left]
  rw [e]
  exact number8_spec _ (by rw [List.length_take]; omega)
theorem rparse8_spec (s : List UInt8) (hs : s.length ≤ 2 ^ 40) : PSpec Tryz.prog 7 [tvs s] (· = .tup [pA (parseP s).1, tvi (parseP s).2]) := by
  refine PSpec.run (tysOk) followsB Tryz.func7 (by decide) rfl Tryz.ntmps7 (Nat.le_of_ble_eq_true rfl) rfl fun w0 R0 => ?_
  conv => whnf
  by_cases h1 : 1500 < s.length
  · rw [show parseP s = (nilPk, 4) from by unfold parseP; rw [if_pos h1], show decide ((1500 : Int) < (s.length : Int)) = true from decide_eq_true (by omega)]
    conv => whnf
    refine ⟨.tup [pA nilPk, tvi 4], .tup ⟨.agg ⟨.refl _, .refl _, .refl _, .nil, trivial⟩, .refl _, trivial⟩, rfl, rfl⟩
  rw [show decide ((1500 : Int) < (s.length : Int)) = false from decide_eq_false (by omega)]
  conv => whnf
  refine ⟨_, rcheck_spec s hs, ?_⟩
  rintro q rfl
  conv => whnf
  by_cases h2 : checkL s = 0
  rotate_left
  · rw [show parseP s = (nilPk, checkL s) from by unfold parseP; rw [if_neg h1, if_pos h2], show (checkL s != 0) = true from bne_iff_ne.2 h2]
    conv => whnf
    refine ⟨.tup [pA nilPk, tvi (checkL s)], .tup ⟨.agg ⟨.refl _, .refl _, .refl _, .nil, trivial⟩, .refl _, trivial⟩, rfl, rfl⟩
  rw [h2]
  have h12 : 12 ≤ s.length := by
    unfold checkL at h2
    split at h2
    · cases h2
    · omega
  conv => whnf
  refine ⟨by first | omega | (simp only [Int.toNat_natCast]; omega) | (simp; done) | (simp; omega), ?_⟩
  conv => whnf
  refine ⟨_, num_cut8 s 0 2 (by decide), ?_⟩
  conv => whnf
  rw [wrap_nB]
  conv => whnf
  refine ⟨by first | omega | (simp only [Int.toNat_natCast]; omega) | (simp; done) | (simp; omega), ?_⟩
  conv => whnf
  refine ⟨_, num_cut8 s 2 2 (by decide), ?_⟩
  conv => whnf
  rw [wrap_nB]
  conv => whnf
  refine ⟨by first | omega | (simp only [Int.toNat_natCast]; omega) | (simp; done) | (simp; omega), ?_⟩
  conv => whnf
  refine ⟨_, num_cut8 s 4 4 (by decide), ?_⟩
  conv => whnf
  refine ⟨by kernel_rfl, ?_⟩
  conv => whnf
  refine ALoop.adoptCell 5 3 1000 14 63 (fun _ => []) rfl rfl rfl rfl rfl ?_
  refine ALoop.introR tysOk followsB (fun x : {x : Nat × List Ch // x.1 ≤ s.length ∧ (chunksR (s.drop x.1)).2 = (chunksR (s.drop 12)).2 ∧ ((chunksR (s.drop x.1)).2 = 0 → (chunksR (s.drop 12)).1 = x.2 ++ (chunksR (s.drop x.1)).1) ∧ x.2.length ≤ x.1 ∧ ∀ c ∈ x.2, ChOk c ∧ ChR c} =>
    ([(0, tvs s), (2, .ptr 2 0), (5, .ptr 5 0), (6, tvi x.1.1)], [(2, .box [cv16 0, cv16 0, cv32 0, .d (.v (.slice none 0 0))] none), (5, .box [cv16 (nB s 0 2), cv16 (nB s 2 2), cv32 (nB s 4 4), .rsl 1000 14 0 x.1.2.length] none), (1000, .row 63 14 x.1.2.length (fun k => encCh (x.1.2.getD k default)))]))
    (fun x => s.length - x.1.1) ⟨(12, []), h12, rfl, fun _ => rfl, by simp, fun c hc => by cases hc⟩ ?_ ?_
  · exact ⟨.refl _, .refl _, .refl _, .refl _, OLe.refl _, ⟨.refl _, .refl _, .refl _, .refl _, trivial⟩, ⟨rfl, rfl, rfl, fun _ hj => by simp at hj⟩, trivial⟩
  rintro ⟨⟨p, l⟩, i0, i1, i2, i3, i4⟩
  dsimp only at i0 i1 i2 i3 i4 ⊢
  have hpv : ∀ v e, (¬ (chunksR (s.drop 12)).2 ≠ 0 → v = if rightP (readP s (chunksR (s.drop 12)).1) = true then readP s (chunksR (s.drop 12)).1 else nilPk) → ((chunksR (s.drop 12)).2 ≠ 0 → v = nilPk) →
      (¬ (chunksR (s.drop 12)).2 ≠ 0 → e = if rightP (readP s (chunksR (s.drop 12)).1) = true then 0 else 2) → ((chunksR (s.drop 12)).2 ≠ 0 → e = (chunksR (s.drop 12)).2) → parseP s = (v, e) := by
    intro v e q1 q2 q3 q4
    unfold parseP
    rw [if_neg h1, if_neg (by rw [h2]; simp)]
    by_cases h3 : (chunksR (s.drop 12)).2 ≠ 0
    · rw [if_pos h3, q2 h3, q4 h3]
    · rw [if_neg h3, q1 h3, q3 h3]
      split <;> rfl
  conv => whnf
  by_cases hz : p < s.length
  · rw [show decide ((p : Int) < (s.length : Int)) = true from decide_eq_true (by omega)]
    have hdl : 0 < (s.drop p).length := by rw [List.length_drop]; omega
    have hp := rparse7_spec (s.drop p) (by rw [List.length_drop]; omega)
    conv => whnf
    refine ⟨by first | omega | (simp only [Int.toNat_natCast]; omega) | (simp; done) | (simp; omega), ?_⟩
    conv => whnf
    rw [show cutS s (some (p : Int)) none = s.drop p from rfl]
    refine ⟨_, hp, ?_⟩
    rintro q rfl
    conv => whnf
    by_cases he : (parseC (s.drop p)).2.2 = 0
    rotate_left
    · rw [show ((parseC (s.drop p)).2.2 != 0) = true from bne_iff_ne.2 he]
      have hb := chunksR_bad hdl he
      have h3 : (chunksR (s.drop 12)).2 = (parseC (s.drop p)).2.2 := by rw [← i1, hb]
      rw [hpv nilPk (parseC (s.drop p)).2.2 (fun h => (h (by rw [h3]; exact he)).elim) (fun _ => rfl) (fun h => (h (by rw [h3]; exact he)).elim) (fun _ => h3.symm)]
      conv => whnf
      refine ⟨.tup [pA nilPk, tvi (parseC (s.drop p)).2.2], .tup ⟨.agg ⟨.refl _, .refl _, .refl _, .nil, trivial⟩, .refl _, trivial⟩, rfl, rfl⟩
    rw [show ((parseC (s.drop p)).2.2 != 0) = false from by rw [he]; rfl]
    obtain ⟨b1, b2⟩ := chunksR_go hdl he
    obtain ⟨k1, k2, k3, k4, k5⟩ := parse_ok he
    obtain ⟨a1, a2, a3, _⟩ := parse_again he
    have hE : (parseC (s.drop p)).2.1 = endN (s.drop p) := by rw [k4]
    rw [List.length_drop] at k2
    have hEb : 4 ≤ (parseC (s.drop p)).2.1 ∧ (parseC (s.drop p)).2.1 ≤ s.length - p := by rw [hE]; unfold endN; rw [List.length_drop]; omega
    conv => whnf
    refine ⟨⟨⟨rfl, by omega, by simp only [ty63]; omega⟩, by omega⟩, ?_⟩
    conv => whnf
    conv => whnf
    refine ⟨by first | omega | (simp only [Int.toNat_natCast]; omega) | (simp; done) | (simp; omega), ?_⟩
    conv => whnf
    refine ⟨⟨(p + (parseC (s.drop p)).2.1, l ++ [(parseC (s.drop p)).1]), ?_, ?_, ?_, ?_, ?_⟩, [(53, 1000)], ?_, .refl _, .refl _, .refl _, .refl _, OLe.refl _, ⟨.refl _, .refl _, .refl _, .of_eq (by rw [List.length_append]; rfl), trivial⟩, ⟨rfl, rfl, by simp, fun j hj => ?_⟩, trivial⟩
    · dsimp only; omega
    · dsimp only; rw [← List.drop_drop, ← b1]; exact i1
    · dsimp only
      rw [← List.drop_drop]
      intro h0
      have h0' := h0
      rw [← b1] at h0'
      rw [i2 h0', b2 h0', List.append_assoc]
      rfl
    · dsimp only
      rw [List.length_append]
      simp only [List.length_cons, List.length_nil]
      omega
    · intro c hc
      rcases List.mem_append.1 hc with hc | hc
      · exact i4 c hc
      · rw [List.mem_singleton] at hc; subst hc; exact ⟨a3, a2⟩
    · dsimp only; omega
    · simp only [fcat]
      split
      · rename_i hlt2
        rw [List.getD_eq_getElem?_getD, List.getD_eq_getElem?_getD, List.getElem?_append_left hlt2]
      · have hj2 : j = l.length := by
          have hj3 : j < l.length + 1 := hj
          omega
        subst hj2
        rw [Nat.sub_self, getD_end]
        rfl
  · obtain rfl : p = s.length := by omega
    rw [show decide ((s.length : Int) < (s.length : Int)) = false from decide_eq_false (by omega)]
    have hn := chunksR_nil (show (s.drop s.length).length = 0 from by rw [List.length_drop]; omega)
    rw [hn] at i1 i2
    have h3 : (chunksR (s.drop 12)).1 = l := by rw [i2 rfl, List.append_nil]
    have h4 : (chunksR (s.drop 12)).2 = 0 := i1.symm
    have hR := rright8_spec (readP s l) i4 (by show l.length ≤ _; omega)
    conv => whnf
    refine ⟨by first | omega | (simp only [Int.toNat_natCast]; omega) | (simp; done) | (simp; omega), ?_⟩
    conv => whnf
    refine ⟨_, hR, ?_⟩
    rintro q rfl
    conv => whnf
    cases hr : rightP (readP s l)
    · rw [hpv nilPk 2 (fun _ => by rw [h3, hr]; rfl) (fun _ => rfl) (fun _ => by rw [h3, hr]; rfl) (fun h => (h h4).elim)]
      conv => whnf
      refine ⟨.tup [pA nilPk, tvi 2], .tup ⟨.agg ⟨.refl _, .refl _, .refl _, .nil, trivial⟩, .refl _, trivial⟩, rfl, rfl⟩
    · rw [hpv (readP s l) 0 (fun _ => by rw [h3, if_pos hr]) (fun h => (h h4).elim) (fun _ => by rw [h3, if_pos hr]) (fun h => (h h4).elim)]
      conv => whnf
      refine ⟨by first | omega | (simp only [Int.toNat_natCast]; omega) | (simp; done) | (simp; omega), ?_⟩
      conv => whnf
      exact ⟨_, .refl _, rfl, rfl⟩
theorem parses8_spec (s : List UInt8) : PSpec Tryz.prog 3 [tvs s] (· = tvb true) := by
  refine PSpec.run (tysOk) followsB Tryz.func3 (by decide) rfl Tryz.ntmps3 (Nat.le_of_ble_eq_true rfl) rfl fun w0 R0 => ?_
  conv => whnf
  refine ⟨_, shown8_spec, ?_⟩
  rintro q rfl
  conv => whnf
  by_cases h : 2000 < s.length
  · rw [show decide ((2000 : Int) < (s.length : Int)) = true from decide_eq_true (by omega)]
    conv => whnf
    exact ⟨_, .refl _, rfl, rfl⟩
  rw [show decide ((2000 : Int) < (s.length : Int)) = false from decide_eq_false (by omega)]
  have hp := parse8_spec s (by omega)
  have hq := rparse8_spec s (by omega)
  have hk : (parseP s).1.chunks.length ≤ 50 ∧ ∀ c ∈ (parseP s).1.chunks, ChOk c := by
    by_cases he : (parseP s).2 = 0
    · obtain ⟨_, h1, h2⟩ := parseP_ok he
      exact ⟨h2, fun c hc => (h1.chunks c hc).2⟩
    · rw [parseP_bad he]
      exact ⟨by simp [nilPk], fun c hc => by cases hc⟩
  have hrf := ref8_spec (parseP s).1 (by omega) fun c hc => Nat.le_trans (hk.2 c hc).items (by decide)
  have hsm := same8_spec (parseP s).1 (by omega) hk.2
  conv => whnf
  refine ⟨_, hp, ?_⟩
  rintro q rfl
  conv => whnf
  refine ⟨_, hq, ?_⟩
  rintro q rfl
  conv => whnf
  refine ⟨_, hrf, ?_⟩
  conv => whnf
  refine ⟨_, hsm, ?_⟩
  conv => whnf
  refine ⟨by kernel_rfl, ?_⟩
  conv => whnf
  rw [beq_self_eq_true]
  exact ⟨_, .refl _, rfl, rfl⟩
theorem packetParses_of {l0 : List D} (h0 : wt tys 8 9 l0) : PSpec Tryz.prog 3 [asV false l0] (· = tvb true) := by
  obtain ⟨d0, rfl⟩ : ∃ d, l0 = [d] := by obtain ⟨x, hx, _⟩ := h0; exact ⟨_, hx⟩
  obtain ⟨x, rfl, _⟩ := wt_str (n := 7) h0
  exact parses8_spec x
end Go.Proofs.YtcdondbegnbdgaaGreatDoor
