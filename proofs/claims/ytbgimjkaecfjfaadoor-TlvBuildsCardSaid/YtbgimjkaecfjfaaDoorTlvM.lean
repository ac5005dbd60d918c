/- Chapter 6: the statements: contracts. -/
import Derived.Test.YtbgimjkaecfjfaaDoorTlvL
namespace Go.Proofs.YtbgimjkaecfjfaaDoor
open Go Go.RowKit Towline Towline.Tlv
set_option linter.unusedVariables false
set_option linter.unusedSimpArgs false
set_option maxRecDepth 20000
set_option maxHeartbeats 4000000
theorem small_len {l : List Tlv.It} (h : smallL l = true) : l.length ≤ 60 ∧ ∀ x ∈ l, x.v.length ≤ 2000 := by
  simp only [smallL, Bool.and_eq_true, decide_eq_true_eq, List.all_eq_true] at h
  exact h
theorem parse_len (s : List UInt8) : (parseL s).1.length ≤ 4000 := by
  rcases parse_cases s with ⟨h1, h2, e⟩ | ⟨h1, pre, r, _, hr, e⟩ | ⟨_, e⟩
  · rw [e]
    have := yl_len s 0
    simp only [List.length_map]
    omega
  · rw [e]; simp
  · rw [e]; simp
theorem yl_place : ∀ {t : List UInt8} {p : Nat} {r : Rd}, r ∈ yl t p → p ≤ r.place ∧ r.place ≤ p + t.length := by
  intro t
  induction hn : t.length using Nat.strongRecOn generalizing t with
  | _ n ih =>
    intro p r h
    by_cases h0 : 0 < t.length
    · by_cases h2 : (firstL t).2.2 = 0
      · have h3 := firstL_pos h2
        have hd : (t.drop (firstL t).2.1).length = t.length - (firstL t).2.1 := List.length_drop
        rw [yl_go h0 h2] at h
        rcases List.mem_cons.1 h with rfl | h
        · exact ⟨Nat.le_refl _, by simp⟩
        · have := ih (t.drop (firstL t).2.1).length (by omega) rfl h
          omega
      · rw [yl_bad h0 h2, List.mem_singleton] at h
        subst h
        exact ⟨Nat.le_refl _, by simp⟩
    · rw [yl_nil (by omega)] at h
      cases h
theorem parse_place (s : List UInt8) : 0 ≤ (parseL s).2.1 ∧ (parseL s).2.1 ≤ 4000 := by
  rcases parse_cases s with ⟨h1, h2, e⟩ | ⟨h1, pre, r, e1, hr, e⟩ | ⟨_, e⟩
  · rw [e]; exact ⟨Int.le_refl _, show (0 : Int) ≤ 4000 from by decide⟩
  · rw [e]
    have := yl_place (t := s) (p := 0) (r := r) (by rw [e1]; simp)
    simp only
    omega
  · rw [e]; exact ⟨Int.le_refl _, show (0 : Int) ≤ 4000 from by decide⟩
theorem bytes_small (l : List Tlv.It) (h : ∀ x ∈ l, x.v.length ≤ 2000) : ∀ k, k ≤ l.length → (Tlv.bytes (l.take k)).length ≤ 2010 * k
  | 0, _ => by simp [Tlv.bytes]
  | k + 1, hk => by
    rw [bytes_take l k (by omega), List.length_append, enc_length]
    have := bytes_small l h k (by omega)
    have h1 := h l[k] (List.getElem_mem (by omega))
    rw [List.getD_eq_getElem?_getD, List.getElem?_eq_getElem (by omega)]
    have := padN_lt (l[k].v.length + 4)
    simp only [Option.getD_some]
    omega
theorem largest_long {l : List Tlv.It} (h : l.any longV = true) : 1400 < largestL l := by
  rw [List.any_eq_true] at h
  obtain ⟨x, hx, hl⟩ := h
  have hl : 1400 < x.v.length := of_decide_eq_true hl
  have key : ∀ (l : List Tlv.It) (n : Nat), (x ∈ l ∨ x.v.length ≤ n) → x.v.length ≤ l.foldl (fun n x => max n x.v.length) n := by
    intro l
    induction l with
    | nil =>
      intro n h
      rcases h with h | h
      · cases h
      · exact h
    | cons y l ih =>
      intro n h
      rw [List.foldl_cons]
      refine ih _ ?_
      rcases h with h | h
      · rcases List.mem_cons.1 h with rfl | h
        · exact .inr (Nat.le_max_right _ _)
        · exact .inl h
      · exact .inr (Nat.le_trans h (Nat.le_max_left _ _))
  have := key l 0 (.inl hx)
  unfold largestL
  omega
theorem fcat_list (l m : List Tlv.It) (k : Nat) : fcat (fun k => encI (l.getD k default)) l.length (fun k => encI (m.getD k default)) k = encI ((l ++ m).getD k default) := by
  unfold fcat
  split
  · rename_i h
    show encI (l.getD k default) = _
    rw [List.getD_eq_getElem?_getD, List.getD_eq_getElem?_getD, List.getElem?_append_left h]
  · rename_i h
    show encI (m.getD (k - l.length) default) = _
    rw [List.getD_eq_getElem?_getD, List.getD_eq_getElem?_getD, List.getElem?_append_right (by omega)]
theorem fcat_back (x : Tlv.It) (l : List Tlv.It) (j : Nat) (hj : j < l.length + 1) : fcat (fcat (fun k => (replF 0 ty42.zero).getD k []) 0 fun k => encI (l.getD k default)) (0 + l.length) (fun k => ([D.i .i64 x.ty, D.s x.v] :: replF 0 ty42.zero).getD k []) j = encI ((l ++ [x]).getD j default) := by
  rw [List.getD_eq_getElem?_getD]
  unfold fcat
  split
  · rename_i h
    rw [if_neg (by omega), List.getElem?_append_left (by omega), ← List.getD_eq_getElem?_getD]
    rfl
  · rename_i h
    obtain rfl : j = l.length := by omega
    rw [Nat.zero_add, Nat.sub_self, List.getElem?_append_right (Nat.le_refl _), Nat.sub_self]
    rfl
theorem fcat_front (x : Tlv.It) (l : List Tlv.It) (j : Nat) : fcat (fun k => ([D.i .i64 x.ty, D.s x.v] :: replF 0 ty42.zero).getD k []) 1 (fun k => encI (l.getD k default)) j = encI ((x :: l).getD j default) := by
  unfold fcat
  match j with
  | 0 => rfl
  | j + 1 =>
    rw [if_neg (by omega)]
    rfl
theorem act_parts (m : Nat) (h : m ≤ 65535) : actB (m : Int) = (decide (32768 ≤ m), decide (m / 16384 % 2 = 1)) ∧ actB ((m / 16384 * 16384 : Nat) : Int) = (decide (32768 ≤ m), decide (m / 16384 % 2 = 1)) ∧ actB (65535 - (m : Int)) = (!decide (32768 ≤ m), !decide (m / 16384 % 2 = 1)) := by
  refine ⟨?_, ?_, ?_⟩
  · unfold actB
    rw [if_neg (by omega)]
    refine Prod.ext ?_ ?_ <;> (simp only []; rw [Bool.eq_iff_iff]; simp only [decide_eq_true_eq]; omega)
  · unfold actB
    rw [if_neg (by omega)]
    refine Prod.ext ?_ ?_ <;> (simp only []; rw [Bool.eq_iff_iff]; simp only [decide_eq_true_eq]; omega)
  · unfold actB
    rw [if_neg (by omega)]
    refine Prod.ext ?_ ?_ <;> (simp only []; rw [Bool.eq_iff_iff]; simp only [decide_eq_true_eq, Bool.not_eq_true', decide_eq_false_iff_not]; omega)
theorem acts_spec (n : Int) : PSpec Tryd.prog 6 [tvi n] (· = tvb true) := by
  refine PSpec.run (tysOk) followsB Tryd.func6 (by decide) rfl Tryd.ntmps6 (Nat.le_of_ble_eq_true rfl) rfl fun w0 R0 => ?_
  conv => whnf
  refine ⟨_, shown_spec, ?_⟩
  rintro q rfl
  conv => whnf
  split <;> rename_i g1
  · conv => whnf
    exact ⟨_, .refl _, rfl, rfl⟩
  replace g1 := of_decide_eq_false g1
  try simp only [Int.toNat_natCast] at g1
  conv => whnf
  split <;> rename_i g2
  · conv => whnf
    exact ⟨_, .refl _, rfl, rfl⟩
  replace g2 := of_decide_eq_false g2
  try simp only [Int.toNat_natCast] at g2
  obtain ⟨m, rfl⟩ : ∃ m : Nat, n = m := ⟨n.toNat, by omega⟩
  obtain ⟨h1, h2, h3⟩ := act_parts m (by omega)
  have s1 := act_spec m
  have s2 := act_spec ((m / 16384 * 16384 : Nat) : Int)
  have s3 := act_spec (65535 - (m : Int))
  rw [h1] at s1
  rw [h2] at s2
  rw [h3] at s3
  clear h1 h2 h3
  generalize decide (32768 ≤ m) = o at s1 s2 s3
  generalize decide (m / 16384 % 2 = 1) = t at s1 s2 s3
  have e1 : IntKind.i64.wrap ((m : Int).tdiv 16384) = ((m / 16384 : Nat) : Int) := by
    rw [Int.tdiv_eq_ediv_of_nonneg (by omega), IntWalk.i64_in _ (by omega)]
    omega
  conv => whnf
  refine ⟨_, s1, ?_⟩
  rintro q rfl
  conv => whnf
  repeat (refine ⟨by first | decide | omega, ?_⟩; conv => whnf)
  rw [e1, show (((m / 16384 : Nat) : Int) * 16384) = ((m / 16384 * 16384 : Nat) : Int) from by omega]
  refine ⟨_, s2, ?_⟩
  rintro q rfl
  conv => whnf
  refine ⟨by first | omega | (simp only [Int.toNat_natCast]; omega) | (simp; done) | (simp; omega), ?_⟩
  conv => whnf
  refine ⟨_, s3, ?_⟩
  rintro q rfl
  conv => whnf
  cases o <;> cases t
  all_goals conv => whnf
  all_goals exact ⟨_, .refl _, rfl, rfl⟩
theorem parses_spec (s : List UInt8) : PSpec Tryd.prog 3 [tvs s] (· = tvb true) := by
  have hl := parse_len s
  refine PSpec.run (tysOk) followsB Tryd.func3 (by decide) rfl Tryd.ntmps3 (Nat.le_of_ble_eq_true rfl) rfl fun w0 R0 => ?_
  conv => whnf
  refine ⟨_, shown_spec, ?_⟩
  rintro q rfl
  conv => whnf
  split <;> rename_i g1
  · conv => whnf
    exact ⟨_, .refl _, rfl, rfl⟩
  replace g1 := of_decide_eq_false g1
  try simp only [Int.toNat_natCast] at g1
  conv => whnf
  refine ⟨_, parse_spec s, ?_⟩
  rintro q rfl
  conv => whnf
  refine ⟨_, rparse_spec s (by omega), ?_⟩
  rintro q rfl
  conv => whnf
  refine ⟨_, as_spec (parseL s).1 (by omega), ?_⟩
  rintro q rfl
  conv => whnf
  refine ⟨_, same_spec (parseL s).1 (parseL s).1 (by omega) (by omega), ?_⟩
  rintro q rfl
  conv => whnf
  rw [decide_eq_true rfl]
  conv => whnf
  rw [beq_self_eq_true]
  conv => whnf
  rw [beq_self_eq_true]
  conv => whnf
  exact ⟨_, .refl _, rfl, rfl⟩
theorem builds_spec (l : List Tlv.It) (n : Int) (hn : n < 2 ^ 63) : PSpec Tryd.prog 8 [.d (slT 2 encI l), tvi n] (· = tvb true) := by
  refine PSpec.run (tysOk) followsB Tryd.func8 (by decide) rfl Tryd.ntmps8 (Nat.le_of_ble_eq_true rfl) rfl fun w0 R0 => ?_
  conv => whnf
  refine ⟨_, shown_spec, ?_⟩
  rintro q rfl
  conv => whnf
  refine ⟨_, small_spec l, ?_⟩
  rintro q rfl
  conv => whnf
  cases hs : smallL l
  · conv => whnf
    exact ⟨_, .refl _, rfl, rfl⟩
  obtain ⟨h1, h2⟩ := small_len hs
  conv => whnf
  refine ⟨_, build_spec l (by omega), ?_⟩
  rintro q rfl
  conv => whnf
  refine ⟨_, as_spec l (by omega), ?_⟩
  rintro q rfl
  conv => whnf
  refine ⟨_, rbuild_spec l (by omega), ?_⟩
  rintro q rfl
  conv => whnf
  refine ⟨_, find_spec l n (by omega), ?_⟩
  rintro q rfl
  conv => whnf
  refine ⟨_, as_spec l (by omega), ?_⟩
  rintro q rfl
  conv => whnf
  refine ⟨_, rfind_spec l n (by omega), ?_⟩
  rintro q rfl
  conv => whnf
  refine ⟨_, act_spec n, ?_⟩
  rintro q rfl
  conv => whnf
  refine ⟨_, ract_spec n, ?_⟩
  rintro q rfl
  conv => whnf
  rw [beq_self_eq_true]
  conv => whnf
  rw [beq_self_eq_true]
  conv => whnf
  refine ⟨_, padI_spec n hn, ?_⟩
  rintro q rfl
  conv => whnf
  refine ⟨_, rpad_spec n hn, ?_⟩
  rintro q rfl
  conv => whnf
  rw [beq_self_eq_true]
  conv => whnf
  rw [beq_self_eq_true]
  conv => whnf
  rw [beq_self_eq_true]
  conv => whnf
  rw [beq_self_eq_true]
  conv => whnf
  rw [beq_self_eq_true]
  conv => whnf
  exact ⟨_, .refl _, rfl, rfl⟩
theorem back_spec (l : List Tlv.It) (s : List UInt8) : PSpec Tryd.prog 4 [.d (slT 2 encI l), tvs s] (· = tvb true) := by
  have hl := parse_len s
  refine PSpec.run (tysOk) followsB Tryd.func4 (by decide) rfl Tryd.ntmps4 (Nat.le_of_ble_eq_true rfl) rfl fun w0 R0 => ?_
  conv => whnf
  refine ⟨_, shown_spec, ?_⟩
  rintro q rfl
  conv => whnf
  refine ⟨_, small_spec l, ?_⟩
  rintro q rfl
  conv => whnf
  cases hs : smallL l
  · conv => whnf
    exact ⟨_, .refl _, rfl, rfl⟩
  obtain ⟨h1, h2⟩ := small_len hs
  conv => whnf
  split <;> rename_i g1
  · conv => whnf
    exact ⟨_, .refl _, rfl, rfl⟩
  replace g1 := of_decide_eq_false g1
  try simp only [Int.toNat_natCast] at g1
  conv => whnf
  have hbs := build_spec l (by omega)
  by_cases hb : (buildL l).2 = 0
  · obtain ⟨hb1, hb2⟩ := parse_build hb
    refine ⟨_, hbs, ?_⟩
    rintro q rfl
    conv => whnf
    rw [show ((buildL l).2 == 0) = true from by simp [hb]]
    conv => whnf
    have hps := parse_spec (buildL l).1
    rw [hb1] at hps
    refine ⟨_, hps, ?_⟩
    rintro q rfl
    conv => whnf
    refine ⟨_, as_spec l (by omega), ?_⟩
    rintro q rfl
    conv => whnf
    refine ⟨_, as_spec l (by omega), ?_⟩
    rintro q rfl
    conv => whnf
    refine ⟨_, same_spec l l (by omega) (by omega), ?_⟩
    rintro q rfl
    conv => whnf
    rw [decide_eq_true rfl]
    conv => whnf
    refine ⟨by first | omega | (simp only [Int.toNat_natCast]; omega) | (simp; done) | (simp; omega), ?_⟩
    conv => whnf
    rw [show (((buildL l).1.length : Int).tmod 4 != 0) = false from by rw [show (((buildL l).1.length : Int).tmod 4) = _ from tmod_nat _ 4, hb2]; rfl]
    conv => whnf
    refine ⟨_, parse_spec s, ?_⟩
    rintro q rfl
    conv => whnf
    by_cases hp : (parseL s).2.2 = 0
    · have hbp := build_spec (parseL s).1 (by omega)
      rw [show ((parseL s).2.2 != 0) = false from by simp [hp]]
      conv => whnf
      rcases build_parse hp with ⟨k1, k2⟩ | ⟨k1, k2, k3, k4⟩
      · refine ⟨_, hbp, ?_⟩
        rintro q rfl
        conv => whnf
        refine ⟨_, parse_spec (buildL (parseL s).1).1, ?_⟩
        rintro q rfl
        conv => whnf
        rw [show ((buildL (parseL s).1).2 == 4) = true from by rw [k1]; rfl]
        conv => whnf
        rw [show decide ((3997 : Int) < (s.length : Int)) = true from decide_eq_true (by omega)]
        conv => whnf
        exact ⟨_, .refl _, rfl, rfl⟩
      · have hpp := parse_spec (buildL (parseL s).1).1
        rw [k2] at hpp
        refine ⟨_, hbp, ?_⟩
        rintro q rfl
        conv => whnf
        refine ⟨_, hpp, ?_⟩
        rintro q rfl
        conv => whnf
        rw [show ((buildL (parseL s).1).2 == 4) = false from by rw [k1]; rfl]
        conv => whnf
        rw [show ((buildL (parseL s).1).2 == 0) = true from by rw [k1]; rfl]
        conv => whnf
        refine ⟨_, as_spec (parseL s).1 (by omega), ?_⟩
        rintro q rfl
        conv => whnf
        refine ⟨_, as_spec (parseL s).1 (by omega), ?_⟩
        rintro q rfl
        conv => whnf
        refine ⟨_, same_spec (parseL s).1 (parseL s).1 (by omega) (by omega), ?_⟩
        rintro q rfl
        conv => whnf
        rw [decide_eq_true rfl]
        conv => whnf
        rw [show decide ((s.length : Int) ≤ ((buildL (parseL s).1).1.length : Int)) = true from decide_eq_true (by omega)]
        conv => whnf
        refine ⟨by first | omega | (simp only [Int.toNat_natCast]; omega) | (simp; done) | (simp; omega), ?_⟩
        conv => whnf
        rw [show decide (((buildL (parseL s).1).1.length : Int) ≤ (s.length : Int) + 3) = true from decide_eq_true (by omega)]
        conv => whnf
        exact ⟨_, .refl _, rfl, rfl⟩
    · rw [show ((parseL s).2.2 != 0) = true from by simp [hp]]
      conv => whnf
      rw [parse_nil hp]
      rw [show ((([] : List Tlv.It).length : Int) == 0) = true from rfl]
      exact ⟨_, .refl _, rfl, rfl⟩
  · refine ⟨_, hbs, ?_⟩
    rintro q rfl
    conv => whnf
    rw [show ((buildL l).2 == 0) = false from by simp [hb]]
    conv => whnf
    refine ⟨_, parse_spec s, ?_⟩
    rintro q rfl
    conv => whnf
    by_cases hp : (parseL s).2.2 = 0
    · have hbp := build_spec (parseL s).1 (by omega)
      rw [show ((parseL s).2.2 != 0) = false from by simp [hp]]
      conv => whnf
      rcases build_parse hp with ⟨k1, k2⟩ | ⟨k1, k2, k3, k4⟩
      · refine ⟨_, hbp, ?_⟩
        rintro q rfl
        conv => whnf
        refine ⟨_, parse_spec (buildL (parseL s).1).1, ?_⟩
        rintro q rfl
        conv => whnf
        rw [show ((buildL (parseL s).1).2 == 4) = true from by rw [k1]; rfl]
        conv => whnf
        rw [show decide ((3997 : Int) < (s.length : Int)) = true from decide_eq_true (by omega)]
        conv => whnf
        exact ⟨_, .refl _, rfl, rfl⟩
      · have hpp := parse_spec (buildL (parseL s).1).1
        rw [k2] at hpp
        refine ⟨_, hbp, ?_⟩
        rintro q rfl
        conv => whnf
        refine ⟨_, hpp, ?_⟩
        rintro q rfl
        conv => whnf
        rw [show ((buildL (parseL s).1).2 == 4) = false from by rw [k1]; rfl]
        conv => whnf
        rw [show ((buildL (parseL s).1).2 == 0) = true from by rw [k1]; rfl]
        conv => whnf
        refine ⟨_, as_spec (parseL s).1 (by omega), ?_⟩
        rintro q rfl
        conv => whnf
        refine ⟨_, as_spec (parseL s).1 (by omega), ?_⟩
        rintro q rfl
        conv => whnf
        refine ⟨_, same_spec (parseL s).1 (parseL s).1 (by omega) (by omega), ?_⟩
        rintro q rfl
        conv => whnf
        rw [decide_eq_true rfl]
        conv => whnf
        rw [show decide ((s.length : Int) ≤ ((buildL (parseL s).1).1.length : Int)) = true from decide_eq_true (by omega)]
        conv => whnf
        refine ⟨by first | omega | (simp only [Int.toNat_natCast]; omega) | (simp; done) | (simp; omega), ?_⟩
        conv => whnf
        rw [show decide (((buildL (parseL s).1).1.length : Int) ≤ (s.length : Int) + 3) = true from decide_eq_true (by omega)]
        conv => whnf
        exact ⟨_, .refl _, rfl, rfl⟩
    · rw [show ((parseL s).2.2 != 0) = true from by simp [hp]]
      conv => whnf
      rw [parse_nil hp]
      rw [show ((([] : List Tlv.It).length : Int) == 0) = true from rfl]
      exact ⟨_, .refl _, rfl, rfl⟩
theorem joins_spec (s t : List UInt8) : PSpec Tryd.prog 5 [tvs s, tvs t] (· = tvb true) := by
  have hl := parse_len s
  have hl2 := parse_len t
  refine PSpec.run (tysOk) followsB Tryd.func5 (by decide) rfl Tryd.ntmps5 (Nat.le_of_ble_eq_true rfl) rfl fun w0 R0 => ?_
  conv => whnf
  refine ⟨_, shown_spec, ?_⟩
  rintro q rfl
  conv => whnf
  split <;> rename_i g1
  · conv => whnf
    exact ⟨_, .refl _, rfl, rfl⟩
  replace g1 := of_decide_eq_false g1
  try simp only [Int.toNat_natCast] at g1
  conv => whnf
  split <;> rename_i g2
  · conv => whnf
    exact ⟨_, .refl _, rfl, rfl⟩
  replace g2 := of_decide_eq_false g2
  try simp only [Int.toNat_natCast] at g2
  conv => whnf
  refine ⟨_, parse_spec s, ?_⟩
  rintro q rfl
  conv => whnf
  refine ⟨_, parse_spec t, ?_⟩
  rintro q rfl
  conv => whnf
  repeat (refine ⟨by first | decide | omega, ?_⟩; conv => whnf)
  have hst : (s ++ t).length ≤ 4000 := by rw [List.length_append]; omega
  refine ⟨_, parse_spec (s ++ t), ?_⟩
  rintro q rfl
  conv => whnf
  have hcases : (parseL s).2.2 = 0 ∨ (parseL s).2.2 = 3 ∨ ((parseL s).2.2 = 2 ∨ (parseL s).2.2 = 4) := by
    rcases parse_cases s with ⟨h1, h2, e⟩ | ⟨h1, pre, r, _, hr, e⟩ | ⟨h1, e⟩
    · rw [e]; exact .inl rfl
    · rw [e]; simp only; omega
    · omega
  rcases hcases with h0 | h0 | h0
  · rw [show ((parseL s).2.2 == 2) = false from by rw [h0]; rfl]
    conv => whnf
    rw [show ((parseL s).2.2 == 4) = false from by rw [h0]; rfl]
    conv => whnf
    rw [show ((parseL s).2.2 != 0) = false from by rw [h0]; rfl]
    conv => whnf
    refine ⟨by first | omega | (simp only [Int.toNat_natCast]; omega) | (simp; done) | (simp; omega), ?_⟩
    conv => whnf
    rw [show ((s.length : Int).tmod 4) = _ from tmod_nat _ 4]
    by_cases hm : s.length % 4 = 0
    · obtain ⟨a1, a2⟩ := parse_app t hst h0 hm
      rw [hm, show (((0 : Nat) : Int) != 0) = false from rfl]
      conv => whnf
      by_cases hf : (parseL t).2.2 = 0
      · rw [show ((parseL t).2.2 != 0) = false from by simp [hf]]
        conv => whnf
        rw [show ((parseL (s ++ t)).2.2 == 0) = true from by rw [a2 hf]; rfl]
        conv => whnf
        refine ⟨_, as_spec (parseL (s ++ t)).1 (by have := parse_len (s ++ t); omega), ?_⟩
        rintro q rfl
        conv => whnf
        refine ⟨_, asF_spec (parseL s).1 (by omega), ?_⟩
        rintro q rfl
        conv => whnf
        refine ⟨_, as_spec (parseL t).1 (by omega), ?_⟩
        rintro q rfl
        conv => whnf
        refine ⟨⟨by omega, by omega, by simp only [ty57]; omega⟩, ?_⟩
        conv => whnf
        conv => whnf
        refine ⟨by first | omega | (simp only [Int.toNat_natCast]; omega) | (simp; done) | (simp; omega), ?_⟩
        conv => whnf
        refine ⟨_, (same_spec (parseL (s ++ t)).1 ((parseL s).1 ++ (parseL t).1) (by have := parse_len (s ++ t); omega) (by rw [List.length_append]; omega)).argsC (args' := [.d (slT 2 encI (parseL (s ++ t)).1), .d (.sl 2 ((parseL s).1.length + (parseL t).1.length) (fcat (fun k => encI ((parseL s).1.getD k default)) (parseL s).1.length fun k => encI ((parseL t).1.getD k default)))]) ⟨.refl _, .sl (by simp) (fun j hj => (fcat_list _ _ j)), trivial⟩, ?_⟩
        rintro q rfl
        conv => whnf
        exact ⟨_, .refl _, by rw [a2 hf, decide_eq_true rfl], rfl⟩
      · have a1 := a1 hf
        rw [show ((parseL t).2.2 != 0) = true from by simp [hf]]
        conv => whnf
        rw [show ((parseL (s ++ t)).2.2 == (parseL t).2.2) = true from by rw [a1]; simp]
        conv => whnf
        have hm2 := parse_place t
        refine ⟨by first | omega | (simp only [Int.toNat_natCast]; omega) | (simp; done) | (simp; omega), ?_⟩
        conv => whnf
        rw [show ((parseL (s ++ t)).2.1 == (s.length : Int) + (parseL t).2.1) = true from by rw [a1]; simp]
        conv => whnf
        exact ⟨_, .refl _, rfl, rfl⟩
    · rw [show (((s.length % 4 : Nat) : Int) != 0) = true from by simp; omega]
      conv => whnf
      exact ⟨_, .refl _, rfl, rfl⟩
  · rw [show ((parseL s).2.2 == 2) = false from by rw [h0]; rfl]
    conv => whnf
    rw [show ((parseL s).2.2 == 4) = false from by rw [h0]; rfl]
    conv => whnf
    rw [show ((parseL s).2.2 != 0) = true from by rw [h0]; rfl]
    conv => whnf
    exact ⟨_, .refl _, rfl, rfl⟩
  · have hbad := parse_app_bad t hst h0
    have hps := hbad
    rw [show (parseL (s ++ t)).2 = (parseL s).2 from hbad]
    rcases h0 with h0 | h0
    · rw [show ((parseL s).2.2 == 2) = true from by rw [h0]; rfl]
      conv => whnf
      rw [beq_self_eq_true]
      conv => whnf
      rw [beq_self_eq_true]
      conv => whnf
      exact ⟨_, .refl _, rfl, rfl⟩
    · rw [show ((parseL s).2.2 == 2) = false from by rw [h0]; rfl]
      conv => whnf
      rw [show ((parseL s).2.2 == 4) = true from by rw [h0]; rfl]
      conv => whnf
      rw [beq_self_eq_true]
      conv => whnf
      rw [beq_self_eq_true]
      conv => whnf
      exact ⟨_, .refl _, rfl, rfl⟩
theorem sizes_spec (l : List Tlv.It) (x : Tlv.It) : PSpec Tryd.prog 7 [.d (slT 2 encI l), iA x] (· = tvb true) := by
  refine PSpec.run (tysOk) followsB Tryd.func7 (by decide) rfl Tryd.ntmps7 (Nat.le_of_ble_eq_true rfl) rfl fun w0 R0 => ?_
  conv => whnf
  refine ⟨_, shown_spec, ?_⟩
  rintro q rfl
  conv => whnf
  refine ⟨_, small_spec l, ?_⟩
  rintro q rfl
  conv => whnf
  cases hs : smallL l
  · conv => whnf
    exact ⟨_, .refl _, rfl, rfl⟩
  obtain ⟨h1, h2⟩ := small_len hs
  conv => whnf
  split <;> rename_i g1
  · conv => whnf
    exact ⟨_, .refl _, rfl, rfl⟩
  replace g1 := of_decide_eq_false g1
  try simp only [Int.toNat_natCast] at g1
  conv => whnf
  refine ALoop.introR tysOk followsB (fun k : {k // k ≤ l.length} => ([(0, .d (slT 2 encI l)), (3, .ptr 3 0), (7, tvi (Tlv.bytes (l.take k.1)).length), (8, tvi k.1)], [(3, .box [tvi x.ty, tvs x.v])])) (fun k => l.length - k.1) ⟨0, by omega⟩ ?_ ?_
  · exact ⟨.refl _, .refl _, .refl _, .refl _, OLe.refl _, trivial⟩
  rintro ⟨k, hk⟩
  dsimp only
  have hbl : (Tlv.bytes (l.take k)).length ≤ 2010 * k := bytes_small l h2 k hk
  conv => whnf
  split <;> rename_i g2
  · have hlt : k < l.length := by simpa using g2
    have hv : (l.getD k default).v.length ≤ 2000 := by
      rw [List.getD_eq_getElem?_getD, List.getElem?_eq_getElem hlt]
      exact h2 _ (List.getElem_mem hlt)
    have hv' : (l.getD (Int.toNat k) default).v.length ≤ 2000 := hv
    conv => whnf
    repeat (refine ⟨by first | decide | omega, ?_⟩; conv => whnf)
    refine ⟨_, pad_spec (l.getD (Int.toNat k) default).v.length (by omega), ?_⟩
    conv => whnf
    have hpd := padN_lt (l.getD (Int.toNat k) default).v.length
    repeat (refine ⟨by first | decide | omega, ?_⟩; conv => whnf)
    refine ⟨by kernel_rfl, ?_⟩
    conv => whnf
    refine ⟨by first | omega | (simp only [Int.toNat_natCast]; omega) | (simp; done) | (simp; omega), ?_⟩
    conv => whnf
    refine ⟨⟨k + 1, by omega⟩, [], by dsimp only; omega, .refl _, .refl _, .of_eq ?_, .refl _, OLe.refl _, trivial⟩
    dsimp only
    rw [bytes_take l k hlt, List.length_append, enc_length, pad4]
    congr 2
    show ((Tlv.bytes (l.take k)).length : Int) + 4 + ((l.getD k default).v.length : Int) + ((padN (l.getD k default).v.length : Nat) : Int) = (((Tlv.bytes (l.take k)).length + ((l.getD k default).v.length + 4 + padN (l.getD k default).v.length) : Nat) : Int)
    omega
  have hlt : ¬ k < l.length := by simpa using g2
  obtain rfl : k = l.length := by omega
  rw [List.take_length]
  conv => whnf
  have hbs := build_spec l (by omega)
  have hfl := find_spec l x.ty (by omega)
  have hfb := find_spec (l ++ [x]) x.ty (by rw [List.length_append]; show _ + 1 ≤ _; omega)
  have hff := find_spec (x :: l) x.ty (by rw [List.length_cons]; omega)
  rw [find_front] at hff
  rw [find_back] at hfb
  have hfi : (findL l x.ty).2 = true ∨ (findL l x.ty).2 = false := by
    cases (findL l x.ty).2
    · exact .inr rfl
    · exact .inl rfl
  rcases build_cases l with e | ⟨e, he⟩ | ⟨e, he, _⟩
  · rw [e] at hbs
    refine ⟨_, hbs, ?_⟩
    rintro q rfl
    conv => whnf
    rcases hfi with hfi | hfi
    · rw [hfi] at hfb hfl
      rw [if_pos rfl, hfi] at hfb
      refine ⟨_, hfl, ?_⟩
      rintro q rfl
      conv => whnf
      refine ⟨⟨by omega, by omega, by simp only [ty42]; omega⟩, ?_⟩
      conv => whnf
      conv => whnf
      refine ⟨⟨⟨rfl, by omega, by simp only [ty42]; omega⟩, by omega⟩, ?_⟩
      conv => whnf
      conv => whnf
      refine ⟨by first | omega | (simp only [Int.toNat_natCast]; omega) | (simp; done) | (simp; omega), ?_⟩
      conv => whnf
      refine ⟨_, hfb.argsC (args' := [.d (.sl 2 (0 + l.length + 1) (fcat (fcat (fun k => (replF 0 ty42.zero).getD k []) 0 fun k => encI (l.getD k default)) (0 + l.length) fun k => ([D.i .i64 x.ty, D.s x.v] :: replF 0 ty42.zero).getD k [])), tvi x.ty]) ⟨.sl (by simp) (fun j hj => fcat_back x l j (by omega)), .refl _, trivial⟩, ?_⟩
      conv => whnf
      refine ⟨by kernel_rfl, ?_⟩
      conv => whnf
      refine ⟨⟨by omega, by omega, by simp only [ty42]; omega⟩, ?_⟩
      conv => whnf
      conv => whnf
      refine ⟨by first | omega | (simp only [Int.toNat_natCast]; omega) | (simp; done) | (simp; omega), ?_⟩
      conv => whnf
      refine ⟨_, hff.argsC (args' := [.d (.sl 2 (1 + l.length) (fcat (fun k => ([D.i .i64 x.ty, D.s x.v] :: replF 0 ty42.zero).getD k []) 1 fun k => encI (l.getD k default))), tvi x.ty]) ⟨.sl (by simp; omega) (fun j hj => fcat_front x l j), .refl _, trivial⟩, ?_⟩
      conv => whnf
      refine ⟨by kernel_rfl, ?_⟩
      conv => whnf
      rw [beq_self_eq_true]
      conv => whnf
      rw [beq_self_eq_true]
      conv => whnf
      exact ⟨_, .refl _, rfl, rfl⟩
    · rw [hfi] at hfb hfl
      rw [if_neg (by decide)] at hfb
      refine ⟨_, hfl, ?_⟩
      rintro q rfl
      conv => whnf
      refine ⟨⟨by omega, by omega, by simp only [ty42]; omega⟩, ?_⟩
      conv => whnf
      conv => whnf
      refine ⟨⟨⟨rfl, by omega, by simp only [ty42]; omega⟩, by omega⟩, ?_⟩
      conv => whnf
      conv => whnf
      refine ⟨by first | omega | (simp only [Int.toNat_natCast]; omega) | (simp; done) | (simp; omega), ?_⟩
      conv => whnf
      refine ⟨_, hfb.argsC (args' := [.d (.sl 2 (0 + l.length + 1) (fcat (fcat (fun k => (replF 0 ty42.zero).getD k []) 0 fun k => encI (l.getD k default)) (0 + l.length) fun k => ([D.i .i64 x.ty, D.s x.v] :: replF 0 ty42.zero).getD k [])), tvi x.ty]) ⟨.sl (by simp) (fun j hj => fcat_back x l j (by omega)), .refl _, trivial⟩, ?_⟩
      conv => whnf
      refine ⟨by kernel_rfl, ?_⟩
      conv => whnf
      refine ⟨⟨by omega, by omega, by simp only [ty42]; omega⟩, ?_⟩
      conv => whnf
      conv => whnf
      refine ⟨by first | omega | (simp only [Int.toNat_natCast]; omega) | (simp; done) | (simp; omega), ?_⟩
      conv => whnf
      refine ⟨_, hff.argsC (args' := [.d (.sl 2 (1 + l.length) (fcat (fun k => ([D.i .i64 x.ty, D.s x.v] :: replF 0 ty42.zero).getD k []) 1 fun k => encI (l.getD k default))), tvi x.ty]) ⟨.sl (by simp; omega) (fun j hj => fcat_front x l j), .refl _, trivial⟩, ?_⟩
      conv => whnf
      refine ⟨by kernel_rfl, ?_⟩
      conv => whnf
      rw [beq_self_eq_true]
      conv => whnf
      exact ⟨_, .refl _, by rw [beq_self_eq_true], rfl⟩
  · rw [e] at hbs
    refine ⟨_, hbs, ?_⟩
    rintro q rfl
    conv => whnf
    by_cases hn : (Tlv.bytes l).length ≤ 4000
    · have hlong : l.any longV = true := by
        rcases he with h | h
        · omega
        · exact h
      have := largest_long hlong
      rw [show decide (((Tlv.bytes l).length : Int) ≤ 4000) = true from decide_eq_true (by omega)]
      conv => whnf
      refine ⟨_, largest_spec l (by omega), ?_⟩
      rintro q rfl
      conv => whnf
      rw [show decide ((largestL l : Int) ≤ 1400) = false from decide_eq_false (by omega)]
      conv => whnf
      rcases hfi with hfi | hfi
      · rw [hfi] at hfb hfl
        rw [if_pos rfl, hfi] at hfb
        refine ⟨_, hfl, ?_⟩
        rintro q rfl
        conv => whnf
        refine ⟨⟨by omega, by omega, by simp only [ty42]; omega⟩, ?_⟩
        conv => whnf
        conv => whnf
        refine ⟨⟨⟨rfl, by omega, by simp only [ty42]; omega⟩, by omega⟩, ?_⟩
        conv => whnf
        conv => whnf
        refine ⟨by first | omega | (simp only [Int.toNat_natCast]; omega) | (simp; done) | (simp; omega), ?_⟩
        conv => whnf
        refine ⟨_, hfb.argsC (args' := [.d (.sl 2 (0 + l.length + 1) (fcat (fcat (fun k => (replF 0 ty42.zero).getD k []) 0 fun k => encI (l.getD k default)) (0 + l.length) fun k => ([D.i .i64 x.ty, D.s x.v] :: replF 0 ty42.zero).getD k [])), tvi x.ty]) ⟨.sl (by simp) (fun j hj => fcat_back x l j (by omega)), .refl _, trivial⟩, ?_⟩
        conv => whnf
        refine ⟨by kernel_rfl, ?_⟩
        conv => whnf
        refine ⟨⟨by omega, by omega, by simp only [ty42]; omega⟩, ?_⟩
        conv => whnf
        conv => whnf
        refine ⟨by first | omega | (simp only [Int.toNat_natCast]; omega) | (simp; done) | (simp; omega), ?_⟩
        conv => whnf
        refine ⟨_, hff.argsC (args' := [.d (.sl 2 (1 + l.length) (fcat (fun k => ([D.i .i64 x.ty, D.s x.v] :: replF 0 ty42.zero).getD k []) 1 fun k => encI (l.getD k default))), tvi x.ty]) ⟨.sl (by simp; omega) (fun j hj => fcat_front x l j), .refl _, trivial⟩, ?_⟩
        conv => whnf
        refine ⟨by kernel_rfl, ?_⟩
        conv => whnf
        rw [beq_self_eq_true]
        conv => whnf
        rw [beq_self_eq_true]
        conv => whnf
        exact ⟨_, .refl _, rfl, rfl⟩
      · rw [hfi] at hfb hfl
        rw [if_neg (by decide)] at hfb
        refine ⟨_, hfl, ?_⟩
        rintro q rfl
        conv => whnf
        refine ⟨⟨by omega, by omega, by simp only [ty42]; omega⟩, ?_⟩
        conv => whnf
        conv => whnf
        refine ⟨⟨⟨rfl, by omega, by simp only [ty42]; omega⟩, by omega⟩, ?_⟩
        conv => whnf
        conv => whnf
        refine ⟨by first | omega | (simp only [Int.toNat_natCast]; omega) | (simp; done) | (simp; omega), ?_⟩
        conv => whnf
        refine ⟨_, hfb.argsC (args' := [.d (.sl 2 (0 + l.length + 1) (fcat (fcat (fun k => (replF 0 ty42.zero).getD k []) 0 fun k => encI (l.getD k default)) (0 + l.length) fun k => ([D.i .i64 x.ty, D.s x.v] :: replF 0 ty42.zero).getD k [])), tvi x.ty]) ⟨.sl (by simp) (fun j hj => fcat_back x l j (by omega)), .refl _, trivial⟩, ?_⟩
        conv => whnf
        refine ⟨by kernel_rfl, ?_⟩
        conv => whnf
        refine ⟨⟨by omega, by omega, by simp only [ty42]; omega⟩, ?_⟩
        conv => whnf
        conv => whnf
        refine ⟨by first | omega | (simp only [Int.toNat_natCast]; omega) | (simp; done) | (simp; omega), ?_⟩
        conv => whnf
        refine ⟨_, hff.argsC (args' := [.d (.sl 2 (1 + l.length) (fcat (fun k => ([D.i .i64 x.ty, D.s x.v] :: replF 0 ty42.zero).getD k []) 1 fun k => encI (l.getD k default))), tvi x.ty]) ⟨.sl (by simp; omega) (fun j hj => fcat_front x l j), .refl _, trivial⟩, ?_⟩
        conv => whnf
        refine ⟨by kernel_rfl, ?_⟩
        conv => whnf
        rw [beq_self_eq_true]
        conv => whnf
        exact ⟨_, .refl _, by rw [beq_self_eq_true], rfl⟩
    · rw [show decide (((Tlv.bytes l).length : Int) ≤ 4000) = false from decide_eq_false (by omega)]
      conv => whnf
      rcases hfi with hfi | hfi
      · rw [hfi] at hfb hfl
        rw [if_pos rfl, hfi] at hfb
        refine ⟨_, hfl, ?_⟩
        rintro q rfl
        conv => whnf
        refine ⟨⟨by omega, by omega, by simp only [ty42]; omega⟩, ?_⟩
        conv => whnf
        conv => whnf
        refine ⟨⟨⟨rfl, by omega, by simp only [ty42]; omega⟩, by omega⟩, ?_⟩
        conv => whnf
        conv => whnf
        refine ⟨by first | omega | (simp only [Int.toNat_natCast]; omega) | (simp; done) | (simp; omega), ?_⟩
        conv => whnf
        refine ⟨_, hfb.argsC (args' := [.d (.sl 2 (0 + l.length + 1) (fcat (fcat (fun k => (replF 0 ty42.zero).getD k []) 0 fun k => encI (l.getD k default)) (0 + l.length) fun k => ([D.i .i64 x.ty, D.s x.v] :: replF 0 ty42.zero).getD k [])), tvi x.ty]) ⟨.sl (by simp) (fun j hj => fcat_back x l j (by omega)), .refl _, trivial⟩, ?_⟩
        conv => whnf
        refine ⟨by kernel_rfl, ?_⟩
        conv => whnf
        refine ⟨⟨by omega, by omega, by simp only [ty42]; omega⟩, ?_⟩
        conv => whnf
        conv => whnf
        refine ⟨by first | omega | (simp only [Int.toNat_natCast]; omega) | (simp; done) | (simp; omega), ?_⟩
        conv => whnf
        refine ⟨_, hff.argsC (args' := [.d (.sl 2 (1 + l.length) (fcat (fun k => ([D.i .i64 x.ty, D.s x.v] :: replF 0 ty42.zero).getD k []) 1 fun k => encI (l.getD k default))), tvi x.ty]) ⟨.sl (by simp; omega) (fun j hj => fcat_front x l j), .refl _, trivial⟩, ?_⟩
        conv => whnf
        refine ⟨by kernel_rfl, ?_⟩
        conv => whnf
        rw [beq_self_eq_true]
        conv => whnf
        rw [beq_self_eq_true]
        conv => whnf
        exact ⟨_, .refl _, rfl, rfl⟩
      · rw [hfi] at hfb hfl
        rw [if_neg (by decide)] at hfb
        refine ⟨_, hfl, ?_⟩
        rintro q rfl
        conv => whnf
        refine ⟨⟨by omega, by omega, by simp only [ty42]; omega⟩, ?_⟩
        conv => whnf
        conv => whnf
        refine ⟨⟨⟨rfl, by omega, by simp only [ty42]; omega⟩, by omega⟩, ?_⟩
        conv => whnf
        conv => whnf
        refine ⟨by first | omega | (simp only [Int.toNat_natCast]; omega) | (simp; done) | (simp; omega), ?_⟩
        conv => whnf
        refine ⟨_, hfb.argsC (args' := [.d (.sl 2 (0 + l.length + 1) (fcat (fcat (fun k => (replF 0 ty42.zero).getD k []) 0 fun k => encI (l.getD k default)) (0 + l.length) fun k => ([D.i .i64 x.ty, D.s x.v] :: replF 0 ty42.zero).getD k [])), tvi x.ty]) ⟨.sl (by simp) (fun j hj => fcat_back x l j (by omega)), .refl _, trivial⟩, ?_⟩
        conv => whnf
        refine ⟨by kernel_rfl, ?_⟩
        conv => whnf
        refine ⟨⟨by omega, by omega, by simp only [ty42]; omega⟩, ?_⟩
        conv => whnf
        conv => whnf
        refine ⟨by first | omega | (simp only [Int.toNat_natCast]; omega) | (simp; done) | (simp; omega), ?_⟩
        conv => whnf
        refine ⟨_, hff.argsC (args' := [.d (.sl 2 (1 + l.length) (fcat (fun k => ([D.i .i64 x.ty, D.s x.v] :: replF 0 ty42.zero).getD k []) 1 fun k => encI (l.getD k default))), tvi x.ty]) ⟨.sl (by simp; omega) (fun j hj => fcat_front x l j), .refl _, trivial⟩, ?_⟩
        conv => whnf
        refine ⟨by kernel_rfl, ?_⟩
        conv => whnf
        rw [beq_self_eq_true]
        conv => whnf
        exact ⟨_, .refl _, by rw [beq_self_eq_true], rfl⟩
  · rw [e] at hbs
    refine ⟨_, hbs, ?_⟩
    rintro q rfl
    conv => whnf
    rw [bne_self_eq_false]
    conv => whnf
    rcases hfi with hfi | hfi
    · rw [hfi] at hfb hfl
      rw [if_pos rfl, hfi] at hfb
      refine ⟨_, hfl, ?_⟩
      rintro q rfl
      conv => whnf
      refine ⟨⟨by omega, by omega, by simp only [ty42]; omega⟩, ?_⟩
      conv => whnf
      conv => whnf
      refine ⟨⟨⟨rfl, by omega, by simp only [ty42]; omega⟩, by omega⟩, ?_⟩
      conv => whnf
      conv => whnf
      refine ⟨by first | omega | (simp only [Int.toNat_natCast]; omega) | (simp; done) | (simp; omega), ?_⟩
      conv => whnf
      refine ⟨_, hfb.argsC (args' := [.d (.sl 2 (0 + l.length + 1) (fcat (fcat (fun k => (replF 0 ty42.zero).getD k []) 0 fun k => encI (l.getD k default)) (0 + l.length) fun k => ([D.i .i64 x.ty, D.s x.v] :: replF 0 ty42.zero).getD k [])), tvi x.ty]) ⟨.sl (by simp) (fun j hj => fcat_back x l j (by omega)), .refl _, trivial⟩, ?_⟩
      conv => whnf
      refine ⟨by kernel_rfl, ?_⟩
      conv => whnf
      refine ⟨⟨by omega, by omega, by simp only [ty42]; omega⟩, ?_⟩
      conv => whnf
      conv => whnf
      refine ⟨by first | omega | (simp only [Int.toNat_natCast]; omega) | (simp; done) | (simp; omega), ?_⟩
      conv => whnf
      refine ⟨_, hff.argsC (args' := [.d (.sl 2 (1 + l.length) (fcat (fun k => ([D.i .i64 x.ty, D.s x.v] :: replF 0 ty42.zero).getD k []) 1 fun k => encI (l.getD k default))), tvi x.ty]) ⟨.sl (by simp; omega) (fun j hj => fcat_front x l j), .refl _, trivial⟩, ?_⟩
      conv => whnf
      refine ⟨by kernel_rfl, ?_⟩
      conv => whnf
      rw [beq_self_eq_true]
      conv => whnf
      rw [beq_self_eq_true]
      conv => whnf
      exact ⟨_, .refl _, rfl, rfl⟩
    · rw [hfi] at hfb hfl
      rw [if_neg (by decide)] at hfb
      refine ⟨_, hfl, ?_⟩
      rintro q rfl
      conv => whnf
      refine ⟨⟨by omega, by omega, by simp only [ty42]; omega⟩, ?_⟩
      conv => whnf
      conv => whnf
      refine ⟨⟨⟨rfl, by omega, by simp only [ty42]; omega⟩, by omega⟩, ?_⟩
      conv => whnf
      conv => whnf
      refine ⟨by first | omega | (simp only [Int.toNat_natCast]; omega) | (simp; done) | (simp; omega), ?_⟩
      conv => whnf
      refine ⟨_, hfb.argsC (args' := [.d (.sl 2 (0 + l.length + 1) (fcat (fcat (fun k => (replF 0 ty42.zero).getD k []) 0 fun k => encI (l.getD k default)) (0 + l.length) fun k => ([D.i .i64 x.ty, D.s x.v] :: replF 0 ty42.zero).getD k [])), tvi x.ty]) ⟨.sl (by simp) (fun j hj => fcat_back x l j (by omega)), .refl _, trivial⟩, ?_⟩
      conv => whnf
      refine ⟨by kernel_rfl, ?_⟩
      conv => whnf
      refine ⟨⟨by omega, by omega, by simp only [ty42]; omega⟩, ?_⟩
      conv => whnf
      conv => whnf
      refine ⟨by first | omega | (simp only [Int.toNat_natCast]; omega) | (simp; done) | (simp; omega), ?_⟩
      conv => whnf
      refine ⟨_, hff.argsC (args' := [.d (.sl 2 (1 + l.length) (fcat (fun k => ([D.i .i64 x.ty, D.s x.v] :: replF 0 ty42.zero).getD k []) 1 fun k => encI (l.getD k default))), tvi x.ty]) ⟨.sl (by simp; omega) (fun j hj => fcat_front x l j), .refl _, trivial⟩, ?_⟩
      conv => whnf
      refine ⟨by kernel_rfl, ?_⟩
      conv => whnf
      rw [beq_self_eq_true]
      conv => whnf
      exact ⟨_, .refl _, by rw [beq_self_eq_true], rfl⟩
end Go.Proofs.YtbgimjkaecfjfaaDoor
