/- Chapter 7: what is built is read as what was handed in: plain laws. -/
import Derived.Test.YtcdondbegnbdgaaDoorChE
namespace Go.Proofs.YtcdondbegnbdgaaDoor
open Go Go.RowKit Towline Towline.Tlv Towline.Chunk
set_option linter.unusedVariables false
set_option linter.unusedSimpArgs false
theorem preB_app (s : List UInt8) (c : Ch) : preB s c = s ++ preB [] c := by
  unfold preB
  split
  · simp only [List.append_assoc, List.nil_append]
  · split
    · simp only [List.append_assoc, List.nil_append]
    · split
      · simp only [List.append_assoc, List.nil_append]
      · split
        · simp only [List.nil_append]
        · simp only [List.append_nil]
theorem valB_app (s : List UInt8) (c : Ch) : valB s c = s ++ valB [] c := by
  unfold valB
  rw [preB_app s c]
  simp only [List.append_assoc]
theorem cut_nil : cutB ([] : List Tlv.It) = [] := rfl
theorem good_parts {c : Ch} (h : goodC c = true) : (buildL c.items).2 = 0 ∧ fitsB c = true ∧ c = onlyC c := by
  simp only [goodC, Bool.and_eq_true, beq_iff_eq, decide_eq_true_eq] at h
  exact ⟨h.1.1, h.1.2, h.2⟩
theorem ext_ch {a b : Ch} (h : a = b) (r : Rr) : (a, r) = (b, r) := by rw [h]
theorem items_cut {l : List Tlv.It} (h : (buildL l).2 = 0) : itemsR (cutB l, false) = (l, ([], false)) := by
  unfold itemsR
  rw [show parseL (cutB l, false).1 = (l, 0, 0) from parse_cut h]
  rfl
theorem read_val {c : Ch} (h : goodC c = true) (hr : ChR c) : readR (mkC c.ty c.flags) (valB [] c, false) = (c, ([], false)) := by
  obtain ⟨hb, hfit, ho⟩ := good_parts h
  have hic := items_cut hb
  by_cases h0 : c.ty = 0
  · rw [only_0 h0] at ho
    have hi : c.items = [] := congrArg Ch.items ho
    have hv : valB [] c = be4 c.tsn ++ (be2 c.stream ++ (be2 c.ssn ++ (be4 c.ppid ++ c.text))) := by
      unfold valB preB
      rw [if_pos h0, hi, cut_nil]
      simp only [List.append_assoc, List.nil_append]
    unfold readR mkC
    dsimp only
    rw [if_pos h0, hv]
    simp only [tk_be4 hr.tsn, tk_be2 hr.stream, tk_be2 hr.ssn, tk_be4 hr.ppid]
    exact ext_ch ho.symm _
  by_cases h1 : c.ty = 1 ∨ c.ty = 2
  · have ho : c = ⟨c.ty, 0, c.tsn, c.tag, c.window, 0, 0, 0, c.outs, c.ins, [], [], c.items, []⟩ := by
      rcases h1 with h1 | h1
      · rw [only_1 h1] at ho; exact ho
      · rw [only_2 h1] at ho; exact ho
    have ht : c.text = [] := congrArg Ch.text ho
    have hf : c.flags = 0 := congrArg Ch.flags ho
    have hv : valB [] c = be4 c.tag ++ (be4 c.window ++ (be2 c.outs ++ (be2 c.ins ++ (be4 c.tsn ++ cutB c.items)))) := by
      unfold valB preB
      rw [if_neg h0, if_pos h1, ht]
      simp only [List.append_assoc, List.nil_append, List.append_nil]
    unfold readR mkC
    dsimp only
    rw [if_neg h0, if_pos h1, hv]
    simp only [tk_be4 hr.tag, tk_be4 hr.window, tk_be2 hr.outs, tk_be2 hr.ins, tk_be4 hr.tsn, hic]
    refine ext_ch ?_ _
    rw [hf]
    exact ho.symm
  by_cases h3 : c.ty = 3
  · rw [only_3 h3] at ho
    have hi : c.items = [] := congrArg Ch.items ho
    have ht : c.text = [] := congrArg Ch.text ho
    have hf : c.flags = 0 := congrArg Ch.flags ho
    obtain ⟨z1, z2, z3⟩ := good_sizes c hfit (good_parts h).2.2
    have hv : valB [] c = be4 c.tsn ++ (be4 c.window ++ (be2 c.gaps.length ++ (be2 c.dups.length ++ (c.gaps.flatMap gapB ++ (c.dups.flatMap be4 ++ []))))) := by
      unfold valB preB
      rw [if_neg h0, if_neg h1, if_pos h3, hi, ht, cut_nil]
      simp only [List.append_assoc, List.nil_append, List.append_nil]
    unfold readR mkC
    dsimp only
    rw [if_neg h0, if_neg h1, if_pos h3, hv]
    unfold sackR
    dsimp only
    have g1 : in16 (c.gaps.length : Int) := ⟨by omega, by omega⟩
    have g2 : in16 (c.dups.length : Int) := ⟨by omega, by omega⟩
    simp only [tk_be4 hr.tsn, tk_be4 hr.window, tk_be2 g1, tk_be2 g2, Int.toNat_natCast, rows_gaps c.gaps hr.gaps, rows_dups c.dups hr.dups]
    refine ext_ch ?_ _
    rw [hf]
    exact ho.symm
  by_cases h4 : c.ty = 4 ∨ c.ty = 5 ∨ c.ty = 6 ∨ c.ty = 9
  · have h7 : ¬ c.ty = 7 := by omega
    have ht : c.text = [] := by
      rcases h4 with h4 | h4 | h4 | h4
      · rw [only_4 h4] at ho; exact congrArg Ch.text ho
      · rw [only_5 h4] at ho; exact congrArg Ch.text ho
      · rw [only_6 h4] at ho; exact congrArg Ch.text ho
      · rw [only_9 h4] at ho; exact congrArg Ch.text ho
    have hv : valB [] c = cutB c.items := by
      unfold valB preB
      rw [if_neg h0, if_neg h1, if_neg h3, if_neg h7, ht]
      simp only [List.nil_append, List.append_nil]
    unfold readR mkC
    dsimp only
    rw [if_neg h0, if_neg h1, if_neg h3, if_pos h4, hv]
    simp only [hic]
    refine ext_ch ?_ _
    rcases h4 with h4 | h4 | h4 | h4
    · rw [only_4 h4] at ho
      have hf : c.flags = 0 := congrArg Ch.flags ho
      rw [hf]; exact ho.symm
    · rw [only_5 h4] at ho
      have hf : c.flags = 0 := congrArg Ch.flags ho
      rw [hf]; exact ho.symm
    · rw [only_6 h4] at ho
      exact ho.symm
    · rw [only_9 h4] at ho
      have hf : c.flags = 0 := congrArg Ch.flags ho
      rw [hf]; exact ho.symm
  by_cases h7 : c.ty = 7
  · rw [only_7 h7] at ho
    have hi : c.items = [] := congrArg Ch.items ho
    have ht : c.text = [] := congrArg Ch.text ho
    have hf : c.flags = 0 := congrArg Ch.flags ho
    have hv : valB [] c = be4 c.tsn ++ [] := by
      unfold valB preB
      rw [if_neg h0, if_neg h1, if_neg h3, if_pos h7, hi, ht, cut_nil]
      simp only [List.append_assoc, List.nil_append, List.append_nil]
    unfold readR mkC
    dsimp only
    rw [if_neg h0, if_neg h1, if_neg h3, if_neg h4, if_pos h7, hv]
    simp only [tk_be4 hr.tsn]
    refine ext_ch ?_ _
    rw [hf]
    exact ho.symm
  have key : c = ⟨c.ty, c.flags, 0, 0, 0, 0, 0, 0, 0, 0, [], [], [], c.text⟩ := by
    by_cases h8 : c.ty = 8
    · rw [only_8 h8] at ho
      have hf : c.flags = 0 := congrArg Ch.flags ho
      have ht : c.text = [] := congrArg Ch.text ho
      rw [hf, ht]; exact ho
    by_cases h11 : c.ty = 11
    · rw [only_11 h11] at ho
      have hf : c.flags = 0 := congrArg Ch.flags ho
      have ht : c.text = [] := congrArg Ch.text ho
      rw [hf, ht]; exact ho
    by_cases h10 : c.ty = 10
    · rw [only_10 h10] at ho
      have hf : c.flags = 0 := congrArg Ch.flags ho
      rw [hf]; exact ho
    by_cases h14 : c.ty = 14
    · rw [only_14 h14] at ho
      have ht : c.text = [] := congrArg Ch.text ho
      rw [ht]; exact ho
    rw [only_other h0 (by omega) (by omega) h3 (by omega) (by omega) (by omega) (by omega) h7 h8 h11 h10 h14] at ho
    exact ho
  have hi : c.items = [] := congrArg Ch.items key
  have hv : valB [] c = c.text := by
    unfold valB preB
    rw [if_neg h0, if_neg h1, if_neg h3, if_neg h7, hi, cut_nil]
    simp only [List.nil_append]
  unfold readR mkC
  dsimp only
  rw [if_neg h0, if_neg h1, if_neg h3, if_neg h4, if_neg h7, hv]
  exact ext_ch key.symm _
/-- The head of a chunk that is right is two bytes. -/
theorem good_head {c : Ch} (h : goodC c = true) : (0 ≤ c.ty ∧ c.ty ≤ 255) ∧ 0 ≤ c.flags ∧ c.flags ≤ 255 := by
  obtain ⟨hb, hfit, ho⟩ := good_parts h
  by_cases h0 : c.ty = 0
  · simp [fitsB, h0] at hfit
    omega
  by_cases h1 : c.ty = 1
  · rw [only_1 h1] at ho
    have hf : c.flags = 0 := congrArg Ch.flags ho
    omega
  by_cases h2 : c.ty = 2
  · rw [only_2 h2] at ho
    have hf : c.flags = 0 := congrArg Ch.flags ho
    omega
  by_cases h3 : c.ty = 3
  · rw [only_3 h3] at ho
    have hf : c.flags = 0 := congrArg Ch.flags ho
    omega
  by_cases h4 : c.ty = 4
  · rw [only_4 h4] at ho
    have hf : c.flags = 0 := congrArg Ch.flags ho
    omega
  by_cases h5 : c.ty = 5
  · rw [only_5 h5] at ho
    have hf : c.flags = 0 := congrArg Ch.flags ho
    omega
  by_cases h9 : c.ty = 9
  · rw [only_9 h9] at ho
    have hf : c.flags = 0 := congrArg Ch.flags ho
    omega
  by_cases h7 : c.ty = 7
  · rw [only_7 h7] at ho
    have hf : c.flags = 0 := congrArg Ch.flags ho
    omega
  by_cases h8 : c.ty = 8
  · rw [only_8 h8] at ho
    have hf : c.flags = 0 := congrArg Ch.flags ho
    omega
  by_cases h11 : c.ty = 11
  · rw [only_11 h11] at ho
    have hf : c.flags = 0 := congrArg Ch.flags ho
    omega
  by_cases h10 : c.ty = 10
  · rw [only_10 h10] at ho
    have hf : c.flags = 0 := congrArg Ch.flags ho
    omega
  by_cases h6 : c.ty = 6
  · simp [fitsB, h6] at hfit
    omega
  by_cases h14 : c.ty = 14
  · simp [fitsB, h14] at hfit
    omega
  simp [fitsB, h0, h1, h2, h3, h4, h5, h9, h6, h7, h8, h11, h10, h14] at hfit
  omega
theorem build_good {c : Ch} (h : (buildC c).2 = 0) : goodC c = true ∧ (encC c).length ≤ 1400 ∧ buildC c = (encC c, 0) := by
  unfold buildC at h ⊢
  by_cases hg : goodC c = true
  · rw [if_pos hg] at h ⊢
    by_cases hl : 1400 < (encC c).length
    · rw [if_pos hl] at h; cases h
    · rw [if_neg hl]
      exact ⟨hg, by omega, rfl⟩
  · rw [if_neg hg] at h; cases h
theorem good_build {c : Ch} (h : goodC c = true) (hl : (encC c).length ≤ 1400) : buildC c = (encC c, 0) := by
  unfold buildC
  rw [if_pos h, if_neg (by omega)]
theorem build_bad {c : Ch} (h : (buildC c).2 ≠ 0) : (buildC c).1 = [] := by
  unfold buildC at h ⊢
  by_cases hg : goodC c = true
  · rw [if_pos hg] at h ⊢
    by_cases hl : 1400 < (encC c).length
    · rw [if_pos hl]
    · rw [if_neg hl] at h; exact absurd rfl h
  · rw [if_neg hg]
/-- A chunk's bytes. -/
theorem enc_parts (c : Ch) : encC c = u8 c.ty :: u8 c.flags :: u8 ((((valB [] c).length + 4 : Nat) : Int).fdiv 256) :: u8 (((valB [] c).length + 4 : Nat) : Int) :: (valB [] c ++ List.replicate (padN ((valB [] c).length + 4)) 0) ∧ (encC c).length = (valB [] c).length + 4 + padN ((valB [] c).length + 4) := by
  have hv : valB (headB c) c = headB c ++ valB [] c := valB_app _ _
  have hl : (valB (headB c) c).length = (valB [] c).length + 4 := by
    rw [hv, List.length_append]
    show 4 + _ = _
    omega
  refine ⟨?_, by rw [encC_len, hl]⟩
  unfold encC sealB
  rw [hl, hv]
  rfl
theorem parse_enc {c : Ch} (h : goodC c = true) (hr : ChR c) (hl : (encC c).length ≤ 1400) (t : List UInt8) : parseC (encC c ++ t) = (c, (encC c).length, 0) := by
  obtain ⟨he, hn⟩ := enc_parts c
  obtain ⟨⟨t1, t2⟩, f1, f2⟩ := good_head h
  obtain ⟨w, hw⟩ : ∃ w, w = valB [] c := ⟨_, rfl⟩
  rw [← hw] at he hn
  have hs : encC c ++ t = u8 c.ty :: u8 c.flags :: u8 (((w.length + 4 : Nat) : Int).fdiv 256) :: u8 ((w.length + 4 : Nat) : Int) :: ((w ++ List.replicate (padN (w.length + 4)) 0) ++ t) := by
    rw [he]
    rfl
  have hsl : (encC c ++ t).length = (encC c).length + t.length := List.length_append
  have hp := padN_lt (w.length + 4)
  have hb2 : b2 (encC c ++ t) 2 = w.length + 4 := by
    rw [hs]
    show (u8 (((w.length + 4 : Nat) : Int).fdiv 256)).toNat * 256 + (u8 ((w.length + 4 : Nat) : Int)).toNat = _
    rw [u8_two _ (by omega) (by omega)]
    omega
  have hend : endN (encC c ++ t) = (encC c).length := by unfold endN; rw [hb2]; omega
  have h0 : (((encC c ++ t).getD 0 0).toNat : Int) = c.ty := by
    rw [hs]
    show ((u8 c.ty).toNat : Int) = _
    rw [u8_nat]
    omega
  have h1 : (((encC c ++ t).getD 1 0).toNat : Int) = c.flags := by
    rw [hs]
    show ((u8 c.flags).toNat : Int) = _
    rw [u8_nat]
    omega
  have hwv : ((encC c ++ t).take (w.length + 4)).drop 4 = w := by
    rw [hs]
    show (List.take w.length ((w ++ List.replicate (padN (w.length + 4)) 0) ++ t)) = w
    rw [List.append_assoc]
    exact List.take_left' rfl
  have hrd : rdC (encC c ++ t) = (c, ([], false)) := by
    unfold rdC
    rw [hb2, hwv, h0, h1, hw]
    exact read_val h hr
  have hpad : ((encC c ++ t).take (endN (encC c ++ t))).drop (w.length + 4) = List.replicate (padN (w.length + 4)) 0 := by
    rw [hend, List.take_left' rfl, he]
    show List.drop w.length (w ++ List.replicate (padN (w.length + 4)) 0) = _
    exact List.drop_left' rfl
  have hok : okP (encC c ++ t) = true := by
    unfold okP
    rw [hrd, hb2, hpad, good_build h hl]
    simp
  unfold parseC
  rw [hb2, if_neg (by omega), if_neg (by omega), if_neg (by omega), if_neg (by omega), if_pos hok, hrd, hend]
/-- What is parsed. -/
theorem parse_ok {s : List UInt8} (h : (parseC s).2.2 = 0) : 4 ≤ b2 s 2 ∧ b2 s 2 ≤ s.length ∧ b2 s 2 ≤ 1400 ∧ parseC s = ((rdC s).1, endN s, 0) ∧ okP s = true := by
  unfold parseC at h ⊢
  by_cases h1 : s.length < 4
  · rw [if_pos h1] at h; cases h
  rw [if_neg h1] at h ⊢
  by_cases h2 : b2 s 2 < 4
  · rw [if_pos h2] at h; cases h
  rw [if_neg h2] at h ⊢
  by_cases h3 : s.length < b2 s 2
  · rw [if_pos h3] at h; cases h
  rw [if_neg h3] at h ⊢
  by_cases h4 : 1400 < b2 s 2
  · rw [if_pos h4] at h; cases h
  rw [if_neg h4] at h ⊢
  by_cases h5 : okP s = true
  · rw [if_pos h5] at h ⊢
    exact ⟨by omega, by omega, by omega, rfl, h5⟩
  · rw [if_neg h5] at h; cases h
theorem parse_err {s : List UInt8} (h : (parseC s).2.2 ≠ 0) : (parseC s).1 = nilC ∧ (parseC s).2.1 = 0 := by
  unfold parseC at h ⊢
  by_cases h1 : s.length < 4
  · rw [if_pos h1]; exact ⟨rfl, rfl⟩
  rw [if_neg h1] at h ⊢
  by_cases h2 : b2 s 2 < 4
  · rw [if_pos h2]; exact ⟨rfl, rfl⟩
  rw [if_neg h2] at h ⊢
  by_cases h3 : s.length < b2 s 2
  · rw [if_pos h3]; exact ⟨rfl, rfl⟩
  rw [if_neg h3] at h ⊢
  by_cases h4 : 1400 < b2 s 2
  · rw [if_pos h4]; exact ⟨rfl, rfl⟩
  rw [if_neg h4] at h ⊢
  by_cases h5 : okP s = true
  · rw [if_pos h5] at h; exact absurd rfl h
  · rw [if_neg h5]; exact ⟨rfl, rfl⟩
/-- What is parsed is right, and as many bytes as it says. -/
theorem parse_again {s : List UInt8} (h : (parseC s).2.2 = 0) : (buildC (parseC s).1).2 = 0 ∧ ChR (parseC s).1 ∧ ChOk (parseC s).1 ∧ (parseC s).1.items.length ≤ 4000 ∧ (parseC s).1.gaps.length ≤ 65535 ∧ (parseC s).1.dups.length ≤ 65535 := by
  obtain ⟨h1, h2, h3, h4, h5⟩ := parse_ok h
  rw [h4]
  simp only [okP, Bool.and_eq_true, beq_iff_eq] at h5
  obtain ⟨r1, r2, r3, r4⟩ := read_range (((s.getD 0 0).toNat : Nat) : Int) (((s.getD 1 0).toNat : Nat) : Int) ((s.take (b2 s 2)).drop 4, false)
  exact ⟨h5.2.2.1, r1, r1.ok (by show (rdC s).1.gaps.length ≤ _; exact Nat.le_trans r2 (by decide)) (Nat.le_trans r3 (by decide)) (Nat.le_trans r4 (by decide)), r4, r2, r3⟩
theorem parse_less {s : List UInt8} (h : (parseC s).2.2 = 0) : (parseC (s.take (b2 s 2 - 1))).2.2 = 3 := by
  obtain ⟨h1, h2, h3, h4, h5⟩ := parse_ok h
  have hl : (s.take (b2 s 2 - 1)).length = b2 s 2 - 1 := by rw [List.length_take]; omega
  unfold parseC
  by_cases h6 : b2 s 2 - 1 < 4
  · rw [if_pos (by omega)]
  · have e : b2 (s.take (b2 s 2 - 1)) 2 = b2 s 2 := by
      have hx : s.take (b2 s 2 - 1) ++ s.drop (b2 s 2 - 1) = s := List.take_append_drop _ _
      have := b2_app (s := s.take (b2 s 2 - 1)) (t := s.drop (b2 s 2 - 1)) (i := 2) (by omega)
      rw [hx] at this
      exact this.symm
    rw [e, if_neg (by omega), if_neg (by omega), if_pos (by omega)]
end Go.Proofs.YtcdondbegnbdgaaDoor
