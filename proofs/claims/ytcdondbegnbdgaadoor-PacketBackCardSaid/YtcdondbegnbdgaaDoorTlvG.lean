/- Chapter 6: laws of items and their bytes, in plain words. -/
import Derived.Test.YtcdondbegnbdgaaDoorTlvD
namespace Towline.Tlv
open Go
set_option linter.unusedVariables false
set_option linter.unusedSimpArgs false
def okIt (x : It) : Prop := 0 ≤ x.ty ∧ x.ty ≤ 65535 ∧ x.v.length ≤ 1400
theorem u8_nat (n : Int) : (u8 n).toNat = (n % 256).toNat := by
  have h1 : (n % 256).toNat < 256 := by omega
  unfold u8
  rw [UInt8.toNat_ofNat']
  exact Nat.mod_eq_of_lt h1
theorem u8_two (n : Int) (h0 : 0 ≤ n) (h : n ≤ 65535) : (u8 (n.fdiv 256)).toNat * 256 + (u8 n).toNat = n.toNat := by
  rw [u8_nat, u8_nat, Int.fdiv_eq_ediv_of_nonneg _ (by decide)]
  omega
theorem enc_length (x : It) : (enc x).length = x.v.length + 4 + padN (x.v.length + 4) := by
  simp only [enc, hdr, tailB, List.length_append, List.length_cons, List.length_nil, List.length_replicate]
  omega
theorem padN_lt (n : Nat) : padN n < 4 := Nat.mod_lt _ (by decide)
theorem padN_mod (n : Nat) : (n + padN n) % 4 = 0 := by unfold padN; omega
/-- What an item's bytes begin with is read as the item. -/
theorem first_enc (x : It) (h : okIt x) (t : List UInt8) : firstL (enc x ++ t) = (x, (enc x).length, 0) := by
  obtain ⟨h1, h2, h3⟩ := h
  have hb2 : b2 (enc x ++ t) 2 = x.v.length + 4 := by
    show (u8 (((x.v.length + 4 : Nat) : Int).fdiv 256)).toNat * 256 + (u8 ((x.v.length + 4 : Nat) : Int)).toNat = _
    rw [u8_two _ (by omega) (by omega)]
    omega
  have hb0 : (b2 (enc x ++ t) 0 : Int) = x.ty := by
    show (((u8 (x.ty.fdiv 256)).toNat * 256 + (u8 x.ty).toNat : Nat) : Int) = _
    rw [u8_two _ h1 h2]
    omega
  have hlen := enc_length x
  have hp := padN_lt (x.v.length + 4)
  have hl : (enc x ++ t).length = (enc x).length + t.length := List.length_append
  have hend : endN (enc x ++ t) = (enc x).length := by unfold endN; rw [hb2]; omega
  have hd1 : (enc x ++ t).take (x.v.length + 4) = hdr x ++ x.v := by
    have e : enc x ++ t = (hdr x ++ x.v) ++ (List.replicate (padN (x.v.length + 4)) 0 ++ t) := by
      simp only [enc, tailB, List.append_assoc]
    rw [e]
    exact List.take_left' (by simp [hdr])
  have hd2 : ((enc x ++ t).take (endN (enc x ++ t))).drop (x.v.length + 4) = List.replicate (padN (x.v.length + 4)) 0 := by
    rw [hend, List.take_left' rfl]
    have e : enc x = (hdr x ++ x.v) ++ List.replicate (padN (x.v.length + 4)) 0 := by
      simp only [enc, tailB, List.append_assoc]
    rw [e]
    exact List.drop_left' (by simp [hdr])
  unfold firstL
  rw [hb2, hd1, hd2, hend, if_neg (by omega), if_neg (by omega), if_neg (by omega), if_neg (by omega), if_neg (by simp), hb0]
  rfl
theorem first_cases (s : List UInt8) : (firstL s).2.2 = 0 ∨ firstL s = (⟨0, []⟩, 0, 2) ∨ firstL s = (⟨0, []⟩, 0, 3) ∨ firstL s = (⟨0, []⟩, 0, 4) := by
  unfold firstL
  repeat' split
  all_goals simp
/-- What is read as an item is an item, and has as many bytes. -/
theorem first_ok {s : List UInt8} (h : (firstL s).2.2 = 0) : okIt (firstL s).1 ∧ (firstL s).2.1 ≤ (enc (firstL s).1).length ∧ (enc (firstL s).1).length ≤ (firstL s).2.1 + 3 ∧ ((firstL s).2.1 < s.length → (enc (firstL s).1).length = (firstL s).2.1) := by
  unfold firstL at h ⊢
  split at h
  · cases h
  · split at h
    · cases h
    · split at h
      · cases h
      · split at h
        · cases h
        · split at h
          · cases h
          · rename_i h1 h2 h3 h4 h5
            rw [if_neg h1, if_neg h2, if_neg h3, if_neg h4, if_neg h5]
            have q0 := UInt8.toNat_lt (s.getD 0 0)
            have q1 := UInt8.toNat_lt (s.getD 1 0)
            have hb : b2 s 0 < 65536 := by
              show (s.getD 0 0).toNat * 256 + (s.getD 1 0).toNat < 65536
              omega
            have hl : ((s.take (b2 s 2)).drop 4).length = b2 s 2 - 4 := by
              rw [List.length_drop, List.length_take]
              omega
            have hp := padN_lt (b2 s 2)
            refine ⟨⟨by simp, by simp only; omega, by simp only; omega⟩, ?_⟩
            rw [enc_length]
            simp only [hl, endN]
            rw [show b2 s 2 - 4 + 4 = b2 s 2 from by omega]
            omega
theorem getD_app {s t : List UInt8} {i : Nat} (h : i < s.length) : (s ++ t).getD i 0 = s.getD i 0 := by
  rw [List.getD_eq_getElem?_getD, List.getD_eq_getElem?_getD, List.getElem?_append_left h]
theorem b2_app {s t : List UInt8} {i : Nat} (h : i + 1 < s.length) : b2 (s ++ t) i = b2 s i := by
  unfold b2
  rw [getD_app (by omega), getD_app h]
/-- What stands behind a whole item does not matter to it. -/
theorem first_app {s : List UInt8} (t : List UInt8) (h : (firstL s).2.2 = 0) (h0 : (firstL s).2.1 < s.length ∨ s.length % 4 = 0) : firstL (s ++ t) = firstL s := by
  have hl : (s ++ t).length = s.length + t.length := List.length_append
  unfold firstL at h h0 ⊢
  split at h
  · cases h
  · split at h
    · cases h
    · split at h
      · cases h
      · split at h
        · cases h
        · split at h
          · cases h
          · rename_i h1 h2 h3 h4 h5
            rw [if_neg h1, if_neg h2, if_neg h3, if_neg h4, if_neg h5] at h0
            have e2 : b2 (s ++ t) 2 = b2 s 2 := b2_app (by omega)
            have e0 : b2 (s ++ t) 0 = b2 s 0 := b2_app (by omega)
            have hp := padN_lt (b2 s 2)
            have hm := padN_mod (b2 s 2)
            have he : endN s = b2 s 2 + padN (b2 s 2) := by
              simp only [endN] at h0 ⊢
              omega
            have he2 : endN (s ++ t) = endN s := by
              rw [he]
              simp only [endN, e2]
              have : endN s ≤ s.length := by unfold endN; omega
              omega
            have hle : endN s ≤ s.length := by unfold endN; omega
            rw [e2, e0, he2, List.take_append_of_le_length hle, List.take_append_of_le_length (by omega)]
            rw [if_neg (by omega), if_neg h1, if_neg h2, if_neg h2, if_neg (by omega), if_neg h3]
/-- What is wrong stays wrong, but for what is short. -/
theorem first_app_bad {s : List UInt8} (t : List UInt8) (h : (firstL s).2.2 = 2 ∨ (firstL s).2.2 = 4) : firstL (s ++ t) = firstL s := by
  have hl : (s ++ t).length = s.length + t.length := List.length_append
  by_cases h1 : s.length < 4
  · unfold firstL at h
    rw [if_pos h1] at h
    rcases h with h | h <;> cases h
  have e2 : b2 (s ++ t) 2 = b2 s 2 := b2_app (by omega)
  have e0 : b2 (s ++ t) 0 = b2 s 0 := b2_app (by omega)
  unfold firstL at h ⊢
  rw [if_neg h1] at h ⊢
  rw [if_neg (by omega), e2, e0]
  by_cases h2 : b2 s 2 < 4
  · rw [if_pos h2, if_pos h2]
  rw [if_neg h2] at h ⊢
  rw [if_neg h2]
  by_cases h3 : s.length < b2 s 2
  · rw [if_pos h3] at h
    rcases h with h | h <;> cases h
  rw [if_neg h3] at h ⊢
  rw [if_neg (by omega)]
  by_cases h4 : 1404 < b2 s 2
  · rw [if_pos h4, if_pos h4]
  rw [if_neg h4] at h ⊢
  rw [if_neg h4]
  by_cases h5 : ((s.take (endN s)).drop (b2 s 2)).any (· != 0) = true
  · rw [if_pos h5, if_pos ?_]
    rw [List.any_eq_true] at h5 ⊢
    obtain ⟨x, hx, hx2⟩ := h5
    refine ⟨x, ?_, hx2⟩
    have hle : endN s ≤ endN (s ++ t) := by
      simp only [endN, e2]
      omega
    have hle2 : endN s ≤ s.length := by unfold endN; omega
    have e : s.take (endN s) = ((s ++ t).take (endN (s ++ t))).take (endN s) := by
      rw [List.take_take, Nat.min_eq_left hle, List.take_append_of_le_length hle2]
    rw [e, List.drop_take] at hx
    exact List.mem_of_mem_take hx
  · rw [if_neg h5] at h
    rcases h with h | h <;> cases h
theorem yl_all_len : ∀ {t : List UInt8} {p : Nat}, (yl t p).all okR = true → (∀ x ∈ (yl t p).map (·.x), okIt x) ∧ t.length ≤ (bytes ((yl t p).map (·.x))).length ∧ (bytes ((yl t p).map (·.x))).length ≤ t.length + 3 := by
  intro t
  induction hn : t.length using Nat.strongRecOn generalizing t with
  | _ n ih =>
    intro p h
    by_cases h0 : 0 < t.length
    · by_cases h2 : (firstL t).2.2 = 0
      · have h3 := firstL_pos h2
        have h4 := first_ok h2
        rw [yl_go h0 h2] at h ⊢
        rw [List.all_cons, Bool.and_eq_true] at h
        have hd : (t.drop (firstL t).2.1).length = t.length - (firstL t).2.1 := List.length_drop
        obtain ⟨i1, i2, i3⟩ := ih (t.drop (firstL t).2.1).length (by omega) rfl h.2
        rw [List.map_cons]
        have e : bytes ((firstL t).1 :: (yl (t.drop (firstL t).2.1) (p + (firstL t).2.1)).map (·.x)) = enc (firstL t).1 ++ bytes ((yl (t.drop (firstL t).2.1) (p + (firstL t).2.1)).map (·.x)) := rfl
        refine ⟨fun x hx => ?_, ?_⟩
        · rcases List.mem_cons.1 hx with rfl | hx
          · exact h4.1
          · exact i1 x hx
        · rw [e, List.length_append]
          by_cases h5 : (firstL t).2.1 < t.length
          · have := h4.2.2.2 h5
            omega
          · have e2 : yl (t.drop (firstL t).2.1) (p + (firstL t).2.1) = [] := yl_nil (by omega)
            rw [e2]
            simp only [List.map_nil, bytes, List.flatMap_nil, List.length_nil]
            omega
      · rw [yl_bad h0 h2] at h
        simp [okR, h2] at h
    · rw [yl_nil (by omega)]
      simp [bytes]
      omega
theorem yl_shift (q : Nat) : ∀ {t : List UInt8} {p : Nat}, yl t (p + q) = (yl t p).map (fun r => ⟨r.place + q, r.err, r.x⟩) := by
  intro t
  induction hn : t.length using Nat.strongRecOn generalizing t with
  | _ n ih =>
    intro p
    by_cases h0 : 0 < t.length
    · by_cases h2 : (firstL t).2.2 = 0
      · have h3 := firstL_pos h2
        rw [yl_go h0 h2, yl_go h0 h2, List.map_cons]
        have hd : (t.drop (firstL t).2.1).length = t.length - (firstL t).2.1 := List.length_drop
        rw [← ih (t.drop (firstL t).2.1).length (by omega) rfl]
        rw [show p + q + (firstL t).2.1 = p + (firstL t).2.1 + q from by omega]
      · rw [yl_bad h0 h2, yl_bad h0 h2]
        rfl
    · rw [yl_nil (by omega), yl_nil (by omega)]
      rfl
theorem yl_app (u : List UInt8) : ∀ {t : List UInt8} {p : Nat}, (yl t p).all okR = true → t.length % 4 = 0 → yl (t ++ u) p = yl t p ++ yl u (p + t.length) := by
  intro t
  induction hn : t.length using Nat.strongRecOn generalizing t with
  | _ n ih =>
    intro p h hm
    by_cases h0 : 0 < t.length
    · by_cases h2 : (firstL t).2.2 = 0
      · have h3 := firstL_pos h2
        have h4 := first_ok h2
        have e := first_app u h2 (.inr (by omega))
        rw [yl_go h0 h2] at h
        rw [List.all_cons, Bool.and_eq_true] at h
        have hd : (t.drop (firstL t).2.1).length = t.length - (firstL t).2.1 := List.length_drop
        have hpm : (firstL t).2.1 % 4 = 0 := by
          by_cases h5 : (firstL t).2.1 < t.length
          · rw [← h4.2.2.2 h5, enc_length]
            exact padN_mod _
          · rw [show (firstL t).2.1 = t.length from by omega]
            omega
        rw [yl_go (t := t ++ u) (by rw [List.length_append]; omega) (by rw [e]; exact h2), yl_go h0 h2, e, List.cons_append]
        rw [List.drop_append_of_le_length h3.2]
        rw [ih (t.drop (firstL t).2.1).length (by omega) rfl h.2 (by omega)]
        rw [show p + (firstL t).2.1 + (t.drop (firstL t).2.1).length = p + n from by omega]
      · rw [yl_bad h0 h2] at h
        simp [okR, h2] at h
    · have e : t = [] := List.eq_nil_of_length_eq_zero (by omega)
      subst e
      rw [yl_nil (t := []) rfl, List.nil_append, List.nil_append, ← hn]
      rfl
theorem yl_app_bad (u : List UInt8) : ∀ {t : List UInt8} {p : Nat}, (∃ r ∈ yl t p, r.err = 2 ∨ r.err = 4) → yl (t ++ u) p = yl t p := by
  intro t
  induction hn : t.length using Nat.strongRecOn generalizing t with
  | _ n ih =>
    intro p h
    by_cases h0 : 0 < t.length
    · by_cases h2 : (firstL t).2.2 = 0
      · have h3 := firstL_pos h2
        have hd : (t.drop (firstL t).2.1).length = t.length - (firstL t).2.1 := List.length_drop
        rw [yl_go h0 h2] at h
        obtain ⟨r, hr, hr2⟩ := h
        have hr : r ∈ yl (t.drop (firstL t).2.1) (p + (firstL t).2.1) := by
          rcases List.mem_cons.1 hr with rfl | hr
          · rcases hr2 with h | h <;> cases h
          · exact hr
        have h5 : (firstL t).2.1 < t.length := by
          refine Nat.lt_of_not_le fun hle => ?_
          rw [yl_nil (by omega)] at hr
          cases hr
        have e := first_app u h2 (.inl h5)
        rw [yl_go (t := t ++ u) (by rw [List.length_append]; omega) (by rw [e]; exact h2), yl_go h0 h2, e]
        rw [List.drop_append_of_le_length h3.2]
        rw [ih (t.drop (firstL t).2.1).length (by omega) rfl ⟨r, hr, hr2⟩]
      · rw [yl_bad h0 h2] at h
        obtain ⟨r, hr, hr2⟩ := h
        rw [List.mem_singleton] at hr
        subst hr
        have e := first_app_bad u hr2
        rw [yl_bad (t := t ++ u) (by rw [List.length_append]; omega) (by rw [e]; exact h2), yl_bad h0 h2, e]
    · rw [yl_nil (by omega)] at h
      obtain ⟨r, hr, _⟩ := h
      cases hr
/-- Rounds are right, or the last one, alone, is not. -/
theorem yl_last : ∀ {t : List UInt8} {p : Nat}, (yl t p).all okR = true ∨ (∃ pre r, yl t p = pre ++ [r] ∧ (r.err = 2 ∨ r.err = 3 ∨ r.err = 4)) := by
  intro t
  induction hn : t.length using Nat.strongRecOn generalizing t with
  | _ n ih =>
    intro p
    by_cases h0 : 0 < t.length
    · by_cases h2 : (firstL t).2.2 = 0
      · have h3 := firstL_pos h2
        have hd : (t.drop (firstL t).2.1).length = t.length - (firstL t).2.1 := List.length_drop
        rw [yl_go h0 h2]
        rcases ih (t.drop (firstL t).2.1).length (by omega) rfl (p := p + (firstL t).2.1) with h | ⟨pre, r, h, hr⟩
        · left
          rw [List.all_cons, h]
          rfl
        · right
          exact ⟨_ :: pre, r, by rw [h]; rfl, hr⟩
      · right
        rw [yl_bad h0 h2]
        refine ⟨[], _, rfl, ?_⟩
        rcases first_cases t with h | h | h | h
        · exact absurd h h2
        · simp [h]
        · simp [h]
        · simp [h]
    · left
      rw [yl_nil (by omega)]
      rfl
theorem yl_bytes : ∀ (l : List It) (h : ∀ x ∈ l, okIt x) (p : Nat), (yl (bytes l) p).map (·.x) = l ∧ (yl (bytes l) p).all okR = true
  | [], _, p => by
    rw [yl_nil rfl]
    exact ⟨rfl, rfl⟩
  | x :: l, h, p => by
    have e := first_enc x (h x (by simp)) (bytes l)
    have e2 : bytes (x :: l) = enc x ++ bytes l := rfl
    have hlen := enc_length x
    rw [e2, yl_go (by rw [List.length_append]; omega) (by rw [e])]
    rw [e]
    simp only
    rw [List.drop_left' rfl]
    obtain ⟨i1, i2⟩ := yl_bytes l (fun y hy => h y (by simp [hy])) (p + (enc x).length)
    exact ⟨by rw [List.map_cons, i1], by rw [List.all_cons, i2]; rfl⟩
theorem bytes_mod : ∀ (l : List It), (bytes l).length % 4 = 0
  | [] => rfl
  | x :: l => by
    have e2 : bytes (x :: l) = enc x ++ bytes l := rfl
    have := bytes_mod l
    have := padN_mod (x.v.length + 4)
    rw [e2, List.length_append, enc_length]
    omega
theorem build_cases (l : List It) : (buildL l = ([], 1)) ∨ (buildL l = ([], 4) ∧ (4000 < (bytes l).length ∨ l.any longV = true)) ∨ (buildL l = (bytes l, 0) ∧ (bytes l).length ≤ 4000 ∧ ∀ x ∈ l, okIt x) := by
  unfold buildL
  by_cases h1 : l.any badTy = true
  · exact .inl (by rw [if_pos h1])
  rw [if_neg h1]
  by_cases h2 : l.any longV = true
  · exact .inr (.inl ⟨by rw [if_pos h2], .inr h2⟩)
  rw [if_neg h2]
  by_cases h3 : 4000 < (bytes l).length
  · exact .inr (.inl ⟨by rw [if_pos h3], .inl h3⟩)
  rw [if_neg h3]
  refine .inr (.inr ⟨rfl, by omega, fun x hx => ?_⟩)
  rw [Bool.not_eq_true, List.any_eq_false] at h1 h2
  have a := h1 x hx
  have b := h2 x hx
  simp only [badTy, longV, Bool.or_eq_true, decide_eq_true_eq, not_or] at a b
  exact ⟨by omega, by omega, by omega⟩
theorem build_ok {l : List It} (h : ∀ x ∈ l, okIt x) : buildL l = if 4000 < (bytes l).length then ([], 4) else (bytes l, 0) := by
  unfold buildL
  rw [if_neg, if_neg]
  · rw [List.any_eq_true]
    rintro ⟨x, hx, hb⟩
    have := h x hx
    simp [longV] at hb
    have := this.2.2
    omega
  · rw [List.any_eq_true]
    rintro ⟨x, hx, hb⟩
    have := h x hx
    simp [badTy] at hb
    have k1 := this.1
    have k2 := this.2.1
    omega
/-- What is built is parsed as what was handed in. -/
theorem parse_build {l : List It} (h : (buildL l).2 = 0) : parseL (buildL l).1 = (l, 0, 0) ∧ (buildL l).1.length % 4 = 0 := by
  rcases build_cases l with e | ⟨e, _⟩ | ⟨e, hle, hok⟩
  · rw [e] at h; cases h
  · rw [e] at h; cases h
  · rw [e]
    refine ⟨?_, bytes_mod l⟩
    show parseL (bytes l) = _
    unfold parseL
    rw [if_neg (by omega)]
    obtain ⟨i1, i2⟩ := yl_bytes l hok 0
    unfold parseY
    rw [if_pos i2, i1]
theorem parse_cases (s : List UInt8) : (s.length ≤ 4000 ∧ (yl s 0).all okR = true ∧ parseL s = ((yl s 0).map (·.x), 0, 0)) ∨ (s.length ≤ 4000 ∧ ∃ pre r, yl s 0 = pre ++ [r] ∧ (r.err = 2 ∨ r.err = 3 ∨ r.err = 4) ∧ parseL s = ([], (r.place : Int), r.err)) ∨ (4000 < s.length ∧ parseL s = ([], 0, 4)) := by
  unfold parseL
  by_cases h : 4000 < s.length
  · exact .inr (.inr ⟨h, by rw [if_pos h]⟩)
  rw [if_neg h]
  rcases yl_last (t := s) (p := 0) with e | ⟨pre, r, e, hr⟩
  · exact .inl ⟨by omega, e, by unfold parseY; rw [if_pos e]⟩
  · refine .inr (.inl ⟨by omega, pre, r, e, hr, ?_⟩)
    have h1 : ¬ (yl s 0).all okR = true := by
      rw [e]
      simp only [List.all_append, List.all_cons, List.all_nil, Bool.and_true, Bool.and_eq_true, okR, beq_iff_eq]
      rintro ⟨_, h⟩
      omega
    unfold parseY
    rw [if_neg h1, e]
    simp [List.getLastD_eq_getLast?]
/-- What is parsed, built, is parsed as the same. -/
theorem build_parse {s : List UInt8} (h : (parseL s).2.2 = 0) :
    ((buildL (parseL s).1).2 = 4 ∧ 3997 < s.length) ∨ ((buildL (parseL s).1).2 = 0 ∧ parseL (buildL (parseL s).1).1 = ((parseL s).1, 0, 0) ∧ s.length ≤ (buildL (parseL s).1).1.length ∧ (buildL (parseL s).1).1.length ≤ s.length + 3) := by
  rcases parse_cases s with ⟨h1, h2, e⟩ | ⟨h1, pre, r, _, hr, e⟩ | ⟨_, e⟩
  · obtain ⟨k1, k2, k3⟩ := yl_all_len h2
    have e2 := build_ok k1
    by_cases h4 : 4000 < (bytes ((yl s 0).map (·.x))).length
    · left
      rw [e]
      simp only
      rw [e2, if_pos h4]
      exact ⟨rfl, by omega⟩
    · right
      have e3 : buildL (parseL s).1 = (bytes ((yl s 0).map (·.x)), 0) := by
        rw [e]
        simp only
        rw [e2, if_neg h4]
      have h5 := parse_build (l := (parseL s).1) (by rw [e3])
      refine ⟨by rw [e3], h5.1, ?_⟩
      rw [e3]
      exact ⟨k2, k3⟩
  · rw [e] at h
    simp only at h
    omega
  · rw [e] at h; cases h
theorem parse_nil {s : List UInt8} (h : (parseL s).2.2 ≠ 0) : (parseL s).1 = [] := by
  rcases parse_cases s with ⟨h1, h2, e⟩ | ⟨h1, pre, r, _, hr, e⟩ | ⟨_, e⟩
  · rw [e] at h; exact absurd rfl h
  · rw [e]
  · rw [e]
/-- Two rows, one behind the other. -/
theorem parse_app_bad {s : List UInt8} (t : List UInt8) (hs : (s ++ t).length ≤ 4000) (h : (parseL s).2.2 = 2 ∨ (parseL s).2.2 = 4) : (parseL (s ++ t)).2 = (parseL s).2 := by
  have hl : (s ++ t).length = s.length + t.length := List.length_append
  rcases parse_cases s with ⟨h1, h2, e⟩ | ⟨h1, pre, r, e1, hr, e⟩ | ⟨h1, e⟩
  · rw [e] at h
    rcases h with h | h <;> cases h
  · rw [e] at h
    simp only at h
    have e2 := yl_app_bad t (t := s) (p := 0) ⟨r, by rw [e1]; simp, h⟩
    unfold parseL
    rw [if_neg (by omega), if_neg (by omega), e2]
  · omega
theorem parse_app {s : List UInt8} (t : List UInt8) (hs : (s ++ t).length ≤ 4000) (h : (parseL s).2.2 = 0) (hm : s.length % 4 = 0) :
    ((parseL t).2.2 ≠ 0 → (parseL (s ++ t)).2 = ((s.length : Int) + (parseL t).2.1, (parseL t).2.2)) ∧
    ((parseL t).2.2 = 0 → parseL (s ++ t) = ((parseL s).1 ++ (parseL t).1, 0, 0)) := by
  have hl : (s ++ t).length = s.length + t.length := List.length_append
  rcases parse_cases s with ⟨h1, h2, e⟩ | ⟨h1, pre, r, e1, hr, e⟩ | ⟨h1, e⟩
  · have e2 := yl_app t h2 hm
    have e3 : yl t (0 + s.length) = (yl t 0).map (fun r => ⟨r.place + s.length, r.err, r.x⟩) := yl_shift s.length
    rw [e3] at e2
    have e4 : ∀ l : List Rd, (l.map (fun r => (⟨r.place + s.length, r.err, r.x⟩ : Rd))).all okR = l.all okR := fun l => by
      rw [List.all_map]; rfl
    refine ⟨fun h3 => ?_, fun h3 => ?_⟩
    · rcases parse_cases t with ⟨h4, h5, e5⟩ | ⟨h4, pre, r, e5, hr, e6⟩ | ⟨h4, e5⟩
      · rw [e5] at h3
        exact absurd rfl h3
      · unfold parseL
        rw [if_neg (by omega), if_neg (by omega), e2, e5]
        unfold parseY
        have hx : ¬ (pre ++ [r]).all okR = true := by
          simp only [List.all_append, List.all_cons, List.all_nil, Bool.and_true, Bool.and_eq_true, okR, beq_iff_eq]
          rintro ⟨_, h⟩
          omega
        rw [if_neg (by rw [List.all_append, e4]; simp [hx]), if_neg hx]
        simp [List.getLastD_eq_getLast?, List.getLast?_append]
        omega
      · omega
    · rcases parse_cases t with ⟨h4, h5, e5⟩ | ⟨h4, pre, r, e5, hr, e6⟩ | ⟨h4, e5⟩
      · rw [e5, e]
        unfold parseL
        rw [if_neg (by omega), e2]
        unfold parseY
        rw [if_pos (by rw [List.all_append, e4, h2, h5]; rfl), List.map_append, List.map_map]
        rfl
      · rw [e6] at h3
        simp only at h3
        omega
      · omega
  · rw [e] at h
    simp only at h
    omega
  · rw [e] at h; cases h
/-- The first of a type. -/
def findL (l : List It) (k : Int) : List UInt8 × Bool := if l.findIdx (fun x => x.ty == k) < l.length then ((l.getD (l.findIdx (fun x => x.ty == k)) default).v, true) else ([], false)
theorem find_cons (x : It) (l : List It) (k : Int) : findL (x :: l) k = if x.ty = k then (x.v, true) else findL l k := by
  unfold findL
  by_cases h : x.ty = k
  · rw [if_pos h, List.findIdx_cons, show (x.ty == k) = true from by simp [h], cond_true, if_pos (by simp)]
    rfl
  · rw [if_neg h, List.findIdx_cons, show (x.ty == k) = false from by simp [h], cond_false, List.length_cons]
    by_cases h2 : List.findIdx (fun x => x.ty == k) l < l.length
    · rw [if_pos h2, if_pos (by omega)]
      rfl
    · rw [if_neg h2, if_neg (by omega)]
theorem find_front (x : It) (l : List It) : findL (x :: l) x.ty = (x.v, true) := by
  rw [find_cons, if_pos rfl]
theorem find_back (x : It) : ∀ l : List It, findL (l ++ [x]) x.ty = if (findL l x.ty).2 = true then findL l x.ty else (x.v, true)
  | [] => by
    rw [List.nil_append, find_front]
    rfl
  | y :: l => by
    rw [List.cons_append, find_cons, find_cons, find_back x l]
    by_cases h : y.ty = x.ty
    · rw [if_pos h, if_pos h]
      rfl
    · rw [if_neg h, if_neg h]
end Towline.Tlv
