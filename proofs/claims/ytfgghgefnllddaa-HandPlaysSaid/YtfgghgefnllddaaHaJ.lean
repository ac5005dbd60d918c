/- Whatever happens: what stays true of an association, in plain words. -/
import Derived.Test.YtfgghgefnllddaaHaI
namespace Towline.Hand
set_option linter.unusedVariables false
set_option linter.unusedSimpArgs false
structure Inv (h : H) : Prop where
  st : 0 ≤ h.st ∧ h.st ≤ 7
  nil : h.st = 0 → h = H.nil
  tries : 0 ≤ h.tries ∧ h.tries ≤ 9
  due : decide (0 < h.due) = (h.st == 1 || h.st == 2 || h.st == 5 || h.st == 7)
  due0 : 0 ≤ h.due
  tag : h.st ≠ 0 → h.ourTag ≠ 0 ∧ 0 < h.outs ∧ 0 < h.ins
  cookie : h.st = 2 → 1 ≤ h.cookie.length ∧ h.cookie.length ≤ 1000
theorem Inv.ofNil : Inv H.nil := ⟨by decide, fun _ => rfl, by decide, by decide, by decide, fun h => absurd rfl h, fun h => absurd h (by decide)⟩
theorem dbl_pos : ∀ k, 1000 ≤ dbl k
  | 0 => by decide
  | k + 1 => by have := dbl_pos k; simp only [dbl]; omega
theorem wait_pos (t : Int) (h : t < 8) : 1000 ≤ wait t := by rw [← dbl_eq t h]; exact dbl_pos _
theorem Inv.entered {h : H} {st cum now : Int} (hs : 1 ≤ st ∧ st ≤ 7) (ht : h.ourTag ≠ 0 ∧ 0 < h.outs ∧ 0 < h.ins) (hc : st = 2 → 1 ≤ h.cookie.length ∧ h.cookie.length ≤ 1000) (hn : 0 ≤ now ∧ now ≤ 1000000) : Inv (entered h st cum now) := by
  obtain ⟨s, rfl⟩ : ∃ s : Nat, st = s := ⟨st.toNat, by omega⟩
  have h8 : s < 8 := by omega
  have h0 : 0 < s := by omega
  have hw : w64 (now + 1000) = now + 1000 := Go.IntWalk.i64_in _ (by omega)
  have e : 0 < now + 1000 := by omega
  match s, h8, h0, hc with
  | 1, _, _, hc => exact ⟨by simp [Hand.entered, sends], fun h => by simp [Hand.entered, sends] at h, by simp [Hand.entered, sends], by simp [Hand.entered, sends, hw, e], by simp [Hand.entered, sends, hw]; try omega, fun _ => ht, fun h => by simp [Hand.entered, sends] at h⟩
  | 2, _, _, hc => exact ⟨by simp [Hand.entered, sends], fun h => by simp [Hand.entered, sends] at h, by simp [Hand.entered, sends], by simp [Hand.entered, sends, hw, e], by simp [Hand.entered, sends, hw]; try omega, fun _ => ht, fun _ => hc rfl⟩
  | 3, _, _, hc => exact ⟨by simp [Hand.entered, sends], fun h => by simp [Hand.entered, sends] at h, by simp [Hand.entered, sends], by simp [Hand.entered, sends, hw, e], by simp [Hand.entered, sends, hw]; try omega, fun _ => ht, fun h => by simp [Hand.entered, sends] at h⟩
  | 4, _, _, hc => exact ⟨by simp [Hand.entered, sends], fun h => by simp [Hand.entered, sends] at h, by simp [Hand.entered, sends], by simp [Hand.entered, sends, hw, e], by simp [Hand.entered, sends, hw]; try omega, fun _ => ht, fun h => by simp [Hand.entered, sends] at h⟩
  | 5, _, _, hc => exact ⟨by simp [Hand.entered, sends], fun h => by simp [Hand.entered, sends] at h, by simp [Hand.entered, sends], by simp [Hand.entered, sends, hw, e], by simp [Hand.entered, sends, hw]; try omega, fun _ => ht, fun h => by simp [Hand.entered, sends] at h⟩
  | 6, _, _, hc => exact ⟨by simp [Hand.entered, sends], fun h => by simp [Hand.entered, sends] at h, by simp [Hand.entered, sends], by simp [Hand.entered, sends, hw, e], by simp [Hand.entered, sends, hw]; try omega, fun _ => ht, fun h => by simp [Hand.entered, sends] at h⟩
  | 7, _, _, hc => exact ⟨by simp [Hand.entered, sends], fun h => by simp [Hand.entered, sends] at h, by simp [Hand.entered, sends], by simp [Hand.entered, sends, hw, e], by simp [Hand.entered, sends, hw]; try omega, fun _ => ht, fun h => by simp [Hand.entered, sends] at h⟩
end Towline.Hand
namespace Go.Proofs.Ytfgghgefnllddaa
open Go Towline Towline.Hand
set_option linter.unusedVariables false
set_option linter.unusedSimpArgs false
set_option maxRecDepth 20000
set_option maxHeartbeats 4000000
def rightK (k : K) : Prop := (buildC (chK k)).2 = 0
theorem right_of {c : Chunk.Ch} (hg : goodC c = true) (hl : (encC c).length ≤ 1400) : (buildC c).2 = 0 := by
  rw [buildC, if_pos hg, if_neg (by omega)]
theorem right_small {k : K} (hg : goodC (chK k) = true) (hl : (valB (headB (chK k)) (chK k)).length ≤ 1390) : rightK k := by
  refine right_of hg ?_
  rw [encC_len]
  have := Tlv.pad_lt (valB (headB (chK k)) (chK k)).length
  omega
theorem right_6 : rightK (K.of 6) := right_small (by simp [goodC, chK, K.of, fitsB, textB, Tlv.buildL, Chunk.onlyC, Tlv.bytes]) (by simp [valB, preB, Tlv.cutB, headB, chK, K.of, Chunk.be4, Chunk.be2, Tlv.bytes])
theorem right_14 : rightK (K.of 14) := right_small (by simp [goodC, chK, K.of, fitsB, textB, Tlv.buildL, Chunk.onlyC, Tlv.bytes]) (by simp [valB, preB, Tlv.cutB, headB, chK, K.of, Chunk.be4, Chunk.be2, Tlv.bytes])
theorem right_8 : rightK (K.of 8) := right_small (by simp [goodC, chK, K.of, fitsB, textB, Tlv.buildL, Chunk.onlyC, Tlv.bytes]) (by simp [valB, preB, Tlv.cutB, headB, chK, K.of, Chunk.be4, Chunk.be2, Tlv.bytes])
theorem right_7 (t : Int) : rightK { K.of 7 with tsn := t } := right_small (by simp [goodC, chK, K.of, fitsB, textB, Tlv.buildL, Chunk.onlyC, Tlv.bytes]) (by simp [valB, preB, Tlv.cutB, headB, chK, K.of, Chunk.be4, Chunk.be2, Tlv.bytes])
theorem right_10 (t : List UInt8) (h : 1 ≤ t.length ∧ t.length ≤ 1000) : rightK { K.of 10 with text := t } := right_small (by
    have h1 : (1 : Int) ≤ t.length := by omega
    have h2 : (t.length : Int) ≤ 1000 := by omega
    have h3 : t ≠ [] := by rintro rfl; simp at h
    simp [goodC, chK, K.of, fitsB, textB, Tlv.buildL, Chunk.onlyC, Tlv.bytes, h1, h2, h3]
) (by simp [valB, preB, Tlv.cutB, headB, chK, K.of, Chunk.be4, Chunk.be2, Tlv.bytes]; omega)
theorem right_1 (a b c d e : Int) (h1 : a ≠ 0) (h2 : c ≠ 0) (h3 : d ≠ 0) : rightK { K.of 1 with tag := a, window := b, outs := c, ins := d, tsn := e } := right_small (by simp [goodC, chK, K.of, fitsB, textB, Tlv.buildL, Chunk.onlyC, Tlv.bytes, h1, h2, h3]) (by simp [valB, preB, Tlv.cutB, headB, chK, K.of, Chunk.be4, Chunk.be2, Tlv.bytes])
theorem sends_right {h : H} {cum : Int} (ht : h.st = 1 → h.ourTag ≠ 0 ∧ 0 < h.outs ∧ 0 < h.ins) (hc : h.st = 2 → 1 ≤ h.cookie.length ∧ h.cookie.length ≤ 1000) : ∀ x ∈ sends h cum, rightK x := by
  intro x hx
  unfold sends at hx
  split at hx
  · rename_i h1
    obtain ⟨k1, k2, k3⟩ := ht h1
    rw [List.mem_singleton.1 hx]
    exact right_1 _ _ _ _ _ k1 (by omega) (by omega)
  · split at hx
    · rename_i h2
      rw [List.mem_singleton.1 hx]
      exact right_10 _ (hc h2)
    · split at hx
      · rw [List.mem_singleton.1 hx]; exact right_7 _
      · split at hx
        · rw [List.mem_singleton.1 hx]; exact right_8
        · cases hx
/-- What a step has made is as the diagram says. -/
structure StepOk (h : H) (r : H) (l : List K) (n : Int) : Prop where
  inv : Inv r
  goes : goesB h.st r.st = true
  noted : notedB h.st r.st n = true
  right : ∀ x ∈ l, rightK x
  len : l.length ≤ 1
theorem entered_st (h : H) (st cum now : Int) : (entered h st cum now).st = st := by unfold entered; split <;> rfl
theorem StepOk.same {h : H} (hi : Inv h) : StepOk h h [] 0 := by
  refine ⟨hi, ?_, ?_, fun x hx => (by cases hx), Nat.zero_le _⟩
  · obtain ⟨s, hs⟩ : ∃ s : Nat, h.st = s := ⟨h.st.toNat, by have := hi.st; omega⟩
    have h8 : s < 8 := by have := hi.st; omega
    rw [hs]
    match s, h8 with
    | 0, _ => decide
    | 1, _ => decide
    | 2, _ => decide
    | 3, _ => decide
    | 4, _ => decide
    | 5, _ => decide
    | 6, _ => decide
    | 7, _ => decide
  · obtain ⟨s, hs⟩ : ∃ s : Nat, h.st = s := ⟨h.st.toNat, by have := hi.st; omega⟩
    have h8 : s < 8 := by have := hi.st; omega
    rw [hs]
    match s, h8 with
    | 0, _ => decide
    | 1, _ => decide
    | 2, _ => decide
    | 3, _ => decide
    | 4, _ => decide
    | 5, _ => decide
    | 6, _ => decide
    | 7, _ => decide
/-- Gone, or down. -/
theorem StepOk.nil {h : H} (hi : Inv h) (h0 : h.st ≠ 0) {l : List K} {n : Int} (hn : n = 2 ∨ n = 3 ∨ (n = 0 ∧ h.st < 3)) (hl : ∀ x ∈ l, rightK x) (hlen : l.length ≤ 1 := by simp) : StepOk h H.nil l n := by
  refine ⟨Inv.ofNil, ?_, ?_, hl, hlen⟩
  · obtain ⟨s, hs⟩ : ∃ s : Nat, h.st = s := ⟨h.st.toNat, by have := hi.st; omega⟩
    have h8 : s < 8 := by have := hi.st; omega
    rw [hs]
    match s, h8 with
    | 0, _ => decide
    | 1, _ => decide
    | 2, _ => decide
    | 3, _ => decide
    | 4, _ => decide
    | 5, _ => decide
    | 6, _ => decide
    | 7, _ => decide
  · show notedB h.st 0 n = true
    rcases hn with rfl | rfl | ⟨rfl, h3⟩
    · simp [notedB, h0]
    · simp [notedB, h0]
    · simp [notedB, h3]
theorem StepOk.enter {h g : H} (hi : Inv h) {st cum now n : Int} (hs : 1 ≤ st ∧ st ≤ 7) (ht : g.ourTag ≠ 0 ∧ 0 < g.outs ∧ 0 < g.ins) (hc : st = 2 → 1 ≤ g.cookie.length ∧ g.cookie.length ≤ 1000) (hn : 0 ≤ now ∧ now ≤ 1000000)
    (h1 : goesB h.st st = true) (h2 : notedB h.st st n = true) : StepOk h (entered g st cum now) (enters g st cum) n :=
  ⟨Inv.entered hs ht hc hn, by rw [entered_st]; exact h1, by rw [entered_st]; exact h2, sends_right (fun _ => ht) hc, enters_len _ _ _⟩
structure StepOk' (h : H) (R : R) : Prop where
  ok : StepOk h R.h R.l R.n
theorem take_ok {h : H} {c : K} {l : List It} {e : Bool} {now : Int} (hi : Inv h) (hn : 0 ≤ now ∧ now ≤ 1000000) (hc : c.ty = 2 → 0 < c.outs ∧ 0 < c.ins) : StepOk h (takeR h c l e now).h (takeR h c l e now).l (takeR h c l e now).n := by
  have hnil : ∀ x ∈ ([] : List K), rightK x := fun x hx => by cases hx
  unfold takeR
  by_cases g0 : h.st = 0
  · rw [if_pos g0]; exact .same hi
  rw [if_neg g0]
  have ht := hi.tag g0
  by_cases g1 : c.ty = 6
  · rw [if_pos g1]; exact .nil hi g0 (.inr (.inl rfl)) hnil
  rw [if_neg g1]
  by_cases g2 : c.ty = 2
  · rw [if_pos g2]
    by_cases g : h.st = 1
    · rw [if_pos g]
      obtain ⟨k1, k2⟩ := hc g2
      unfold answeredR
      by_cases g3 : hasIt 7 l = true ∧ itV 7 l ≠ [] ∧ (itV 7 l).length ≤ 1000
      · rw [if_pos g3]
        have h5 : 1 ≤ (itV 7 l).length := by
          rcases Nat.eq_zero_or_pos (itV 7 l).length with h | h
          · exact absurd (List.eq_nil_of_length_eq_zero h) g3.2.1
          · exact h
        exact .enter (g := answeredH h c l) (st := 2) (cum := 0) (n := 0) hi (by decide) ⟨ht.1, by show 0 < min h.outs c.ins; omega, by show 0 < min h.ins c.outs; omega⟩ (fun _ => ⟨h5, g3.2.2⟩) hn (by rw [g]; decide) (by rw [g]; decide)
      · rw [if_neg g3]
        unfold dropR
        rw [if_neg g0]
        exact .nil hi g0 (.inr (.inl rfl)) (fun x hx => by rw [List.mem_singleton.1 hx]; exact right_6)
    · rw [if_neg g]; exact .same hi
  rw [if_neg g2]
  by_cases g3 : c.ty = 11
  · rw [if_pos g3]
    by_cases g : h.st = 2
    · rw [if_pos g]; exact .enter (st := 3) (cum := 0) (n := 1) hi (by decide) ht (fun h => absurd h (by decide)) hn (by rw [g]; decide) (by rw [g]; decide)
    · rw [if_neg g]; exact .same hi
  rw [if_neg g3]
  by_cases g4 : c.ty = 9
  · rw [if_pos g4]
    by_cases g : h.st = 2
    · rw [if_pos g]
      unfold refusedR
      by_cases g5 : hasIt 3 l = true
      · rw [if_pos g5]
        by_cases g6 : 8 ≤ h.tries
        · rw [if_pos g6]; exact .nil hi g0 (.inr (.inl rfl)) hnil
        · rw [if_neg g6]
          have h1 : StepOk h (entered (refusedH h) 1 0 now) (enters (refusedH h) 1 0) 0 := .enter hi (by decide) ht (fun h => absurd h (by decide)) hn (by rw [g]; decide) (by rw [g]; decide)
          have e1 := entered_st (refusedH h) 1 0 now
          have h2 := hi.tries
          exact ⟨⟨h1.inv.st, fun e => absurd (e1.symm.trans e) (by decide), by show 0 ≤ h.tries + 1 ∧ h.tries + 1 ≤ 9; omega, h1.inv.due, h1.inv.due0, h1.inv.tag, h1.inv.cookie⟩, h1.goes, h1.noted, h1.right, h1.len⟩
      · rw [if_neg g5]; exact .same hi
    · rw [if_neg g]; exact .same hi
  rw [if_neg g4]
  by_cases g5 : c.ty = 7
  · rw [if_pos g5]
    by_cases g : h.st = 3 ∨ h.st = 4
    · rw [if_pos g]
      cases e with
      | true => exact .enter (st := 7) (cum := 0) (n := 0) hi (by decide) ht (fun h => absurd h (by decide)) hn (by rcases g with g | g <;> rw [g] <;> decide) (by rcases g with g | g <;> rw [g] <;> decide)
      | false => exact .enter (st := 6) (cum := 0) (n := 0) hi (by decide) ht (fun h => absurd h (by decide)) hn (by rcases g with g | g <;> rw [g] <;> decide) (by rcases g with g | g <;> rw [g] <;> decide)
    · rw [if_neg g]
      by_cases g : h.st = 5
      · rw [if_pos g]; exact .enter (st := 7) (cum := 0) (n := 0) hi (by decide) ht (fun h => absurd h (by decide)) hn (by rw [g]; decide) (by rw [g]; decide)
      · rw [if_neg g]; exact .same hi
  rw [if_neg g5]
  by_cases g6 : c.ty = 8
  · rw [if_pos g6]
    by_cases g : h.st = 5 ∨ h.st = 7
    · rw [if_pos g]; exact .nil hi g0 (.inl rfl) (fun x hx => by rw [List.mem_singleton.1 hx]; exact right_14)
    · rw [if_neg g]; exact .same hi
  rw [if_neg g6]
  by_cases g7 : c.ty = 14
  · rw [if_pos g7]
    by_cases g : h.st = 7
    · rw [if_pos g]; exact .nil hi g0 (.inl rfl) hnil
    · rw [if_neg g]; exact .same hi
  rw [if_neg g7]
  exact .same hi
theorem open_ok {h : H} {now : Int} (hi : Inv h) (hn : 0 ≤ now ∧ now ≤ 1000000) : (openR h 5 6 7 2 now = ⟨H.nil, [], 11⟩) ∨ ((openR h 5 6 7 2 now).n = 0 ∧ StepOk h (openR h 5 6 7 2 now).h (openR h 5 6 7 2 now).l 0) := by
  unfold openR
  by_cases g0 : h.st = 0
  · right
    rw [if_neg (by simpa using g0), if_neg (by decide)]
    exact ⟨rfl, .enter (st := 1) (cum := 0) hi (by decide) ⟨by show (5 : Int) ≠ 0; decide, by show (0 : Int) < 2; decide, by show (0 : Int) < 2; decide⟩ (fun h => absurd h (by decide)) hn (by rw [g0]; decide) (by rw [g0]; decide)⟩
  · left
    rw [if_pos g0]
theorem close_ok {h : H} {e : Bool} {now : Int} (hi : Inv h) (hn : 0 ≤ now ∧ now ≤ 1000000) : (closeR h 9 e now = ⟨H.nil, [], 11⟩) ∨ ((closeR h 9 e now).n = 0 ∧ StepOk h (closeR h 9 e now).h (closeR h 9 e now).l 0) := by
  unfold closeR
  by_cases g0 : h.st = 1 ∨ h.st = 2
  · right
    rw [if_pos g0]
    exact ⟨rfl, .nil hi (by omega) (.inr (.inr ⟨rfl, by omega⟩)) (fun x hx => by cases hx)⟩
  · rw [if_neg g0]
    by_cases g : h.st = 3
    · right
      rw [if_pos g]
      have ht := hi.tag (by omega)
      cases e with
      | true => exact ⟨rfl, .enter (st := 5) (cum := 9) hi (by decide) ht (fun h => absurd h (by decide)) hn (by rw [g]; decide) (by rw [g]; decide)⟩
      | false => exact ⟨rfl, .enter (st := 4) (cum := 9) hi (by decide) ht (fun h => absurd h (by decide)) hn (by rw [g]; decide) (by rw [g]; decide)⟩
    · left
      rw [if_neg g]
theorem empty_ok {h : H} {now : Int} (hi : Inv h) (hn : 0 ≤ now ∧ now ≤ 1000000) : StepOk h (emptyR h 9 now).h (emptyR h 9 now).l 0 := by
  unfold emptyR
  by_cases g : h.st = 4
  · rw [if_pos g]
    exact .enter (st := 5) (cum := 9) hi (by decide) (hi.tag (by omega)) (fun h => absurd h (by decide)) hn (by rw [g]; decide) (by rw [g]; decide)
  · rw [if_neg g]
    by_cases g : h.st = 6
    · rw [if_pos g]
      exact .enter (st := 7) (cum := 9) hi (by decide) (hi.tag (by omega)) (fun h => absurd h (by decide)) hn (by rw [g]; decide) (by rw [g]; decide)
    · rw [if_neg g]; exact .same hi
theorem drop_ok {h : H} (hi : Inv h) : StepOk h (dropR h).h (dropR h).l (dropR h).n := by
  unfold dropR
  by_cases g0 : h.st = 0
  · rw [if_pos g0]; exact .same hi
  · rw [if_neg g0]; exact .nil hi g0 (.inr (.inl rfl)) (fun x hx => by rw [List.mem_singleton.1 hx]; exact right_6)
theorem tick_ok {h : H} {now : Int} (hi : Inv h) (hn : 0 ≤ now ∧ now ≤ 1000000) : StepOk h (tickR h 9 now).h (tickR h 9 now).l (tickR h 9 now).n := by
  unfold tickR
  by_cases g0 : h.due = 0 ∨ now < h.due
  · rw [if_pos g0]; exact .same hi
  · rw [if_neg g0]
    have hd := hi.due
    have h0 : h.st ≠ 0 := by
      intro e
      have := hi.nil e
      rw [this] at g0
      exact g0 (.inl rfl)
    by_cases g : 8 ≤ h.tries
    · rw [if_pos g]; exact .nil hi h0 (.inr (.inl rfl)) (fun x hx => by rw [List.mem_singleton.1 hx]; exact right_6)
    · rw [if_neg g]
      have hs := StepOk.same hi
      have hw := wait_pos h.tries (by omega)
      have hw2 := wait_le h.tries (by omega)
      have ht := hi.tries
      have e1 : w64 (now + wait h.tries) = now + wait h.tries := IntWalk.i64_in _ (by omega)
      have h2 := hi.due0
      rw [decide_eq_true (show 0 < h.due by omega)] at hd
      refine ⟨⟨hi.st, fun e => absurd e h0, by show 0 ≤ h.tries + 1 ∧ h.tries + 1 ≤ 9; omega, ?_, ?_, hi.tag, hi.cookie⟩, hs.goes, hs.noted, sends_right (fun _ => hi.tag h0) hi.cookie, sends_len _ _⟩
      · show decide (0 < w64 (now + wait h.tries)) = _
        rw [e1, decide_eq_true (by omega)]
        exact hd
      · show 0 ≤ w64 (now + wait h.tries)
        rw [e1]; omega
end Go.Proofs.Ytfgghgefnllddaa
