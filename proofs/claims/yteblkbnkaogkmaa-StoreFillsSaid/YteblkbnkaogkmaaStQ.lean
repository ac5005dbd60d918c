/- The law of filling, as a contract. -/
import Derived.Test.YteblkbnkaogkmaaStN
namespace Go.Proofs.Yteblkbnkaogkmaa
open Go Towline Towline.Store
set_option linter.unusedVariables false
set_option maxRecDepth 20000
set_option maxHeartbeats 4000000
theorem at_le {N : Nat} {s : S2} (h : Fine N s) : s.a ≤ total s.l ∧ s.a ≤ 20000 := by
  obtain ⟨l, a, nx⟩ := s
  cases l with
  | nil => have := h.none rfl; exact ⟨by show a ≤ _; have : a = 0 := this; omega, by show a ≤ _; have : a = 0 := this; omega⟩
  | cons m r =>
    have h1 := h.head m r rfl
    have h2 := (h.msg m (by simp)).2.2
    have h3 := total_cons m r
    exact ⟨by show a ≤ total (m :: r); have : a < m.text.length := h1; omega, by show a ≤ _; have : a < m.text.length := h1; omega⟩
def fmsg (k N : Nat) : Msg := ⟨k, 0, 0, false, List.replicate N 0, 0⟩
theorem noughts (n k : Nat) : bytesF (List.replicate n 0) k = [D.i .u8 0] := by
  unfold bytesF
  rw [List.getD_eq_getElem?_getD, List.getElem?_replicate]
  split <;> rfl
theorem after_len (m : Msg) (r : List Msg) (a : Nat) (nx : List Nat) (most : Int) : (after m r a nx most).l.length ≤ (m :: r).length := by
  unfold after
  split
  · exact Nat.le_refl _
  · simp
theorem fills_spec (s : List Int) (most : Int) (hs : ∀ x ∈ s, -2 ^ 63 ≤ x ∧ x < 2 ^ 63) (hm : -2 ^ 63 ≤ most ∧ most < 2 ^ 63) :
    PSpec Try.prog 4 [.d (slT 1 encI s), vi most] (· = vb true) := by
  have hget : ∀ i, -2 ^ 63 ≤ s.getD i default ∧ s.getD i default < 2 ^ 63 := by
    intro i
    rcases Nat.lt_or_ge i s.length with h | h
    · rw [List.getD_eq_getElem?_getD, List.getElem?_eq_getElem h]; exact hs _ (List.getElem_mem h)
    · rw [List.getD_eq_getElem?_getD, List.getElem?_eq_none h]; decide
  refine PSpec.run tysOk follows Try.func4 (by decide) rfl Try.ntmps4 (Nat.le_of_ble_eq_true rfl) rfl fun w0 R0 => ?_
  conv => whnf
  refine ⟨_, shown_spec, ?_⟩
  rintro q rfl
  conv => whnf
  refine ⟨_, new_ok 2 (by omega) (by omega), ?_⟩
  rintro q rfl
  conv => whnf
  split <;> rename_i h1
  · conv => whnf
    exact ⟨_, .refl _, rfl, rfl⟩
  · replace h1 := of_decide_eq_false h1
    try simp only [Int.toNat_natCast] at h1
    have h1 : s.length ≤ 40 := by omega
    conv => whnf
    refine ⟨by decide, ?_⟩
    conv => whnf
    refine ALoop.introR tysOk follows (fun x : {q : Nat × List Msg × Nat × List Nat // q.1 ≤ s.length ∧ Fine 2 ⟨q.2.1, q.2.2.1, q.2.2.2⟩ ∧ q.2.1.length ≤ q.1} => ([(0, .d (slT 1 encI s)), (1, vi most), (6, .ptr 6 0), (8, .rsl 39 1 0 20000), (9, vi ((total x.1.2.1 : Int) - x.1.2.2.1)), (10, vi x.1.1)], [(39, .row 5 1 20000 (fun _ => [.i .u8 0])), (6, .box (stL x.1.2.1 x.1.2.2.1 x.1.2.2.2))])) (fun x => s.length - x.1.1) ⟨(0, [], 0, [0, 0]), by simp, Fine.new 2, by simp⟩ ?_ ?_
    · exact ⟨.refl _, .refl _, .refl _, .refl _, .refl _, .refl _, ⟨rfl, rfl, rfl, fun _ _ => rfl⟩, OLe.refl _, trivial⟩
    rintro ⟨⟨k, l, a, nx⟩, hk, hf, hlen⟩
    dsimp only at hk hf hlen ⊢
    have ht := total_le hf
    dsimp only at ht
    have hal := at_le hf
    dsimp only at hal
    conv => whnf
    split <;> rename_i h2
    · replace h2 := of_decide_eq_true h2
      try simp only [Int.toNat_natCast] at h2
      have hp := pickOf_lt (s.getD k default) 20000 (by omega)
      conv => whnf
      refine ⟨by first | omega | (simp only [Int.toNat_natCast]; omega) | (simp; done) | (simp; omega), ?_⟩
      conv => whnf
      refine ⟨_, pick_spec (s.getD k default) 20000 (by omega) (hget k).1 (hget k).2, ?_⟩
      rintro q rfl
      conv => whnf
      refine ⟨by first | omega | (simp only [Int.toNat_natCast]; omega) | (simp; done) | (simp; omega), ?_⟩
      conv => whnf
      refine ⟨by first | omega | (simp only [Int.toNat_natCast]; omega) | (simp; done) | (simp; omega), ?_⟩
      conv => whnf
      refine ⟨List.replicate (1 + pickOf (s.getD k default) 20000).toNat 0, ⟨List.length_replicate, by omega, fun j hj => (noughts _ j).symm⟩, ?_⟩
      conv => whnf
      obtain ⟨N, hN, hN1, hN2⟩ : ∃ N : Nat, 1 + pickOf (s.getD k default) 20000 = N ∧ 1 ≤ N ∧ N ≤ 20000 := ⟨(1 + pickOf (s.getD k default) 20000).toNat, by omega, by omega, by omega⟩
      rw [hN, Int.toNat_natCast]
      have hE := push_spec l a nx (fmsg k N) (by omega) (by omega) (by omega) (by omega) (by simp [fmsg])
      by_cases h3 : (total l : Int) - a + N ≤ 60000
      · have e : pushE l a nx (fmsg k N) = 0 := by
          rw [pushE, if_neg (by rw [hf.len]; simp [fmsg]), if_neg (by simp [fmsg]; omega), if_neg (by simp [fmsg]; omega), if_neg (by simp [fmsg]; omega)]
        rw [e, if_pos rfl] at hE
        refine ⟨_, hE, ?_⟩
        conv => whnf
        refine ⟨by kernel_rfl, ?_⟩
        conv => whnf
        refine ⟨by first | omega | (simp only [Int.toNat_natCast]; omega) | (simp; done) | (simp; omega), ?_⟩
        conv => whnf
        rw [show decide ((total l : Int) - a + N ≤ 60000) = true from decide_eq_true h3]
        conv => whnf
        refine ⟨by first | omega | (simp only [Int.toNat_natCast]; omega) | (simp; done) | (simp; omega), ?_⟩
        conv => whnf
        have hL := hf.push (m := fmsg k N) (show 0 < 2 by decide) (by simp [fmsg]; omega) (by simp [fmsg]; omega)
        have hb := bytes2_push l a nx (fmsg k N)
        obtain ⟨m0, r0, e0⟩ : ∃ m0 r0, l ++ [fmsg k N] = m0 :: r0 := by
          cases l with
          | nil => exact ⟨_, _, rfl⟩
          | cons x y => exact ⟨x, y ++ [fmsg k N], rfl⟩
        have hlen2 : (m0 :: r0).length ≤ k + 1 := by rw [← e0]; simp; omega
        rw [e0] at hL hb ⊢
        have hB : bytes2 ⟨m0 :: r0, a, nx⟩ = (total l : Int) - a + N := by rw [hb]; simp [bytes2, fmsg]
        have hlt : a < m0.text.length := hL.head m0 r0 rfl
        have hl4 : (m0 :: r0).length = r0.length + 1 := rfl
        have hmm := hL.msg m0 (by simp)
        have ht2 := total_le hL
        have hT := take_spec m0 r0 a nx most (by rw [show nx.length = 2 from hL.len]; exact hmm.1) (by have := hmm.1; omega) hlt (by have := hmm.2.2; omega) (by omega) (by rw [show nx.length = 2 from hL.len]; decide)
        have hPl := piece_length (nx := nx) (most := most) hlt
        have hB2 := bytes2_take most hL
        have hF2 := hL.take most
        have hcut := cut_le (most := most) hlt
        have ht3 := total_le hF2
        have ha3 := at_le hF2
        have hl3 := after_len m0 r0 a nx most
        unfold bytes2 at hB hB2
        dsimp only at ht2 hB hB2
        refine ⟨_, hT, ?_⟩
        rintro q rfl
        conv => whnf
        refine ⟨by first | omega | (simp only [Int.toNat_natCast]; omega) | (simp; done) | (simp; omega), ?_⟩
        conv => whnf
        have hbs := bytes_spec (after m0 r0 a nx most).l (after m0 r0 a nx most).a (after m0 r0 a nx most).next (by omega) (by omega) (by omega) (by omega)
        refine ⟨_, hbs, ?_⟩
        rintro q rfl
        conv => whnf
        split <;> rename_i h9
        · exfalso
          simp at h9
          apply h9
          rw [hPl]
          omega
        clear h9
        conv => whnf
        refine ⟨by first | omega | (simp only [Int.toNat_natCast]; omega) | (simp; done) | (simp; omega), ?_⟩
        conv => whnf
        refine ⟨⟨(k + 1, (after m0 r0 a nx most).l, (after m0 r0 a nx most).a, (after m0 r0 a nx most).next), by dsimp only; omega, hF2, by dsimp only; omega⟩, [], by dsimp only; omega, .refl _, .refl _, .refl _, .refl _, .of_eq (congrArg (fun z => vi z) (by dsimp only; rw [hPl]; omega)), .refl _, ⟨rfl, rfl, rfl, fun _ _ => rfl⟩, OLe.refl _, trivial⟩
      · have e : pushE l a nx (fmsg k N) = 10 := by
          rw [pushE, if_neg (by rw [hf.len]; simp [fmsg]), if_neg (by simp [fmsg]; omega), if_neg (by simp [fmsg]; omega), if_pos (by simp [fmsg]; omega)]
        rw [e, if_neg (by decide)] at hE
        refine ⟨_, hE, ?_⟩
        conv => whnf
        refine ⟨by kernel_rfl, ?_⟩
        conv => whnf
        refine ⟨by first | omega | (simp only [Int.toNat_natCast]; omega) | (simp; done) | (simp; omega), ?_⟩
        conv => whnf
        rw [show decide ((total l : Int) - a + N ≤ 60000) = false from decide_eq_false h3]
        conv => whnf
        obtain ⟨m0, r0, e0⟩ : ∃ m0 r0, l = m0 :: r0 := by
          cases l with
          | nil =>
            exfalso
            simp [total] at h3
            omega
          | cons x y => exact ⟨x, y, rfl⟩
        have hlen2 : (m0 :: r0).length ≤ k + 1 := by rw [← e0]; omega
        have hL := hf
        have hB : bytes2 ⟨m0 :: r0, a, nx⟩ = (total l : Int) - a := by rw [e0]; rfl
        rw [e0] at hL ⊢
        have hlt : a < m0.text.length := hL.head m0 r0 rfl
        have hl4 : (m0 :: r0).length = r0.length + 1 := rfl
        have hmm := hL.msg m0 (by simp)
        have ht2 := total_le hL
        have hT := take_spec m0 r0 a nx most (by rw [show nx.length = 2 from hL.len]; exact hmm.1) (by have := hmm.1; omega) hlt (by have := hmm.2.2; omega) (by omega) (by rw [show nx.length = 2 from hL.len]; decide)
        have hPl := piece_length (nx := nx) (most := most) hlt
        have hB2 := bytes2_take most hL
        have hF2 := hL.take most
        have hcut := cut_le (most := most) hlt
        have ht3 := total_le hF2
        have ha3 := at_le hF2
        have hl3 := after_len m0 r0 a nx most
        unfold bytes2 at hB hB2
        dsimp only at ht2 hB hB2
        refine ⟨_, hT, ?_⟩
        rintro q rfl
        conv => whnf
        refine ⟨by first | omega | (simp only [Int.toNat_natCast]; omega) | (simp; done) | (simp; omega), ?_⟩
        conv => whnf
        have hbs := bytes_spec (after m0 r0 a nx most).l (after m0 r0 a nx most).a (after m0 r0 a nx most).next (by omega) (by omega) (by omega) (by omega)
        refine ⟨_, hbs, ?_⟩
        rintro q rfl
        conv => whnf
        split <;> rename_i h9
        · exfalso
          simp at h9
          apply h9
          rw [hPl]
          omega
        clear h9
        conv => whnf
        refine ⟨by first | omega | (simp only [Int.toNat_natCast]; omega) | (simp; done) | (simp; omega), ?_⟩
        conv => whnf
        refine ⟨⟨(k + 1, (after m0 r0 a nx most).l, (after m0 r0 a nx most).a, (after m0 r0 a nx most).next), by dsimp only; omega, hF2, by dsimp only; omega⟩, [], by dsimp only; omega, .refl _, .refl _, .refl _, .refl _, .of_eq (congrArg (fun z => vi z) (by dsimp only; rw [hPl]; omega)), .refl _, ⟨rfl, rfl, rfl, fun _ _ => rfl⟩, OLe.refl _, trivial⟩
    · conv => whnf
      exact ⟨_, .refl _, rfl, rfl⟩
theorem storeFills_of {l0 l1 : List D} (h0 : wt tys 8 23 l0) (h1 : wt tys 8 3 l1) :
    PSpec Try.prog 4 [asV false l0, asV false l1] (· = vb true) := by
  obtain ⟨d0, rfl⟩ : ∃ d, l0 = [d] := by obtain ⟨m, f, hx, _⟩ := h0; exact ⟨_, hx⟩
  obtain ⟨d1, rfl⟩ : ∃ d, l1 = [d] := by obtain ⟨x, hx, _⟩ := h1; exact ⟨_, hx⟩
  obtain ⟨s, k1, k2, k3⟩ := wt_ints (n := 6) h0
  obtain ⟨x1, rfl, hx⟩ := wt_int (n := 7) h1
  exact (fills_spec s x1 k2 hx).argsC ⟨k3, .refl _, trivial⟩
end Go.Proofs.Yteblkbnkaogkmaa
