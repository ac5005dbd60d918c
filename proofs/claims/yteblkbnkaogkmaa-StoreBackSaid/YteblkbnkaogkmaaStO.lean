/- The law of what is taken back, as a contract. -/
import Derived.Test.YteblkbnkaogkmaaStJ
namespace Towline.Store
/-- What was pushed so far. -/
structure Acc (acc : List Msg) (k : Nat) : Prop where
  fine : Fine 3 ⟨acc, 0, [0, 0, 0]⟩
  tot : total acc ≤ 60000
  len : acc.length ≤ k
  txt : ∀ m ∈ acc, m.text.length ≤ 2000
/-- What of the first message was taken. -/
def hadOf (acc : List Msg) (off a : Nat) : List UInt8 := (acc.getD off default).text.take a
structure Inv (acc : List Msg) (off a i : Nat) (nx : List Nat) : Prop where
  fine : Fine 3 ⟨acc.drop off, a, nx⟩
  le : off ≤ acc.length
  clock : (i : Int) + bytes2 ⟨acc.drop off, a, nx⟩ ≤ 60000
  pos : 0 ≤ bytes2 ⟨acc.drop off, a, nx⟩
theorem drop_eq {acc : List Msg} {off : Nat} (h : off < acc.length) : acc.drop off = acc.getD off default :: acc.drop (off + 1) := by
  rw [List.drop_eq_getElem_cons h]; simp [List.getD_eq_getElem?_getD, h]
theorem fine_pos {N : Nat} {s : S2} (h : Fine N s) : 0 ≤ bytes2 s := by
  obtain ⟨l, a, nx⟩ := s
  cases l with
  | nil => have h := h.none rfl; have : a = 0 := h; subst this; simp [bytes2, total]
  | cons m r =>
    have := h.head m r rfl
    have : a < m.text.length := this
    have e := total_cons m r
    simp only [bytes2, e]; omega
theorem Acc.push {acc : List Msg} {k : Nat} {m : Msg} (h : Acc acc k) (h1 : m.stream < 3) (h2 : m.text ≠ []) (h3 : m.text.length ≤ 2000) (h4 : total acc + m.text.length ≤ 60000) : Acc (acc ++ [m]) (k + 1) := by
  have : 1 ≤ m.text.length := List.length_pos_iff.2 h2
  refine ⟨h.fine.push h1 this (by omega), ?_, ?_, ?_⟩
  · rw [total_append]; simp [total] at h4 ⊢; omega
  · have := h.len; simp; omega
  · intro x hx
    rcases List.mem_append.1 hx with hx | hx
    · exact h.txt x hx
    · rw [List.mem_singleton.1 hx]; exact h3
theorem take_more (l : List UInt8) (a c : Nat) : l.take a ++ (l.drop a).take c = l.take (a + c) := by rw [← List.take_add]
end Towline.Store
namespace Go.Proofs.Yteblkbnkaogkmaa
open Go Towline Towline.Store
set_option linter.unusedVariables false
set_option maxRecDepth 20000
set_option maxHeartbeats 8000000
theorem back_spec (l : List Msg) (sz : List Int) (hl4 : l.length ≤ maxLen) (hl5 : sz.length ≤ maxLen) (hu : ∀ m ∈ l, m.stream ≤ 65535) :
    PSpec Try.prog 3 [.d (slT 6 encM l), .d (slT 1 encI sz)] (· = vb true) := by
  refine PSpec.run tysOk follows Try.func3 (by decide) rfl Try.ntmps3 (Nat.le_of_ble_eq_true rfl) rfl fun w0 R0 => ?_
  conv => whnf
  refine ⟨_, shown_spec, ?_⟩
  rintro q rfl
  conv => whnf
  split <;> rename_i h1
  · conv => whnf
    exact ⟨_, .refl _, rfl, rfl⟩
  · replace h1 := of_decide_eq_false h1
    try simp only [Int.toNat_natCast] at h1
    have h1 : l.length ≤ 30 := by omega
    conv => whnf
    split <;> rename_i h2
    · conv => whnf
      exact ⟨_, .refl _, rfl, rfl⟩
    · replace h2 := of_decide_eq_false h2
      try simp only [Int.toNat_natCast] at h2
      have h2 : sz.length ≤ 100 := by omega
      conv => whnf
      refine ⟨_, new_ok 3 (by omega) (by omega), ?_⟩
      rintro q rfl
      conv => whnf
      refine ALoop.adopt 8 1000 6 34 (fun j => []) rfl rfl rfl ?_
      refine ALoop.introR tysOk follows (fun x : {p : Nat × List Msg // p.1 ≤ l.length ∧ Acc p.2 p.1} => ([(0, .d (slT 6 encM l)), (1, .d (slT 1 encI sz)), (6, .ptr 6 0), (8, .rsl 1000 6 0 x.1.2.length), (9, vi x.1.1)], [(6, .box (stL x.1.2 0 [0, 0, 0])), (1000, .row 34 6 x.1.2.length (fun j => encM (x.1.2.getD j default)))])) (fun x => l.length - x.1.1) ⟨(0, []), by omega, ⟨Fine.new 3, by simp [total], by simp, by simp⟩⟩ ?_ ?_
      · exact ⟨.refl _, .refl _, .refl _, .refl _, .refl _, OLe.refl _, ⟨rfl, rfl, rfl, fun j hj => absurd hj (Nat.not_lt_zero j)⟩, trivial⟩
      · rintro ⟨⟨k, acc⟩, hk, hacc⟩
        dsimp only at hk hacc ⊢
        conv => whnf
        split <;> rename_i h3
        · replace h3 := of_decide_eq_true h3
          try simp only [Int.toNat_natCast] at h3
          have h3 : k < l.length := by omega
          have hmem := getD_mem h3
          conv => whnf
          refine ⟨by first | omega | (simp only [Int.toNat_natCast]; omega) | (simp; done) | (simp; omega), ?_⟩
          conv => whnf
          split <;> rename_i h4
          · conv => whnf
            exact ⟨_, .refl _, rfl, rfl⟩
          · replace h4 := of_decide_eq_false h4
            try simp only [Int.toNat_natCast] at h4
            have hlen := hacc.len
            have htot := hacc.tot
            conv => whnf
            refine ⟨by first | omega | (simp only [Int.toNat_natCast]; omega) | (simp; done) | (simp; omega), ?_⟩
            conv => whnf
            refine ⟨_, push_spec2 acc 0 [0, 0, 0] (l.getD k default) (by omega) (by omega) (by omega) (by omega) (hu _ hmem), ?_⟩
            conv => whnf
            refine ⟨by kernel_rfl, ?_⟩
            conv => whnf
            split <;> rename_i h5
            · have h5 : pushE acc 0 [0, 0, 0] (l.getD k default) = 0 := by simpa using h5
              have e1 : pushS acc 0 [0, 0, 0] (l.getD k default) = acc ++ [l.getD k default] := by unfold pushS; rw [if_pos h5]
              have e2 : pushA acc 0 [0, 0, 0] (l.getD k default) = 0 := by unfold pushA; split <;> rfl
              have e3 : pushN acc 0 [0, 0, 0] (l.getD k default) = [0, 0, 0] := by unfold pushN; rw [if_pos h5]
              have h6 : (l.getD k default).stream < 3 ∧ (l.getD k default).text ≠ [] ∧ total acc + (l.getD k default).text.length ≤ 60000 := by
                unfold pushE at h5
                split at h5
                · exact absurd h5 (by decide)
                · rename_i g1
                  split at h5
                  · exact absurd h5 (by decide)
                  · rename_i g2
                    split at h5
                    · exact absurd h5 (by decide)
                    · split at h5
                      · exact absurd h5 (by decide)
                      · rename_i g4
                        have g1 : ¬ 3 ≤ (l.getD k default).stream := g1
                        exact ⟨by omega, g2, by omega⟩
              rw [e1, e2, e3]
              conv => whnf
              refine ⟨by first | omega | (simp only [Int.toNat_natCast]; omega) | (simp; done) | (simp; omega), ?_⟩
              conv => whnf
              refine ⟨⟨⟨rfl, by omega, by simp only [ty34]; omega⟩, by omega⟩, ?_⟩
              conv => whnf
              refine ⟨by first | omega | (simp only [Int.toNat_natCast]; omega) | (simp; done) | (simp; omega), ?_⟩
              conv => whnf
              refine ⟨⟨(k + 1, acc ++ [l.getD k default]), by dsimp only; omega, hacc.push h6.1 h6.2.1 (by omega) h6.2.2⟩, [(74, 1000)], by dsimp only; omega, .refl _, .refl _, .refl _, .of_eq (by dsimp only; rw [List.length_append]; rfl), .refl _, OLe.refl _, ⟨rfl, rfl, by dsimp only; rw [List.length_append]; rfl, fun j hj => ?_⟩, trivial⟩
              dsimp only
              exact slT_app encM acc (l.getD k default) j (by simpa using hj) rfl
            · conv => whnf
              refine ⟨by first | omega | (simp only [Int.toNat_natCast]; omega) | (simp; done) | (simp; omega), ?_⟩
              conv => whnf
              exact ⟨⟨(k + 1, acc), by dsimp only; omega, ⟨hacc.fine, hacc.tot, by have := hacc.len; dsimp only; omega, hacc.txt⟩⟩, [], by dsimp only; omega, .refl _, .refl _, .refl _, .refl _, .refl _, OLe.refl _, OLe.refl _, trivial⟩
        · replace h3 := of_decide_eq_false h3
          try simp only [Int.toNat_natCast] at h3
          have h3 : k = l.length := by omega
          have hlen : acc.length ≤ 30 := by have := hacc.len; omega
          conv => whnf
          refine ⟨⟨by omega, by omega, by simp only [ty31]; omega, by omega⟩, ?_⟩
          conv => whnf
          refine ALoop.introR tysOk follows (fun x : {p : Nat × Nat × Nat × List Nat // Inv acc p.1 p.2.1 p.2.2.1 p.2.2.2} => ([(1, .d (slT 1 encI sz)), (6, .ptr 6 0), (8, .rsl 1000 6 x.1.1 (acc.length - x.1.1)), (12, .rsl 75 1 0 3), (13, vs (hadOf acc x.1.1 x.1.2.1)), (14, vi x.1.2.2.1)], [(6, .box (stL (acc.drop x.1.1) x.1.2.1 x.1.2.2.2)), (1000, .row 34 6 acc.length (fun j => encM (acc.getD j default))), (75, .row 31 1 3 (fun j => encN (x.1.2.2.2.getD j default)))])) (fun x => (bytes2 ⟨acc.drop x.1.1, x.1.2.1, x.1.2.2.2⟩).toNat) ⟨(0, 0, 0, [0, 0, 0]), ⟨hacc.fine, by dsimp only; omega, by have := hacc.tot; simp [bytes2]; omega, fine_pos hacc.fine⟩⟩ ?_ ?_
          · refine ⟨.refl _, .refl _, .refl _, .refl _, .of_eq (by simp [hadOf]), .refl _, OLe.refl _, OLe.refl _, ⟨rfl, rfl, rfl, fun j hj => ?_⟩, trivial⟩
            match j, hj with
            | 0, _ => rfl
            | 1, _ => rfl
            | 2, _ => rfl
          · rintro ⟨⟨off, a, i, nx⟩, hinv⟩
            dsimp only at hinv ⊢
            have hoff := hinv.le
            have hck := hinv.clock
            have hps := hinv.pos
            conv => whnf
            split <;> rename_i h4
            · replace h4 := of_decide_eq_true h4
              try simp only [Int.toNat_natCast] at h4
              have h4 : off < acc.length := by omega
              have hm := drop_eq h4
              obtain ⟨m, em⟩ : ∃ m, m = acc.getD off default := ⟨_, rfl⟩
              rw [← em] at hm
              obtain ⟨r, er⟩ : ∃ r, r = acc.drop (off + 1) := ⟨_, rfl⟩
              rw [← er] at hm
              have hf := hinv.fine
              rw [hm] at hf hck hps
              have hmm := hf.msg m (by simp)
              have ha : a < m.text.length := hf.head m r rfl
              have hnl : nx.length = 3 := hf.len
              have hrl : r.length ≤ 30 := by rw [er]; simp; omega
              have hb : hadOf acc off a = m.text.take a := by rw [em]; rfl
              have hb2 : ∀ {c}, hadOf acc off (a + c) = m.text.take (a + c) := by intro c; rw [em]; rfl
              have htx : m.text.length ≤ 2000 := hacc.txt m (by rw [em]; exact getD_mem h4)
              have he0 : acc.getD (off + Int.toNat 0) default = m := by rw [em]; rfl
              have htr : total r ≤ 60000 := by
                have := hinv.clock
                rw [hm] at this
                have e := total_cons m r
                simp only [bytes2, e] at this
                omega
              rw [hm, hb]
              conv => whnf
              split <;> rename_i h5
              · replace h5 := of_decide_eq_true h5
                try simp only [Int.toNat_natCast] at h5
                conv => whnf
                refine ⟨by first | omega | (simp only [Int.toNat_natCast]; omega) | (simp; done) | (simp; omega), ?_⟩
                conv => whnf
                obtain ⟨c, ec⟩ : ∃ c, c = cut m a (sz.getD i default) := ⟨_, rfl⟩
                obtain ⟨c1, c2, c3⟩ := cut_le (most := (sz.getD i default)) ha
                rw [← ec] at c1 c2 c3
                have hp := take_spec m r a nx (sz.getD i default) (by rw [hnl]; exact hmm.1) (by omega) ha (by omega) (by omega) (by rw [hnl]; decide)
                have hby := bytes2_take (sz.getD i default) hf
                have hfn := hf.take (sz.getD i default)
                have hlc : ((m.text.drop a).take c).length = c := by rw [List.length_take, List.length_drop]; omega
                have hne : ((m.text.drop a).take c == []) = false := by
                  cases hl : (m.text.drop a).take c with
                  | nil => rw [hl] at hlc; simp at hlc; omega
                  | cons => rfl
                have hbe : ((a == 0) != (m.text.take a == [])) = false := by
                  cases a with
                  | zero => rfl
                  | succ a =>
                    cases ht : m.text.take (a + 1) with
                    | nil =>
                      have := congrArg List.length ht
                      rw [List.length_take] at this
                      have this : min (a + 1) m.text.length = 0 := this
                      omega
                    | cons => rfl
                rcases Nat.lt_or_ge (a + c) m.text.length with hc | hc
                · have e1 : after m r a nx (sz.getD i default) = ⟨m :: r, a + c, nx⟩ := by unfold after; rw [← ec, if_pos hc]
                  have e2 : pieceOf m a nx (sz.getD i default) = ⟨0, a == 0, false, m.free, m.stream, num m nx, m.ppid, (m.text.drop a).take c⟩ := by unfold pieceOf; rw [← ec, decide_eq_false (by omega)]
                  rw [e1, e2] at hp
                  rw [e1, ← ec] at hby
                  rw [e1] at hfn
                  have hpn := fine_pos hfn
                  rw [hby] at hpn
                  have hte : (false != (m.text.take (a + c) == m.text)) = false := by
                    rw [bne_eq_false_iff_eq, eq_comm, beq_eq_false_iff_ne]
                    intro e
                    have := congrArg List.length e
                    rw [List.length_take] at this
                    omega
                  replace hp : PSpec Try.prog 11 [stA (m :: r) a nx, vi (sz.getD i default)] (· = .tup [stA (m :: r) (a + c : Nat) nx, .agg [.d (.i .u32 0), vb (a == 0), vb false, vb m.free, .d (.i .u16 m.stream), .d (.i .u16 (num m nx)), .d (.i .u32 m.ppid), vs ((m.text.drop a).take c)], vi m.id, vb true]) := hp
                  refine ⟨_, hp, ?_⟩
                  rintro q rfl
                  conv => whnf
                  refine ⟨by first | omega | (simp only [Int.toNat_natCast]; omega) | (simp; done) | (simp; omega), ?_⟩
                  conv => whnf
                  refine ⟨by first | omega | (simp only [Int.toNat_natCast]; omega) | (simp; done) | (simp; omega), ?_⟩
                  conv => whnf
                  rw [he0]
                  rw [bne_self_eq_false]
                  conv => whnf
                  rw [bne_self_eq_false]
                  conv => whnf
                  rw [bne_self_eq_false]
                  conv => whnf
                  rw [bne_self_eq_false]
                  conv => whnf
                  rw [show ((m.text.drop a).take c == []) = false from hne]
                  conv => whnf
                  rw [show ((a == 0) != (m.text.take a == [])) = false from hbe]
                  conv => whnf
                  refine ⟨_, bytes_spec (m :: r) (a + c : Nat) nx (by rw [total_cons]; omega) (by omega) (by omega) (by rw [List.length_cons]; omega), ?_⟩
                  conv => whnf
                  refine ⟨_, bytes_spec (m :: r) a nx (by rw [total_cons]; omega) (by omega) (by omega) (by rw [List.length_cons]; omega), ?_⟩
                  conv => whnf
                  refine ⟨by rw [hlc, total_cons]; omega, ?_⟩
                  conv => whnf
                  refine ⟨by kernel_rfl, ?_⟩
                  conv => whnf
                  split <;> rename_i hx
                  · exfalso
                    simp only [bne_iff_ne, ne_eq] at hx
                    rw [hlc, total_cons] at hx
                    omega
                  · conv => whnf
                    refine ⟨by rw [hlc, List.length_take]; omega, ?_⟩
                    rw [take_more]
                    conv => whnf
                    rw [hte]
                    conv => whnf
                    split <;> rename_i hy
                    · exfalso
                      replace hy := of_decide_eq_true hy
                      try simp only [Int.toNat_natCast] at hy
                      rw [List.length_take] at hy
                      omega
                    · conv => whnf
                      cases hfr : m.free with
                      | true =>
                        conv => whnf
                        rw [show (((num m nx : Nat) : Int) != 0) = false from by simp [num, hfr]]
                        conv => whnf
                        refine ⟨by kernel_rfl, ?_⟩
                        conv => whnf
                        refine ⟨by first | omega | (simp only [Int.toNat_natCast]; omega) | (simp; done) | (simp; omega), ?_⟩
                        conv => whnf
                        refine ⟨⟨(off, a + c, i + 1, nx), ⟨by dsimp only; rw [hm]; exact hfn, hoff, by dsimp only; rw [hm, hby]; omega, by dsimp only; rw [hm]; exact fine_pos hfn⟩⟩, [], by dsimp only; rw [hm, hby]; omega, .refl _, .refl _, .refl _, .refl _, .of_eq (congrArg (fun x => AVal.d (D.s x)) hb2.symm), .refl _, ⟨.of_eq (by rw [hm]), .refl _, .refl _, trivial⟩, OLe.refl _, OLe.refl _, trivial⟩
                      | false =>
                        conv => whnf
                        refine ⟨by first | omega | (simp only [Int.toNat_natCast]; omega) | (simp; done) | (simp; omega), ?_⟩
                        conv => whnf
                        refine ⟨by first | omega | (simp only [Int.toNat_natCast]; omega) | (simp; done) | (simp; omega), ?_⟩
                        conv => whnf
                        rw [show (((num m nx : Nat) : Int) != ((nx.getD (0 + Int.toNat (m.stream : Int)) default : Nat) : Int)) = false from by simp [num, hfr, Nat.default_eq_zero]]
                        conv => whnf
                        refine ⟨by kernel_rfl, ?_⟩
                        conv => whnf
                        refine ⟨by first | omega | (simp only [Int.toNat_natCast]; omega) | (simp; done) | (simp; omega), ?_⟩
                        conv => whnf
                        refine ⟨⟨(off, a + c, i + 1, nx), ⟨by dsimp only; rw [hm]; exact hfn, hoff, by dsimp only; rw [hm, hby]; omega, by dsimp only; rw [hm]; exact fine_pos hfn⟩⟩, [], by dsimp only; rw [hm, hby]; omega, .refl _, .refl _, .refl _, .refl _, .of_eq (congrArg (fun x => AVal.d (D.s x)) hb2.symm), .refl _, ⟨.of_eq (by rw [hm]), .refl _, .refl _, trivial⟩, OLe.refl _, OLe.refl _, trivial⟩
                · have e1 : after m r a nx (sz.getD i default) = ⟨r, 0, bump m nx⟩ := by unfold after; rw [← ec, if_neg (by omega)]
                  have e2 : pieceOf m a nx (sz.getD i default) = ⟨0, a == 0, true, m.free, m.stream, num m nx, m.ppid, (m.text.drop a).take c⟩ := by unfold pieceOf; rw [← ec, decide_eq_true (by omega)]
                  rw [e1, e2] at hp
                  rw [e1, ← ec] at hby
                  rw [e1] at hfn
                  have hpn := fine_pos hfn
                  rw [hby] at hpn
                  have hte : (true != (m.text.take (a + c) == m.text)) = false := by
                    rw [List.take_of_length_le (by omega)]; simp
                  replace hp : PSpec Try.prog 11 [stA (m :: r) a nx, vi (sz.getD i default)] (· = .tup [stA r 0 (bump m nx), .agg [.d (.i .u32 0), vb (a == 0), vb true, vb m.free, .d (.i .u16 m.stream), .d (.i .u16 (num m nx)), .d (.i .u32 m.ppid), vs ((m.text.drop a).take c)], vi m.id, vb true]) := hp
                  refine ⟨_, hp, ?_⟩
                  rintro q rfl
                  conv => whnf
                  refine ⟨by first | omega | (simp only [Int.toNat_natCast]; omega) | (simp; done) | (simp; omega), ?_⟩
                  conv => whnf
                  refine ⟨by first | omega | (simp only [Int.toNat_natCast]; omega) | (simp; done) | (simp; omega), ?_⟩
                  conv => whnf
                  rw [he0]
                  rw [bne_self_eq_false]
                  conv => whnf
                  rw [bne_self_eq_false]
                  conv => whnf
                  rw [bne_self_eq_false]
                  conv => whnf
                  rw [bne_self_eq_false]
                  conv => whnf
                  rw [show ((m.text.drop a).take c == []) = false from hne]
                  conv => whnf
                  rw [show ((a == 0) != (m.text.take a == [])) = false from hbe]
                  conv => whnf
                  refine ⟨_, bytes_spec (r) 0 (bump m nx) (by omega) (by omega) (by omega) (by omega), ?_⟩
                  conv => whnf
                  refine ⟨_, bytes_spec (m :: r) a nx (by rw [total_cons]; omega) (by omega) (by omega) (by rw [List.length_cons]; omega), ?_⟩
                  conv => whnf
                  refine ⟨by rw [hlc, total_cons]; omega, ?_⟩
                  conv => whnf
                  refine ⟨by kernel_rfl, ?_⟩
                  conv => whnf
                  split <;> rename_i hx
                  · exfalso
                    simp only [bne_iff_ne, ne_eq] at hx
                    rw [hlc, total_cons] at hx
                    omega
                  · conv => whnf
                    refine ⟨by rw [hlc, List.length_take]; omega, ?_⟩
                    rw [take_more]
                    conv => whnf
                    rw [hte]
                    conv => whnf
                    split <;> rename_i hy
                    · exfalso
                      replace hy := of_decide_eq_true hy
                      try simp only [Int.toNat_natCast] at hy
                      rw [List.length_take] at hy
                      omega
                    · conv => whnf
                      cases hfr : m.free with
                      | true =>
                        conv => whnf
                        rw [show (((num m nx : Nat) : Int) != 0) = false from by simp [num, hfr]]
                        conv => whnf
                        refine ⟨by kernel_rfl, ?_⟩
                        conv => whnf
                        refine ⟨by first | omega | (simp only [Int.toNat_natCast]; omega) | (simp; done) | (simp; omega), ?_⟩
                        conv => whnf
                        refine ⟨by first | omega | (simp only [Int.toNat_natCast]; omega) | (simp; done) | (simp; omega), ?_⟩
                        conv => whnf
                        have e9 : bump m nx = nx := by simp [bump, hfr]
                        refine ⟨⟨(off + 1, 0, i + 1, bump m nx), ⟨by dsimp only; rw [← er]; exact hfn, by omega, by dsimp only; rw [← er, hby]; omega, by dsimp only; rw [← er, hby]; omega⟩⟩, [], by dsimp only; rw [← er, hby]; omega, .refl _, .refl _, .of_eq (by rw [Nat.sub_sub]; rfl), .refl _, .of_eq (by simp [hadOf]), .refl _, ⟨.of_eq (congrArg (fun x => AVal.d (slT 6 encM x)) er), .refl _, .refl _, trivial⟩, OLe.refl _, ⟨rfl, rfl, rfl, fun j hj => by dsimp only; rw [e9]⟩, trivial⟩
                      | false =>
                        conv => whnf
                        refine ⟨by first | omega | (simp only [Int.toNat_natCast]; omega) | (simp; done) | (simp; omega), ?_⟩
                        conv => whnf
                        refine ⟨by first | omega | (simp only [Int.toNat_natCast]; omega) | (simp; done) | (simp; omega), ?_⟩
                        conv => whnf
                        rw [show (((num m nx : Nat) : Int) != ((nx.getD (0 + Int.toNat (m.stream : Int)) default : Nat) : Int)) = false from by simp [num, hfr, Nat.default_eq_zero]]
                        conv => whnf
                        refine ⟨by kernel_rfl, ?_⟩
                        conv => whnf
                        refine ⟨by first | omega | (simp only [Int.toNat_natCast]; omega) | (simp; done) | (simp; omega), ?_⟩
                        conv => whnf
                        refine ⟨by first | omega | (simp only [Int.toNat_natCast]; omega) | (simp; done) | (simp; omega), ?_⟩
                        conv => whnf
                        refine ⟨by first | omega | (simp only [Int.toNat_natCast]; omega) | (simp; done) | (simp; omega), ?_⟩
                        conv => whnf
                        refine ⟨by first | omega | (simp only [Int.toNat_natCast]; omega) | (simp; done) | (simp; omega), ?_⟩
                        conv => whnf
                        refine ⟨by first | omega | (simp only [Int.toNat_natCast]; omega) | (simp; done) | (simp; omega), ?_⟩
                        conv => whnf
                        refine ⟨by first | omega | (simp only [Int.toNat_natCast]; omega) | (simp; done) | (simp; omega), ?_⟩
                        conv => whnf
                        refine ⟨⟨(off + 1, 0, i + 1, bump m nx), ⟨by dsimp only; rw [← er]; exact hfn, by omega, by dsimp only; rw [← er, hby]; omega, by dsimp only; rw [← er, hby]; omega⟩⟩, [], by dsimp only; rw [← er, hby]; omega, .refl _, .refl _, .of_eq (by rw [Nat.sub_sub]; rfl), .refl _, .of_eq (by simp [hadOf]), .refl _, ⟨.of_eq (congrArg (fun x => AVal.d (slT 6 encM x)) er), .refl _, .refl _, trivial⟩, OLe.refl _, ⟨rfl, rfl, rfl, fun j hj => ?_⟩, trivial⟩
                        have e3 : IntKind.u16.wrap (((nx.getD m.stream 0 : Nat) : Int) + 1) = (((nx.getD m.stream 0 + 1) % 65536 : Nat) : Int) := by simp [IntKind.wrap, IntKind.bits, IntKind.signed]
                        have e4 : bump m nx = nx.set m.stream ((nx.getD m.stream 0 + 1) % 65536) := by simp [bump, hfr]
                        have hst := hmm.1
                        dsimp only at hst ⊢
                        rw [e4]
                        simp only [fupd, Nat.zero_add, Int.toNat_natCast]
                        split
                        · rename_i e
                          subst e
                          rw [show (nx.getD m.stream default) = nx.getD m.stream 0 from rfl, e3]
                          simp [encN, hnl, hst]
                        · rename_i e
                          rw [show (default : Nat) = 0 from rfl]
                          simp only [List.getD_eq_getElem?_getD, List.getElem?_set]
                          rw [if_neg (by omega)]
              · replace h5 := of_decide_eq_false h5
                try simp only [Int.toNat_natCast] at h5
                conv => whnf
                obtain ⟨c, ec⟩ : ∃ c, c = cut m a 1000 := ⟨_, rfl⟩
                obtain ⟨c1, c2, c3⟩ := cut_le (most := 1000) ha
                rw [← ec] at c1 c2 c3
                have hp := take_spec m r a nx 1000 (by rw [hnl]; exact hmm.1) (by omega) ha (by omega) (by omega) (by rw [hnl]; decide)
                have hby := bytes2_take 1000 hf
                have hfn := hf.take 1000
                have hlc : ((m.text.drop a).take c).length = c := by rw [List.length_take, List.length_drop]; omega
                have hne : ((m.text.drop a).take c == []) = false := by
                  cases hl : (m.text.drop a).take c with
                  | nil => rw [hl] at hlc; simp at hlc; omega
                  | cons => rfl
                have hbe : ((a == 0) != (m.text.take a == [])) = false := by
                  cases a with
                  | zero => rfl
                  | succ a =>
                    cases ht : m.text.take (a + 1) with
                    | nil =>
                      have := congrArg List.length ht
                      rw [List.length_take] at this
                      have this : min (a + 1) m.text.length = 0 := this
                      omega
                    | cons => rfl
                rcases Nat.lt_or_ge (a + c) m.text.length with hc | hc
                · have e1 : after m r a nx 1000 = ⟨m :: r, a + c, nx⟩ := by unfold after; rw [← ec, if_pos hc]
                  have e2 : pieceOf m a nx 1000 = ⟨0, a == 0, false, m.free, m.stream, num m nx, m.ppid, (m.text.drop a).take c⟩ := by unfold pieceOf; rw [← ec, decide_eq_false (by omega)]
                  rw [e1, e2] at hp
                  rw [e1, ← ec] at hby
                  rw [e1] at hfn
                  have hpn := fine_pos hfn
                  rw [hby] at hpn
                  have hte : (false != (m.text.take (a + c) == m.text)) = false := by
                    rw [bne_eq_false_iff_eq, eq_comm, beq_eq_false_iff_ne]
                    intro e
                    have := congrArg List.length e
                    rw [List.length_take] at this
                    omega
                  replace hp : PSpec Try.prog 11 [stA (m :: r) a nx, vi 1000] (· = .tup [stA (m :: r) (a + c : Nat) nx, .agg [.d (.i .u32 0), vb (a == 0), vb false, vb m.free, .d (.i .u16 m.stream), .d (.i .u16 (num m nx)), .d (.i .u32 m.ppid), vs ((m.text.drop a).take c)], vi m.id, vb true]) := hp
                  refine ⟨_, hp, ?_⟩
                  rintro q rfl
                  conv => whnf
                  refine ⟨by first | omega | (simp only [Int.toNat_natCast]; omega) | (simp; done) | (simp; omega), ?_⟩
                  conv => whnf
                  refine ⟨by first | omega | (simp only [Int.toNat_natCast]; omega) | (simp; done) | (simp; omega), ?_⟩
                  conv => whnf
                  rw [he0]
                  rw [bne_self_eq_false]
                  conv => whnf
                  rw [bne_self_eq_false]
                  conv => whnf
                  rw [bne_self_eq_false]
                  conv => whnf
                  rw [bne_self_eq_false]
                  conv => whnf
                  rw [show ((m.text.drop a).take c == []) = false from hne]
                  conv => whnf
                  rw [show ((a == 0) != (m.text.take a == [])) = false from hbe]
                  conv => whnf
                  refine ⟨_, bytes_spec (m :: r) (a + c : Nat) nx (by rw [total_cons]; omega) (by omega) (by omega) (by rw [List.length_cons]; omega), ?_⟩
                  conv => whnf
                  refine ⟨_, bytes_spec (m :: r) a nx (by rw [total_cons]; omega) (by omega) (by omega) (by rw [List.length_cons]; omega), ?_⟩
                  conv => whnf
                  refine ⟨by rw [hlc, total_cons]; omega, ?_⟩
                  conv => whnf
                  refine ⟨by kernel_rfl, ?_⟩
                  conv => whnf
                  split <;> rename_i hx
                  · exfalso
                    simp only [bne_iff_ne, ne_eq] at hx
                    rw [hlc, total_cons] at hx
                    omega
                  · conv => whnf
                    refine ⟨by rw [hlc, List.length_take]; omega, ?_⟩
                    rw [take_more]
                    conv => whnf
                    rw [hte]
                    conv => whnf
                    split <;> rename_i hy
                    · exfalso
                      replace hy := of_decide_eq_true hy
                      try simp only [Int.toNat_natCast] at hy
                      rw [List.length_take] at hy
                      omega
                    · conv => whnf
                      cases hfr : m.free with
                      | true =>
                        conv => whnf
                        rw [show (((num m nx : Nat) : Int) != 0) = false from by simp [num, hfr]]
                        conv => whnf
                        refine ⟨by kernel_rfl, ?_⟩
                        conv => whnf
                        refine ⟨by first | omega | (simp only [Int.toNat_natCast]; omega) | (simp; done) | (simp; omega), ?_⟩
                        conv => whnf
                        refine ⟨⟨(off, a + c, i + 1, nx), ⟨by dsimp only; rw [hm]; exact hfn, hoff, by dsimp only; rw [hm, hby]; omega, by dsimp only; rw [hm]; exact fine_pos hfn⟩⟩, [], by dsimp only; rw [hm, hby]; omega, .refl _, .refl _, .refl _, .refl _, .of_eq (congrArg (fun x => AVal.d (D.s x)) hb2.symm), .refl _, ⟨.of_eq (by rw [hm]), .refl _, .refl _, trivial⟩, OLe.refl _, OLe.refl _, trivial⟩
                      | false =>
                        conv => whnf
                        refine ⟨by first | omega | (simp only [Int.toNat_natCast]; omega) | (simp; done) | (simp; omega), ?_⟩
                        conv => whnf
                        refine ⟨by first | omega | (simp only [Int.toNat_natCast]; omega) | (simp; done) | (simp; omega), ?_⟩
                        conv => whnf
                        rw [show (((num m nx : Nat) : Int) != ((nx.getD (0 + Int.toNat (m.stream : Int)) default : Nat) : Int)) = false from by simp [num, hfr, Nat.default_eq_zero]]
                        conv => whnf
                        refine ⟨by kernel_rfl, ?_⟩
                        conv => whnf
                        refine ⟨by first | omega | (simp only [Int.toNat_natCast]; omega) | (simp; done) | (simp; omega), ?_⟩
                        conv => whnf
                        refine ⟨⟨(off, a + c, i + 1, nx), ⟨by dsimp only; rw [hm]; exact hfn, hoff, by dsimp only; rw [hm, hby]; omega, by dsimp only; rw [hm]; exact fine_pos hfn⟩⟩, [], by dsimp only; rw [hm, hby]; omega, .refl _, .refl _, .refl _, .refl _, .of_eq (congrArg (fun x => AVal.d (D.s x)) hb2.symm), .refl _, ⟨.of_eq (by rw [hm]), .refl _, .refl _, trivial⟩, OLe.refl _, OLe.refl _, trivial⟩
                · have e1 : after m r a nx 1000 = ⟨r, 0, bump m nx⟩ := by unfold after; rw [← ec, if_neg (by omega)]
                  have e2 : pieceOf m a nx 1000 = ⟨0, a == 0, true, m.free, m.stream, num m nx, m.ppid, (m.text.drop a).take c⟩ := by unfold pieceOf; rw [← ec, decide_eq_true (by omega)]
                  rw [e1, e2] at hp
                  rw [e1, ← ec] at hby
                  rw [e1] at hfn
                  have hpn := fine_pos hfn
                  rw [hby] at hpn
                  have hte : (true != (m.text.take (a + c) == m.text)) = false := by
                    rw [List.take_of_length_le (by omega)]; simp
                  replace hp : PSpec Try.prog 11 [stA (m :: r) a nx, vi 1000] (· = .tup [stA r 0 (bump m nx), .agg [.d (.i .u32 0), vb (a == 0), vb true, vb m.free, .d (.i .u16 m.stream), .d (.i .u16 (num m nx)), .d (.i .u32 m.ppid), vs ((m.text.drop a).take c)], vi m.id, vb true]) := hp
                  refine ⟨_, hp, ?_⟩
                  rintro q rfl
                  conv => whnf
                  refine ⟨by first | omega | (simp only [Int.toNat_natCast]; omega) | (simp; done) | (simp; omega), ?_⟩
                  conv => whnf
                  refine ⟨by first | omega | (simp only [Int.toNat_natCast]; omega) | (simp; done) | (simp; omega), ?_⟩
                  conv => whnf
                  rw [he0]
                  rw [bne_self_eq_false]
                  conv => whnf
                  rw [bne_self_eq_false]
                  conv => whnf
                  rw [bne_self_eq_false]
                  conv => whnf
                  rw [bne_self_eq_false]
                  conv => whnf
                  rw [show ((m.text.drop a).take c == []) = false from hne]
                  conv => whnf
                  rw [show ((a == 0) != (m.text.take a == [])) = false from hbe]
                  conv => whnf
                  refine ⟨_, bytes_spec (r) 0 (bump m nx) (by omega) (by omega) (by omega) (by omega), ?_⟩
                  conv => whnf
                  refine ⟨_, bytes_spec (m :: r) a nx (by rw [total_cons]; omega) (by omega) (by omega) (by rw [List.length_cons]; omega), ?_⟩
                  conv => whnf
                  refine ⟨by rw [hlc, total_cons]; omega, ?_⟩
                  conv => whnf
                  refine ⟨by kernel_rfl, ?_⟩
                  conv => whnf
                  split <;> rename_i hx
                  · exfalso
                    simp only [bne_iff_ne, ne_eq] at hx
                    rw [hlc, total_cons] at hx
                    omega
                  · conv => whnf
                    refine ⟨by rw [hlc, List.length_take]; omega, ?_⟩
                    rw [take_more]
                    conv => whnf
                    rw [hte]
                    conv => whnf
                    split <;> rename_i hy
                    · exfalso
                      replace hy := of_decide_eq_true hy
                      try simp only [Int.toNat_natCast] at hy
                      rw [List.length_take] at hy
                      omega
                    · conv => whnf
                      cases hfr : m.free with
                      | true =>
                        conv => whnf
                        rw [show (((num m nx : Nat) : Int) != 0) = false from by simp [num, hfr]]
                        conv => whnf
                        refine ⟨by kernel_rfl, ?_⟩
                        conv => whnf
                        refine ⟨by first | omega | (simp only [Int.toNat_natCast]; omega) | (simp; done) | (simp; omega), ?_⟩
                        conv => whnf
                        refine ⟨by first | omega | (simp only [Int.toNat_natCast]; omega) | (simp; done) | (simp; omega), ?_⟩
                        conv => whnf
                        have e9 : bump m nx = nx := by simp [bump, hfr]
                        refine ⟨⟨(off + 1, 0, i + 1, bump m nx), ⟨by dsimp only; rw [← er]; exact hfn, by omega, by dsimp only; rw [← er, hby]; omega, by dsimp only; rw [← er, hby]; omega⟩⟩, [], by dsimp only; rw [← er, hby]; omega, .refl _, .refl _, .of_eq (by rw [Nat.sub_sub]; rfl), .refl _, .of_eq (by simp [hadOf]), .refl _, ⟨.of_eq (congrArg (fun x => AVal.d (slT 6 encM x)) er), .refl _, .refl _, trivial⟩, OLe.refl _, ⟨rfl, rfl, rfl, fun j hj => by dsimp only; rw [e9]⟩, trivial⟩
                      | false =>
                        conv => whnf
                        refine ⟨by first | omega | (simp only [Int.toNat_natCast]; omega) | (simp; done) | (simp; omega), ?_⟩
                        conv => whnf
                        refine ⟨by first | omega | (simp only [Int.toNat_natCast]; omega) | (simp; done) | (simp; omega), ?_⟩
                        conv => whnf
                        rw [show (((num m nx : Nat) : Int) != ((nx.getD (0 + Int.toNat (m.stream : Int)) default : Nat) : Int)) = false from by simp [num, hfr, Nat.default_eq_zero]]
                        conv => whnf
                        refine ⟨by kernel_rfl, ?_⟩
                        conv => whnf
                        refine ⟨by first | omega | (simp only [Int.toNat_natCast]; omega) | (simp; done) | (simp; omega), ?_⟩
                        conv => whnf
                        refine ⟨by first | omega | (simp only [Int.toNat_natCast]; omega) | (simp; done) | (simp; omega), ?_⟩
                        conv => whnf
                        refine ⟨by first | omega | (simp only [Int.toNat_natCast]; omega) | (simp; done) | (simp; omega), ?_⟩
                        conv => whnf
                        refine ⟨by first | omega | (simp only [Int.toNat_natCast]; omega) | (simp; done) | (simp; omega), ?_⟩
                        conv => whnf
                        refine ⟨by first | omega | (simp only [Int.toNat_natCast]; omega) | (simp; done) | (simp; omega), ?_⟩
                        conv => whnf
                        refine ⟨by first | omega | (simp only [Int.toNat_natCast]; omega) | (simp; done) | (simp; omega), ?_⟩
                        conv => whnf
                        refine ⟨⟨(off + 1, 0, i + 1, bump m nx), ⟨by dsimp only; rw [← er]; exact hfn, by omega, by dsimp only; rw [← er, hby]; omega, by dsimp only; rw [← er, hby]; omega⟩⟩, [], by dsimp only; rw [← er, hby]; omega, .refl _, .refl _, .of_eq (by rw [Nat.sub_sub]; rfl), .refl _, .of_eq (by simp [hadOf]), .refl _, ⟨.of_eq (congrArg (fun x => AVal.d (slT 6 encM x)) er), .refl _, .refl _, trivial⟩, OLe.refl _, ⟨rfl, rfl, rfl, fun j hj => ?_⟩, trivial⟩
                        have e3 : IntKind.u16.wrap (((nx.getD m.stream 0 : Nat) : Int) + 1) = (((nx.getD m.stream 0 + 1) % 65536 : Nat) : Int) := by simp [IntKind.wrap, IntKind.bits, IntKind.signed]
                        have e4 : bump m nx = nx.set m.stream ((nx.getD m.stream 0 + 1) % 65536) := by simp [bump, hfr]
                        have hst := hmm.1
                        dsimp only at hst ⊢
                        rw [e4]
                        simp only [fupd, Nat.zero_add, Int.toNat_natCast]
                        split
                        · rename_i e
                          subst e
                          rw [show (nx.getD m.stream default) = nx.getD m.stream 0 from rfl, e3]
                          simp [encN, hnl, hst]
                        · rename_i e
                          rw [show (default : Nat) = 0 from rfl]
                          simp only [List.getD_eq_getElem?_getD, List.getElem?_set]
                          rw [if_neg (by omega)]
            · replace h4 := of_decide_eq_false h4
              try simp only [Int.toNat_natCast] at h4
              have h4 : off = acc.length := by omega
              have hd : acc.drop off = [] := by rw [h4]; simp
              have ha0 : a = 0 := by have := hinv.fine.none hd; exact this
              rw [hd, ha0]
              conv => whnf
              refine ⟨_, take_none 0 nx 5, ?_⟩
              rintro q rfl
              conv => whnf
              refine ⟨_, bytes_spec [] 0 nx (by decide) (by decide) (by decide) (by decide), ?_⟩
              rintro q rfl
              conv => whnf
              exact ⟨_, .refl _, rfl, rfl⟩
theorem storeBack_of {l0 l1 : List D} (h0 : wt tys 8 22 l0) (h1 : wt tys 8 23 l1) :
    PSpec Try.prog 3 [asV false l0, asV false l1] (· = vb true) := by
  obtain ⟨d0, rfl⟩ : ∃ d, l0 = [d] := by
    obtain ⟨m, f, hx, _⟩ := h0
    exact ⟨_, hx⟩
  obtain ⟨d1, rfl⟩ : ∃ d, l1 = [d] := by
    obtain ⟨m, f, hx, _⟩ := h1
    exact ⟨_, hx⟩
  obtain ⟨l, k1, k2, k3⟩ := wt_msgs (n := 5) h0
  obtain ⟨s, k4, k5, k6⟩ := wt_ints (n := 6) h1
  exact (back_spec l s k1 k4 fun m hm => (k2 m hm).1).argsC ⟨k3, k6, trivial⟩
end Go.Proofs.Yteblkbnkaogkmaa
