/- The law of what waits too long, as a contract. -/
import Derived.Test.YteblkbnkaogkmaaStJ
namespace Towline.Store
theorem ins_pre (keep : Nat → Msg → Bool) : ∀ (l : List Msg) (i k : Nat), ∃ r, ins keep i l = ins keep i (l.take k) ++ r ∧ ∃ q, outs keep i l = outs keep i (l.take k) ++ q
  | [], i, k => ⟨[], by simp, [], by simp⟩
  | m :: l, i, 0 => ⟨ins keep i (m :: l), by simp [ins], outs keep i (m :: l), by simp [outs]⟩
  | m :: l, i, k + 1 => by
    obtain ⟨r, h1, q, h2⟩ := ins_pre keep l (i + 1) k
    simp only [List.take_succ_cons, ins, outs]
    split
    · exact ⟨r, by simp [h1], q, by simp [h2]⟩
    · exact ⟨r, by simp [h1], q, by simp [h2]⟩
theorem stays_on {a now : Int} {i j : Nat} {m : Msg} (hi : 0 < i) (h : stays a now i m = true) : stays a now j m = true := by
  simp only [stays, Bool.or_eq_true, Bool.and_eq_true, decide_eq_true_eq, beq_iff_eq] at h ⊢
  omega
theorem ins_stays (a now : Int) : ∀ (l : List Msg) (i j : Nat), 0 < i → ins (stays a now) j (ins (stays a now) i l) = ins (stays a now) i l ∧ outs (stays a now) j (ins (stays a now) i l) = []
  | [], i, j, _ => ⟨rfl, rfl⟩
  | m :: l, i, j, h => by
    simp only [ins]
    split
    · rename_i hs
      have h1 := ins_stays a now l (i + 1) (j + 1) (by omega)
      have h2 := stays_on (j := j) h hs
      simp only [ins, outs, h2, if_true, h1, and_self]
    · exact ins_stays a now l (i + 1) j (by omega)
theorem ins_again (a now : Int) (l : List Msg) : ins (stays a now) 0 (ins (stays a now) 0 l) = ins (stays a now) 0 l ∧ outs (stays a now) 0 (ins (stays a now) 0 l) = [] := by
  cases l with
  | nil => exact ⟨rfl, rfl⟩
  | cons m l =>
    simp only [ins]
    split
    · rename_i hs
      have h1 := ins_stays a now l 1 1 (by omega)
      simp only [ins, outs, hs, if_true, h1, and_self]
    · exact ins_stays a now l 1 0 (by omega)
end Towline.Store
namespace Go.Proofs.Yteblkbnkaogkmaa
open Go Towline Towline.Store
set_option linter.unusedVariables false
set_option maxRecDepth 20000
set_option maxHeartbeats 4000000
theorem msgEq1 (m : Msg) : (m.id == m.id && (((m.stream : Nat) : Int) == ((m.stream : Nat) : Int) && (((m.ppid : Nat) : Int) == ((m.ppid : Nat) : Int) && (m.free == m.free && (m.text == m.text && (m.til == m.til && true)))))) = true := by simp
theorem expires_spec (l : List Msg) (a : Int) (nx : List Nat) (n : Int) (hl4 : l.length ≤ maxLen) (hl5 : nx.length ≤ maxLen) (hu : ∀ m ∈ l, m.stream ≤ 65535) :
    PSpec Try.prog 7 [stA l a nx, vi n] (· = vb true) := by
  refine PSpec.run tysOk follows Try.func7 (by decide) rfl Try.ntmps7 (Nat.le_of_ble_eq_true rfl) rfl fun w0 R0 => ?_
  conv => whnf
  refine ⟨_, shown_spec, ?_⟩
  rintro q rfl
  conv => whnf
  refine ⟨_, small_spec l a nx hl4 hl5, ?_⟩
  rintro q rfl
  conv => whnf
  split <;> rename_i h1
  · conv => whnf
    exact ⟨_, .refl _, rfl, rfl⟩
  · replace h1 := of_not_dec h1
    have h4 : l.length ≤ 2 ^ 40 := by omega
    have h5 : nx.length ≤ 2 ^ 40 := by omega
    conv => whnf
    refine ⟨_, as_spec l a nx h4, ?_⟩
    rintro q rfl
    conv => whnf
    refine ⟨_, right_spec l a nx hu h4 h5, ?_⟩
    rintro q rfl
    conv => whnf
    split <;> rename_i h3
    · conv => whnf
      exact ⟨_, .refl _, rfl, rfl⟩
    · replace h3 := of_not_dec h3
      obtain ⟨a, rfl, hok⟩ := ok_of h1 hu h3
      conv => whnf
      refine ⟨_, expire_spec l a nx n h4, ?_⟩
      rintro q rfl
      conv => whnf
      refine ALoop.introR tysOk follows (fun k : {k // k ≤ l.length} => ([(1, vi n), (2, .ptr 2 0), (7, .ptr 7 0), (8, .d (slT 1 encI ((outs (stays a n) 0 l).map (·.id)))), (9, vi (outs (stays a n) 0 (l.take k.1)).length), (10, vi (ins (stays a n) 0 (l.take k.1)).length), (11, vi k.1)], [(2, .box (stL l a nx)), (7, .box (stL (ins (stays a n) 0 l) a nx))])) (fun k => l.length - k.1) ⟨0, by omega⟩ ?_ ?_
      · exact ⟨.refl _, .refl _, .refl _, .refl _, .refl _, .refl _, .refl _, OLe.refl _, OLe.refl _, trivial⟩
      · rintro ⟨k, hk⟩
        dsimp only
        have hi := (ins_len (stays a n) (l.take k) 0).1
        have ho := (ins_len (stays a n) (l.take k) 0).2
        rw [List.length_take, Nat.min_eq_left hk] at hi ho
        conv => whnf
        split <;> rename_i hlt
        · have hlt : k < l.length := by simpa using hlt
          have hs : l.take (k + 1) = l.take k ++ [l.getD k default] := by rw [List.take_succ_eq_append_getElem hlt]; simp [List.getD_eq_getElem?_getD, hlt]
          have hl2 : (l.take k).length = k := by rw [List.length_take]; omega
          have hins := ins_snoc (stays a n) (l.take k) 0 (l.getD k default)
          have houts := outs_snoc (stays a n) (l.take k) 0 (l.getD k default)
          rw [hl2, Nat.zero_add, ← hs] at hins houts
          obtain ⟨ri, e1, ro, e2⟩ := ins_pre (stays a n) l 0 (k + 1)
          rw [hins] at e1
          rw [houts] at e2
          conv => whnf
          refine ⟨by first | omega | (simp only [Int.toNat_natCast]; omega) | (simp; done) | (simp; omega), ?_⟩
          conv => whnf
          split <;> rename_i g1
          · have g1 : k = 0 := by simpa using g1
            conv => whnf
            split <;> rename_i g2
            · replace g2 := of_decide_eq_true g2
              try simp only [Int.toNat_natCast] at g2
              conv => whnf
              have hst : stays a n k (l.getD k default) = true := by simp only [stays, Bool.or_eq_true, Bool.and_eq_true, decide_eq_true_eq, beq_iff_eq]; omega
              rw [hst] at hins houts e1 e2
              simp only [if_true, List.append_nil] at hins houts e1 e2
              have e3 : (ins (stays a n) 0 l).length = (ins (stays a n) 0 (l.take k)).length + 1 + ri.length := by rw [e1]; simp; omega
              have e4 : (ins (stays a n) 0 l).getD (ins (stays a n) 0 (l.take k)).length default = l.getD k default := by rw [e1]; simp [List.getD_eq_getElem?_getD]
              split <;> rename_i g9
              · replace g9 := of_decide_eq_true g9
                try simp only [Int.toNat_natCast] at g9
                omega
              · conv => whnf
                refine ⟨by first | omega | (simp only [Int.toNat_natCast]; omega) | (simp; done) | (simp; omega), ?_⟩
                conv => whnf
                rw [Int.toNat_natCast, e4]
                refine ⟨by kernel_rfl, ?_⟩
                conv => whnf
                rw [Int.toNat_natCast, msgEq1]
                conv => whnf
                refine ⟨by first | omega | (simp only [Int.toNat_natCast]; omega) | (simp; done) | (simp; omega), ?_⟩
                conv => whnf
                refine ⟨by first | omega | (simp only [Int.toNat_natCast]; omega) | (simp; done) | (simp; omega), ?_⟩
                conv => whnf
                refine ⟨⟨k + 1, by omega⟩, [], by dsimp only; omega, .refl _, .refl _, .refl _, .refl _, .of_eq (by dsimp only; rw [houts]), .of_eq (by dsimp only; rw [hins, List.length_append]; rfl), .refl _, OLe.refl _, OLe.refl _, trivial⟩
            · replace g2 := of_decide_eq_false g2
              try simp only [Int.toNat_natCast] at g2
              conv => whnf
              split <;> rename_i g3
              · replace g3 := of_decide_eq_true g3
                try simp only [Int.toNat_natCast] at g3
                conv => whnf
                have hst : stays a n k (l.getD k default) = true := by simp only [stays, Bool.or_eq_true, Bool.and_eq_true, decide_eq_true_eq, beq_iff_eq]; omega
                rw [hst] at hins houts e1 e2
                simp only [if_true, List.append_nil] at hins houts e1 e2
                have e3 : (ins (stays a n) 0 l).length = (ins (stays a n) 0 (l.take k)).length + 1 + ri.length := by rw [e1]; simp; omega
                have e4 : (ins (stays a n) 0 l).getD (ins (stays a n) 0 (l.take k)).length default = l.getD k default := by rw [e1]; simp [List.getD_eq_getElem?_getD]
                split <;> rename_i g9
                · replace g9 := of_decide_eq_true g9
                  try simp only [Int.toNat_natCast] at g9
                  omega
                · conv => whnf
                  refine ⟨by first | omega | (simp only [Int.toNat_natCast]; omega) | (simp; done) | (simp; omega), ?_⟩
                  conv => whnf
                  rw [Int.toNat_natCast, e4]
                  refine ⟨by kernel_rfl, ?_⟩
                  conv => whnf
                  rw [Int.toNat_natCast, msgEq1]
                  conv => whnf
                  refine ⟨by first | omega | (simp only [Int.toNat_natCast]; omega) | (simp; done) | (simp; omega), ?_⟩
                  conv => whnf
                  refine ⟨by first | omega | (simp only [Int.toNat_natCast]; omega) | (simp; done) | (simp; omega), ?_⟩
                  conv => whnf
                  refine ⟨⟨k + 1, by omega⟩, [], by dsimp only; omega, .refl _, .refl _, .refl _, .refl _, .of_eq (by dsimp only; rw [houts]), .of_eq (by dsimp only; rw [hins, List.length_append]; rfl), .refl _, OLe.refl _, OLe.refl _, trivial⟩
              · replace g3 := of_decide_eq_false g3
                try simp only [Int.toNat_natCast] at g3
                conv => whnf
                split <;> rename_i g4
                · replace g4 := of_decide_eq_true g4
                  try simp only [Int.toNat_natCast] at g4
                  conv => whnf
                  have hst : stays a n k (l.getD k default) = true := by simp only [stays, Bool.or_eq_true, Bool.and_eq_true, decide_eq_true_eq, beq_iff_eq]; omega
                  rw [hst] at hins houts e1 e2
                  simp only [if_true, List.append_nil] at hins houts e1 e2
                  have e3 : (ins (stays a n) 0 l).length = (ins (stays a n) 0 (l.take k)).length + 1 + ri.length := by rw [e1]; simp; omega
                  have e4 : (ins (stays a n) 0 l).getD (ins (stays a n) 0 (l.take k)).length default = l.getD k default := by rw [e1]; simp [List.getD_eq_getElem?_getD]
                  split <;> rename_i g9
                  · replace g9 := of_decide_eq_true g9
                    try simp only [Int.toNat_natCast] at g9
                    omega
                  · conv => whnf
                    refine ⟨by first | omega | (simp only [Int.toNat_natCast]; omega) | (simp; done) | (simp; omega), ?_⟩
                    conv => whnf
                    rw [Int.toNat_natCast, e4]
                    refine ⟨by kernel_rfl, ?_⟩
                    conv => whnf
                    rw [Int.toNat_natCast, msgEq1]
                    conv => whnf
                    refine ⟨by first | omega | (simp only [Int.toNat_natCast]; omega) | (simp; done) | (simp; omega), ?_⟩
                    conv => whnf
                    refine ⟨by first | omega | (simp only [Int.toNat_natCast]; omega) | (simp; done) | (simp; omega), ?_⟩
                    conv => whnf
                    refine ⟨⟨k + 1, by omega⟩, [], by dsimp only; omega, .refl _, .refl _, .refl _, .refl _, .of_eq (by dsimp only; rw [houts]), .of_eq (by dsimp only; rw [hins, List.length_append]; rfl), .refl _, OLe.refl _, OLe.refl _, trivial⟩
                · replace g4 := of_decide_eq_false g4
                  try simp only [Int.toNat_natCast] at g4
                  conv => whnf
                  have hst : stays a n k (l.getD k default) = false := by simp only [stays, Bool.or_eq_false_iff, Bool.and_eq_false_iff, decide_eq_false_iff_not, beq_eq_false_iff_ne]; omega
                  rw [hst] at hins houts e1 e2
                  simp only [if_false, List.append_nil, Bool.false_eq_true] at hins houts e1 e2
                  have e3 : (outs (stays a n) 0 l).length = (outs (stays a n) 0 (l.take k)).length + 1 + ro.length := by rw [e2]; simp; omega
                  have e4 : (outs (stays a n) 0 l).getD (outs (stays a n) 0 (l.take k)).length default = l.getD k default := by rw [e2]; simp [List.getD_eq_getElem?_getD]
                  split <;> rename_i g9
                  · replace g9 := of_decide_eq_true g9
                    try simp only [Int.toNat_natCast] at g9
                    rw [List.length_map] at g9
                    omega
                  · have e5 : ((outs (stays a n) 0 l).map (·.id)).getD (outs (stays a n) 0 (l.take k)).length default = (l.getD k default).id := by rw [e2]; simp [List.getD_eq_getElem?_getD]
                    have e6 : (((outs (stays a n) 0 l).map (·.id)).length : Int) = (outs (stays a n) 0 l).length := by rw [List.length_map]
                    rw [e6] at g9
                    replace g9 := of_decide_eq_false g9
                    try simp only [Int.toNat_natCast] at g9
                    conv => whnf
                    refine ⟨by rw [List.length_map]; omega, ?_⟩
                    conv => whnf
                    refine ⟨by kernel_rfl, ?_⟩
                    conv => whnf
                    rw [Int.toNat_natCast, Int.toNat_natCast, e5, bne_self_eq_false]
                    conv => whnf
                    refine ⟨by first | omega | (simp only [Int.toNat_natCast]; omega) | (simp; done) | (simp; omega), ?_⟩
                    conv => whnf
                    refine ⟨by first | omega | (simp only [Int.toNat_natCast]; omega) | (simp; done) | (simp; omega), ?_⟩
                    conv => whnf
                    refine ⟨⟨k + 1, by omega⟩, [], by dsimp only; omega, .refl _, .refl _, .refl _, .refl _, .of_eq (by dsimp only; rw [houts, List.length_append]; rfl), .of_eq (by dsimp only; rw [hins]), .refl _, OLe.refl _, OLe.refl _, trivial⟩
          · have g1 : ¬ k = 0 := by simpa using g1
            conv => whnf
            split <;> rename_i g3
            · replace g3 := of_decide_eq_true g3
              try simp only [Int.toNat_natCast] at g3
              conv => whnf
              have hst : stays a n k (l.getD k default) = true := by simp only [stays, Bool.or_eq_true, Bool.and_eq_true, decide_eq_true_eq, beq_iff_eq]; omega
              rw [hst] at hins houts e1 e2
              simp only [if_true, List.append_nil] at hins houts e1 e2
              have e3 : (ins (stays a n) 0 l).length = (ins (stays a n) 0 (l.take k)).length + 1 + ri.length := by rw [e1]; simp; omega
              have e4 : (ins (stays a n) 0 l).getD (ins (stays a n) 0 (l.take k)).length default = l.getD k default := by rw [e1]; simp [List.getD_eq_getElem?_getD]
              split <;> rename_i g9
              · replace g9 := of_decide_eq_true g9
                try simp only [Int.toNat_natCast] at g9
                omega
              · conv => whnf
                refine ⟨by first | omega | (simp only [Int.toNat_natCast]; omega) | (simp; done) | (simp; omega), ?_⟩
                conv => whnf
                rw [Int.toNat_natCast, e4]
                refine ⟨by kernel_rfl, ?_⟩
                conv => whnf
                rw [Int.toNat_natCast, msgEq1]
                conv => whnf
                refine ⟨by first | omega | (simp only [Int.toNat_natCast]; omega) | (simp; done) | (simp; omega), ?_⟩
                conv => whnf
                refine ⟨by first | omega | (simp only [Int.toNat_natCast]; omega) | (simp; done) | (simp; omega), ?_⟩
                conv => whnf
                refine ⟨⟨k + 1, by omega⟩, [], by dsimp only; omega, .refl _, .refl _, .refl _, .refl _, .of_eq (by dsimp only; rw [houts]), .of_eq (by dsimp only; rw [hins, List.length_append]; rfl), .refl _, OLe.refl _, OLe.refl _, trivial⟩
            · replace g3 := of_decide_eq_false g3
              try simp only [Int.toNat_natCast] at g3
              conv => whnf
              split <;> rename_i g4
              · replace g4 := of_decide_eq_true g4
                try simp only [Int.toNat_natCast] at g4
                conv => whnf
                have hst : stays a n k (l.getD k default) = true := by simp only [stays, Bool.or_eq_true, Bool.and_eq_true, decide_eq_true_eq, beq_iff_eq]; omega
                rw [hst] at hins houts e1 e2
                simp only [if_true, List.append_nil] at hins houts e1 e2
                have e3 : (ins (stays a n) 0 l).length = (ins (stays a n) 0 (l.take k)).length + 1 + ri.length := by rw [e1]; simp; omega
                have e4 : (ins (stays a n) 0 l).getD (ins (stays a n) 0 (l.take k)).length default = l.getD k default := by rw [e1]; simp [List.getD_eq_getElem?_getD]
                split <;> rename_i g9
                · replace g9 := of_decide_eq_true g9
                  try simp only [Int.toNat_natCast] at g9
                  omega
                · conv => whnf
                  refine ⟨by first | omega | (simp only [Int.toNat_natCast]; omega) | (simp; done) | (simp; omega), ?_⟩
                  conv => whnf
                  rw [Int.toNat_natCast, e4]
                  refine ⟨by kernel_rfl, ?_⟩
                  conv => whnf
                  rw [Int.toNat_natCast, msgEq1]
                  conv => whnf
                  refine ⟨by first | omega | (simp only [Int.toNat_natCast]; omega) | (simp; done) | (simp; omega), ?_⟩
                  conv => whnf
                  refine ⟨by first | omega | (simp only [Int.toNat_natCast]; omega) | (simp; done) | (simp; omega), ?_⟩
                  conv => whnf
                  refine ⟨⟨k + 1, by omega⟩, [], by dsimp only; omega, .refl _, .refl _, .refl _, .refl _, .of_eq (by dsimp only; rw [houts]), .of_eq (by dsimp only; rw [hins, List.length_append]; rfl), .refl _, OLe.refl _, OLe.refl _, trivial⟩
              · replace g4 := of_decide_eq_false g4
                try simp only [Int.toNat_natCast] at g4
                conv => whnf
                have hst : stays a n k (l.getD k default) = false := by simp only [stays, Bool.or_eq_false_iff, Bool.and_eq_false_iff, decide_eq_false_iff_not, beq_eq_false_iff_ne]; omega
                rw [hst] at hins houts e1 e2
                simp only [if_false, List.append_nil, Bool.false_eq_true] at hins houts e1 e2
                have e3 : (outs (stays a n) 0 l).length = (outs (stays a n) 0 (l.take k)).length + 1 + ro.length := by rw [e2]; simp; omega
                have e4 : (outs (stays a n) 0 l).getD (outs (stays a n) 0 (l.take k)).length default = l.getD k default := by rw [e2]; simp [List.getD_eq_getElem?_getD]
                split <;> rename_i g9
                · replace g9 := of_decide_eq_true g9
                  try simp only [Int.toNat_natCast] at g9
                  rw [List.length_map] at g9
                  omega
                · have e5 : ((outs (stays a n) 0 l).map (·.id)).getD (outs (stays a n) 0 (l.take k)).length default = (l.getD k default).id := by rw [e2]; simp [List.getD_eq_getElem?_getD]
                  have e6 : (((outs (stays a n) 0 l).map (·.id)).length : Int) = (outs (stays a n) 0 l).length := by rw [List.length_map]
                  rw [e6] at g9
                  replace g9 := of_decide_eq_false g9
                  try simp only [Int.toNat_natCast] at g9
                  conv => whnf
                  refine ⟨by rw [List.length_map]; omega, ?_⟩
                  conv => whnf
                  refine ⟨by kernel_rfl, ?_⟩
                  conv => whnf
                  rw [Int.toNat_natCast, Int.toNat_natCast, e5, bne_self_eq_false]
                  conv => whnf
                  refine ⟨by first | omega | (simp only [Int.toNat_natCast]; omega) | (simp; done) | (simp; omega), ?_⟩
                  conv => whnf
                  refine ⟨by first | omega | (simp only [Int.toNat_natCast]; omega) | (simp; done) | (simp; omega), ?_⟩
                  conv => whnf
                  refine ⟨⟨k + 1, by omega⟩, [], by dsimp only; omega, .refl _, .refl _, .refl _, .refl _, .of_eq (by dsimp only; rw [houts, List.length_append]; rfl), .of_eq (by dsimp only; rw [hins]), .refl _, OLe.refl _, OLe.refl _, trivial⟩
        · have hge : ¬ k < l.length := by simpa using hlt
          obtain rfl : k = l.length := by omega
          rw [List.take_length] at hi ho ⊢
          obtain ⟨e1, e2⟩ := ins_again a n l
          conv => whnf
          have g := expire_spec (ins (stays a n) 0 l) a nx n (by omega)
          rw [e1, e2] at g
          refine ⟨_, g, ?_⟩
          rintro q rfl
          conv => whnf
          rw [beq_self_eq_true]
          conv => whnf
          rw [List.length_map, beq_self_eq_true]
          conv => whnf
          rw [beq_self_eq_true]
          conv => whnf
          rw [beq_self_eq_true]
          conv => whnf
          exact ⟨_, .refl _, rfl, rfl⟩
theorem storeExpires_of {l0 l1 : List D} (h0 : wt tys 8 27 l0) (h1 : wt tys 8 3 l1) :
    PSpec Try.prog 7 [asV true l0, asV false l1] (· = vb true) := by
  obtain ⟨ms, a, nx, k1, k2, k3, k4, k5, k6, k7⟩ := wt_store (n := 4) h0
  obtain ⟨d, rfl⟩ : ∃ d, l1 = [d] := by
    obtain ⟨x, hx, _⟩ := h1
    exact ⟨_, hx⟩
  obtain ⟨n, rfl, n1, n2⟩ := wt_int (n := 7) h1
  exact (expires_spec ms a nx n k1 k3 (fun m hm => (k2 m hm).1)).argsC ⟨k7, .refl _, trivial⟩
end Go.Proofs.Yteblkbnkaogkmaa
