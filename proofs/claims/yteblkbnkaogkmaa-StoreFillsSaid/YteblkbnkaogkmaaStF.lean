/- The reference's functions over stores, four: Expire and Take. -/
import Derived.Test.YteblkbnkaogkmaaStE
namespace Go.Proofs.Yteblkbnkaogkmaa
open Go Towline Towline.Store
set_option linter.unusedVariables false
set_option maxRecDepth 20000
set_option maxHeartbeats 2000000
theorem rexpire_spec (l : List Msg) (a : Int) (nx : List Nat) (now : Int) (ha : 0 ≤ a) (h4 : l.length ≤ 2 ^ 40) :
    PSpec Try.prog 20 [stA l a nx, vi now] (· = .tup [stA (ins (stays a now) 0 l) a nx, .d (slT 1 encI ((outs (stays a now) 0 l).map (·.id)))]) := by
  refine PSpec.run tysOk follows Try.func20 (by decide) rfl Try.ntmps20 (Nat.le_of_ble_eq_true rfl) rfl fun w0 R0 => ?_
  conv => whnf
  refine ALoop.adopt 7 49 1 3 (fun j => encI ((outs (stays a now) 0 l).getD j default).id) rfl rfl rfl ?_
  refine ALoop.adoptCell 6 0 54 6 55 (fun j => encM ((ins (stays a now) 0 l).getD j default)) rfl rfl rfl rfl rfl ?_
  refine ALoop.intro tysOk follows (fun k : {k // k ≤ l.length} => ([(1, vi now), (2, .ptr 2 0), (4, .ptr 4 0), (5, .d (.v (.slice none 0 0))), (6, .ptr 6 0), (7, .rsl 49 1 0 (outs (stays a now) 0 (l.take k.1)).length), (8, vi k.1)], [(2, .box (stL l a nx)), (4, .box [.d (.v (.slice none 0 0)), vi 0, .d (.v (.slice none 0 0))]), (6, .box [.rsl 54 6 0 (ins (stays a now) 0 (l.take k.1)).length, vi a, .d (slT 1 encN nx)]), (49, .row 3 1 (outs (stays a now) 0 (l.take k.1)).length (fun j => encI ((outs (stays a now) 0 (l.take k.1)).getD j default).id)), (54, .row 55 6 (ins (stays a now) 0 (l.take k.1)).length (fun j => encM ((ins (stays a now) 0 (l.take k.1)).getD j default)))])) (fun k => l.length - k.1) ⟨0, by omega⟩ ?_ ?_
  · exact ⟨.refl _, .refl _, .refl _, .refl _, .refl _, .refl _, .refl _, OLe.refl _, OLe.refl _, OLe.refl _, ⟨rfl, rfl, rfl, fun j hj => absurd hj (Nat.not_lt_zero j)⟩, ⟨rfl, rfl, rfl, fun j hj => absurd hj (Nat.not_lt_zero j)⟩, trivial⟩
  · rintro ⟨k, hkl⟩
    have hi := (ins_len (stays a now) (l.take k) 0).1
    have ho := (ins_len (stays a now) (l.take k) 0).2
    rw [List.length_take, Nat.min_eq_left hkl] at hi ho
    dsimp only
    conv => whnf
    split <;> rename_i hlt
    · have hlt : k < l.length := by simpa using hlt
      have hs : l.take (k + 1) = l.take k ++ [l.getD k default] := by rw [List.take_succ_eq_append_getElem hlt]; simp [List.getD_eq_getElem?_getD, hlt]
      have hl2 : (l.take k).length = k := by rw [List.length_take]; omega
      have hins := ins_snoc (stays a now) (l.take k) 0 (l.getD k default)
      have houts := outs_snoc (stays a now) (l.take k) 0 (l.getD k default)
      rw [hl2, Nat.zero_add, ← hs] at hins houts
      conv => whnf
      refine ⟨by first | omega | (simp only [Int.toNat_natCast]; omega) | (simp; done) | (simp; omega), ?_⟩
      conv => whnf
      split <;> rename_i h1
      · replace h1 := of_decide_eq_true h1
        try simp only [Int.toNat_natCast] at h1
        conv => whnf
        split <;> rename_i h2
        · replace h2 := of_decide_eq_true h2
          try simp only [Int.toNat_natCast] at h2
          conv => whnf
          split <;> rename_i h3
          · replace h3 := of_decide_eq_true h3
            try simp only [Int.toNat_natCast] at h3
            conv => whnf
            have hst : stays a now k (l.getD k default) = false := by simp only [stays, Bool.or_eq_false_iff, Bool.and_eq_false_iff, decide_eq_false_iff_not, beq_eq_false_iff_ne]; omega
            rw [hst] at hins houts
            simp only [if_false, List.append_nil, Bool.false_eq_true] at hins houts
            refine ⟨⟨⟨rfl, by omega, by simp only [ty3]; omega⟩, by omega⟩, ?_⟩
            conv => whnf
            refine ⟨by first | omega | (simp only [Int.toNat_natCast]; omega) | (simp; done) | (simp; omega), ?_⟩
            conv => whnf
            refine ⟨⟨k + 1, by omega⟩, by dsimp only; omega, .refl _, .refl _, .refl _, .refl _, .refl _, ?_, .refl _, OLe.refl _, OLe.refl _, ?_, ⟨rfl, rfl, ?_, ?_⟩, ⟨rfl, rfl, ?_, ?_⟩, trivial⟩
            · exact .of_eq (by dsimp only; rw [houts, List.length_append]; rfl)
            · exact ⟨.of_eq (by dsimp only; rw [hins]), .refl _, .refl _, trivial⟩
            · dsimp only; rw [houts, List.length_append]; rfl
            · intro j hj
              dsimp only
              rw [houts]
              exact slT_app (fun m : Msg => encI m.id) _ _ j hj rfl
            · dsimp only; rw [hins]
            · intro j hj
              dsimp only
              rw [hins]
          · replace h3 := of_decide_eq_false h3
            try simp only [Int.toNat_natCast] at h3
            conv => whnf
            have hst : stays a now k (l.getD k default) = true := by simp only [stays, Bool.or_eq_true, Bool.and_eq_true, decide_eq_true_eq, beq_iff_eq]; omega
            rw [hst] at hins houts
            simp only [if_true, List.append_nil] at hins houts
            refine ⟨⟨⟨rfl, by omega, by simp only [ty55]; omega⟩, by omega⟩, ?_⟩
            conv => whnf
            refine ⟨by first | omega | (simp only [Int.toNat_natCast]; omega) | (simp; done) | (simp; omega), ?_⟩
            conv => whnf
            refine ⟨⟨k + 1, by omega⟩, by dsimp only; omega, .refl _, .refl _, .refl _, .refl _, .refl _, ?_, .refl _, OLe.refl _, OLe.refl _, ?_, ⟨rfl, rfl, ?_, ?_⟩, ⟨rfl, rfl, ?_, ?_⟩, trivial⟩
            · exact .of_eq (by dsimp only; rw [houts])
            · exact ⟨.of_eq (by dsimp only; rw [hins, List.length_append]; rfl), .refl _, .refl _, trivial⟩
            · dsimp only; rw [houts]
            · intro j hj
              dsimp only
              rw [houts]
            · dsimp only; rw [hins, List.length_append]; rfl
            · intro j hj
              dsimp only
              rw [hins]
              exact slT_app encM _ _ j hj rfl
        · replace h2 := of_decide_eq_false h2
          try simp only [Int.toNat_natCast] at h2
          conv => whnf
          have hst : stays a now k (l.getD k default) = true := by simp only [stays, Bool.or_eq_true, Bool.and_eq_true, decide_eq_true_eq, beq_iff_eq]; omega
          rw [hst] at hins houts
          simp only [if_true, List.append_nil] at hins houts
          refine ⟨⟨⟨rfl, by omega, by simp only [ty55]; omega⟩, by omega⟩, ?_⟩
          conv => whnf
          refine ⟨by first | omega | (simp only [Int.toNat_natCast]; omega) | (simp; done) | (simp; omega), ?_⟩
          conv => whnf
          refine ⟨⟨k + 1, by omega⟩, by dsimp only; omega, .refl _, .refl _, .refl _, .refl _, .refl _, ?_, .refl _, OLe.refl _, OLe.refl _, ?_, ⟨rfl, rfl, ?_, ?_⟩, ⟨rfl, rfl, ?_, ?_⟩, trivial⟩
          · exact .of_eq (by dsimp only; rw [houts])
          · exact ⟨.of_eq (by dsimp only; rw [hins, List.length_append]; rfl), .refl _, .refl _, trivial⟩
          · dsimp only; rw [houts]
          · intro j hj
            dsimp only
            rw [houts]
          · dsimp only; rw [hins, List.length_append]; rfl
          · intro j hj
            dsimp only
            rw [hins]
            exact slT_app encM _ _ j hj rfl
      · replace h1 := of_decide_eq_false h1
        try simp only [Int.toNat_natCast] at h1
        conv => whnf
        split <;> rename_i h5
        · have h5 : a = 0 := by simpa using h5
          conv => whnf
          split <;> rename_i h2
          · replace h2 := of_decide_eq_true h2
            try simp only [Int.toNat_natCast] at h2
            conv => whnf
            split <;> rename_i h3
            · replace h3 := of_decide_eq_true h3
              try simp only [Int.toNat_natCast] at h3
              conv => whnf
              have hst : stays a now k (l.getD k default) = false := by simp only [stays, Bool.or_eq_false_iff, Bool.and_eq_false_iff, decide_eq_false_iff_not, beq_eq_false_iff_ne]; omega
              rw [hst] at hins houts
              simp only [if_false, List.append_nil, Bool.false_eq_true] at hins houts
              refine ⟨⟨⟨rfl, by omega, by simp only [ty3]; omega⟩, by omega⟩, ?_⟩
              conv => whnf
              refine ⟨by first | omega | (simp only [Int.toNat_natCast]; omega) | (simp; done) | (simp; omega), ?_⟩
              conv => whnf
              refine ⟨⟨k + 1, by omega⟩, by dsimp only; omega, .refl _, .refl _, .refl _, .refl _, .refl _, ?_, .refl _, OLe.refl _, OLe.refl _, ?_, ⟨rfl, rfl, ?_, ?_⟩, ⟨rfl, rfl, ?_, ?_⟩, trivial⟩
              · exact .of_eq (by dsimp only; rw [houts, List.length_append]; rfl)
              · exact ⟨.of_eq (by dsimp only; rw [hins]), .refl _, .refl _, trivial⟩
              · dsimp only; rw [houts, List.length_append]; rfl
              · intro j hj
                dsimp only
                rw [houts]
                exact slT_app (fun m : Msg => encI m.id) _ _ j hj rfl
              · dsimp only; rw [hins]
              · intro j hj
                dsimp only
                rw [hins]
            · replace h3 := of_decide_eq_false h3
              try simp only [Int.toNat_natCast] at h3
              conv => whnf
              have hst : stays a now k (l.getD k default) = true := by simp only [stays, Bool.or_eq_true, Bool.and_eq_true, decide_eq_true_eq, beq_iff_eq]; omega
              rw [hst] at hins houts
              simp only [if_true, List.append_nil] at hins houts
              refine ⟨⟨⟨rfl, by omega, by simp only [ty55]; omega⟩, by omega⟩, ?_⟩
              conv => whnf
              refine ⟨by first | omega | (simp only [Int.toNat_natCast]; omega) | (simp; done) | (simp; omega), ?_⟩
              conv => whnf
              refine ⟨⟨k + 1, by omega⟩, by dsimp only; omega, .refl _, .refl _, .refl _, .refl _, .refl _, ?_, .refl _, OLe.refl _, OLe.refl _, ?_, ⟨rfl, rfl, ?_, ?_⟩, ⟨rfl, rfl, ?_, ?_⟩, trivial⟩
              · exact .of_eq (by dsimp only; rw [houts])
              · exact ⟨.of_eq (by dsimp only; rw [hins, List.length_append]; rfl), .refl _, .refl _, trivial⟩
              · dsimp only; rw [houts]
              · intro j hj
                dsimp only
                rw [houts]
              · dsimp only; rw [hins, List.length_append]; rfl
              · intro j hj
                dsimp only
                rw [hins]
                exact slT_app encM _ _ j hj rfl
          · replace h2 := of_decide_eq_false h2
            try simp only [Int.toNat_natCast] at h2
            conv => whnf
            have hst : stays a now k (l.getD k default) = true := by simp only [stays, Bool.or_eq_true, Bool.and_eq_true, decide_eq_true_eq, beq_iff_eq]; omega
            rw [hst] at hins houts
            simp only [if_true, List.append_nil] at hins houts
            refine ⟨⟨⟨rfl, by omega, by simp only [ty55]; omega⟩, by omega⟩, ?_⟩
            conv => whnf
            refine ⟨by first | omega | (simp only [Int.toNat_natCast]; omega) | (simp; done) | (simp; omega), ?_⟩
            conv => whnf
            refine ⟨⟨k + 1, by omega⟩, by dsimp only; omega, .refl _, .refl _, .refl _, .refl _, .refl _, ?_, .refl _, OLe.refl _, OLe.refl _, ?_, ⟨rfl, rfl, ?_, ?_⟩, ⟨rfl, rfl, ?_, ?_⟩, trivial⟩
            · exact .of_eq (by dsimp only; rw [houts])
            · exact ⟨.of_eq (by dsimp only; rw [hins, List.length_append]; rfl), .refl _, .refl _, trivial⟩
            · dsimp only; rw [houts]
            · intro j hj
              dsimp only
              rw [houts]
            · dsimp only; rw [hins, List.length_append]; rfl
            · intro j hj
              dsimp only
              rw [hins]
              exact slT_app encM _ _ j hj rfl
        · have h5 : a ≠ 0 := by simpa using h5
          conv => whnf
          have hst : stays a now k (l.getD k default) = true := by simp only [stays, Bool.or_eq_true, Bool.and_eq_true, decide_eq_true_eq, beq_iff_eq]; omega
          rw [hst] at hins houts
          simp only [if_true, List.append_nil] at hins houts
          refine ⟨⟨⟨rfl, by omega, by simp only [ty55]; omega⟩, by omega⟩, ?_⟩
          conv => whnf
          refine ⟨by first | omega | (simp only [Int.toNat_natCast]; omega) | (simp; done) | (simp; omega), ?_⟩
          conv => whnf
          refine ⟨⟨k + 1, by omega⟩, by dsimp only; omega, .refl _, .refl _, .refl _, .refl _, .refl _, ?_, .refl _, OLe.refl _, OLe.refl _, ?_, ⟨rfl, rfl, ?_, ?_⟩, ⟨rfl, rfl, ?_, ?_⟩, trivial⟩
          · exact .of_eq (by dsimp only; rw [houts])
          · exact ⟨.of_eq (by dsimp only; rw [hins, List.length_append]; rfl), .refl _, .refl _, trivial⟩
          · dsimp only; rw [houts]
          · intro j hj
            dsimp only
            rw [houts]
          · dsimp only; rw [hins, List.length_append]; rfl
          · intro j hj
            dsimp only
            rw [hins]
            exact slT_app encM _ _ j hj rfl
    · have hge : ¬ k < l.length := by simpa using hlt
      obtain rfl : k = l.length := by omega
      rw [List.take_length] at hi ho ⊢
      conv => whnf
      refine ⟨by first | omega | (simp only [Int.toNat_natCast]; omega) | (simp; done) | (simp; omega), ?_⟩
      conv => whnf
      refine ⟨by first | omega | (simp only [Int.toNat_natCast]; omega) | (simp; done) | (simp; omega), ?_⟩
      conv => whnf
      refine ⟨_, ?_, rfl, rfl⟩
      exact .tup ⟨.agg ⟨.sl rfl (fun j hj => rfl), .refl _, .refl _, trivial⟩, .sl (by simp) (fun j hj => by simp [hj]), trivial⟩
theorem rtake_none (a : Int) (nx : List Nat) (most : Int) : PSpec Try.prog 21 [stA [] a nx, vi most] (· = .tup [stA [] a nx, pcA ⟨0, false, false, false, 0, 0, 0, []⟩, vi 0, vb false]) := by
  refine PSpec.run tysOk follows Try.func21 (by decide) rfl Try.ntmps21 (Nat.le_of_ble_eq_true rfl) rfl fun w0 R0 => ?_
  conv => whnf
  exact ⟨_, .refl _, rfl, rfl⟩
theorem textOf2 {m : Msg} {a : Nat} {most : Int} (ha : a < m.text.length) : cutS m.text (some ↑a) (some ((a + cut m a most : Nat) : Int)) = (m.text.drop a).take (cut m a most) := by
  simp only [cutS, Int.toNat_natCast]
  rw [List.drop_take, Nat.add_sub_cancel_left]
theorem rtake_spec (m : Msg) (r : List Msg) (a : Nat) (nx : List Nat) (most : Int) (hs : m.stream < nx.length) (hm : m.stream ≤ 65535) (ha : a < m.text.length) (hlen : m.text.length ≤ 2 ^ 40) (hn40 : r.length ≤ 2 ^ 40 - 1) (hx : nx.length ≤ 2 ^ 40) :
    PSpec Try.prog 21 [stA (m :: r) a nx, vi most] (· = .tup [stA (after m r a nx most).l (after m r a nx most).a (after m r a nx most).next, pcA (pieceOf m a nx most), vi m.id, vb true]) := by
  obtain ⟨k1, k2, k3⟩ := cut_le (most := most) ha
  have kk := cut_int (most := most) ha
  have e0 : (m :: r).getD (Int.toNat 0) default = m := rfl
  have eE : min ((a : Int) + max 1 (min most 1000)) (m.text.length : Int) = ((a + cut m a most : Nat) : Int) := by omega
  have eT := textOf2 (most := most) ha
  refine PSpec.run tysOk follows Try.func21 (by decide) rfl Try.ntmps21 (Nat.le_of_ble_eq_true rfl) rfl fun w0 R0 => ?_
  conv => whnf
  refine ⟨by first | omega | (simp only [Int.toNat_natCast]; omega) | (simp; done) | (simp; omega), ?_⟩
  conv => whnf
  rw [e0]
  refine ⟨by first | omega | (simp only [Int.toNat_natCast]; omega) | (simp; done) | (simp; omega), ?_⟩
  conv => whnf
  rw [eE]
  refine ⟨by first | omega | (simp only [Int.toNat_natCast]; omega) | (simp; done) | (simp; omega), ?_⟩
  conv => whnf
  rw [eT]
  refine ⟨by kernel_rfl, ?_⟩
  conv => whnf
  split <;> rename_i hf
  · have hf : m.free = false := by simpa using hf
    conv => whnf
    refine ⟨by first | omega | (simp only [Int.toNat_natCast]; omega) | (simp; done) | (simp; omega), ?_⟩
    conv => whnf
    split <;> rename_i hc
    · have hc : ¬ ((a + cut m a most : Nat) : Int) = m.text.length := by simpa using hc
      have hc : a + cut m a most < m.text.length := by omega
      conv => whnf
      refine ⟨by kernel_rfl, ?_⟩
      conv => whnf
      have e1 : after m r a nx most = ⟨m :: r, a + cut m a most, nx⟩ := by simp [after, hc]
      refine ⟨_, ?_, rfl, by rw [e1]; rfl⟩
      rw [e1]
      refine .tup ⟨.agg ⟨.refl _, .refl _, .refl _, trivial⟩, .agg ⟨.refl _, .of_eq ?_, .of_eq ?_, .refl _, .refl _, .of_eq ?_, .refl _, .refl _, trivial⟩, .refl _, .refl _, trivial⟩
      · simp [pieceOf, nat_beq0]
      · show AVal.d (D.b (((a + cut m a most : Nat) : Int) == (m.text.length : Int))) = _
        have : (((a + cut m a most : Nat) : Int) == (m.text.length : Int)) = false := by rw [beq_eq_false_iff_ne]; omega
        rw [this]; simp [pieceOf]; omega
      · simp [pieceOf, num, hf]
    · have hc : ((a + cut m a most : Nat) : Int) = m.text.length := by simpa using hc
      have hc : ¬ a + cut m a most < m.text.length := by omega
      conv => whnf
      refine ⟨⟨by omega, by omega, by simp only [ty31]; omega⟩, ?_⟩
      conv => whnf
      refine ALoop.adoptCell 11 0 1000 6 55 (fun j => encM (r.getD j default)) rfl rfl rfl rfl rfl ?_
      refine ALoop.introR tysOk follows (fun k : {k // k ≤ r.length} => ([(2, .ptr 2 0), (4, .ptr 4 0), (5, .ptr 5 0), (8, .ptr 8 0), (10, .ptr 10 0), (11, .ptr 11 0), (12, vi (k.1 + 1 : Nat))], [(2, .box (stL (m :: r) a nx)), (4, .box [.d (.v (.slice none 0 0)), vi 0, .d (.v (.slice none 0 0))]), (5, .box [.d (.i .u32 0), vb false, vb false, vb false, .d (.i .u16 0), .d (.i .u16 0), .d (.i .u32 0), vs []]), (8, .box [vi m.id, .d (.i .u16 m.stream), .d (.i .u32 m.ppid), vb m.free, vs m.text, vi m.til]), (10, .box [.d (.i .u32 0), vb ((a : Int) == 0), vb true, vb m.free, .d (.i .u16 m.stream), .d (.i .u16 (num m nx)), .d (.i .u32 m.ppid), vs ((m.text.drop a).take (cut m a most))]), (11, .box [.rsl 1000 6 0 k.1, vi 0, .rsl 80 1 0 nx.length]), (80, .row 31 1 nx.length (fun j => encN (nx.getD j default))), (1000, .row 55 6 k.1 (fun j => encM (r.getD j default)))])) (fun k => r.length - k.1) ⟨0, by omega⟩ ?_ ?_
      · refine ⟨.refl _, .refl _, .refl _, .refl _, .refl _, .refl _, .refl _, OLe.refl _, OLe.refl _, OLe.refl _, OLe.refl _, ⟨.refl _, .refl _, .of_eq ?_, .refl _, .refl _, .of_eq ?_, .refl _, .refl _, trivial⟩, ⟨.refl _, .refl _, .of_eq (by rw [Nat.zero_add]; rfl), trivial⟩, ⟨rfl, rfl, by simp, fun j hj => by simp [fcat]⟩, ⟨rfl, rfl, rfl, fun j hj => absurd hj (Nat.not_lt_zero j)⟩, trivial⟩
        · have : (((a + cut m a most : Nat) : Int) == (m.text.length : Int)) = true := by rw [beq_iff_eq]; omega
          show AVal.d (D.b (((a + cut m a most : Nat) : Int) == (m.text.length : Int))) = _
          rw [this]
        · first
          | (show AVal.d (D.i .u16 ((nx.getD m.stream 0 : Nat) : Int)) = _; simp [num, hf]; done)
          | (simp [num, hf])
      · rintro ⟨k, hk⟩
        dsimp only
        conv => whnf
        split <;> rename_i h1
        · replace h1 := of_decide_eq_true h1
          try simp only [Int.toNat_natCast] at h1
          have hlt : k < r.length := by rw [List.length_cons] at h1; omega
          conv => whnf
          refine ⟨by rw [List.length_cons]; omega, ?_⟩
          conv => whnf
          refine ⟨⟨⟨rfl, by omega, by simp only [ty55]; omega⟩, by omega⟩, ?_⟩
          conv => whnf
          refine ⟨by kernel_rfl, ?_⟩
          conv => whnf
          refine ⟨by first | omega | (simp only [Int.toNat_natCast]; omega) | (simp; done) | (simp; omega), ?_⟩
          conv => whnf
          refine ⟨⟨k + 1, by omega⟩, [(97, 1000)], by dsimp only; omega, .refl _, .refl _, .refl _, .refl _, .refl _, .refl _, .refl _, OLe.refl _, OLe.refl _, OLe.refl _, OLe.refl _, OLe.refl _, OLe.refl _, OLe.refl _, ⟨rfl, rfl, rfl, ?_⟩, trivial⟩
          intro j hj
          simp only [fcat]
          split
          · rfl
          · have : j = k := by omega
            subst this; simp [encM]
        · replace h1 := of_decide_eq_false h1
          try simp only [Int.toNat_natCast] at h1
          have hge : ¬ k < r.length := by rw [List.length_cons] at h1; omega
          obtain rfl : k = r.length := by omega
          conv => whnf
          rw [hf]
          conv => whnf
          refine ⟨by first | omega | (simp only [Int.toNat_natCast]; omega) | (simp; done) | (simp; omega), ?_⟩
          conv => whnf
          refine ⟨by first | omega | (simp only [Int.toNat_natCast]; omega) | (simp; done) | (simp; omega), ?_⟩
          conv => whnf
          refine ⟨by first | omega | (simp only [Int.toNat_natCast]; omega) | (simp; done) | (simp; omega), ?_⟩
          conv => whnf
          refine ⟨by first | omega | (simp only [Int.toNat_natCast]; omega) | (simp; done) | (simp; omega), ?_⟩
          conv => whnf
          refine ⟨by kernel_rfl, ?_⟩
          conv => whnf
          refine ⟨by first | omega | (simp only [Int.toNat_natCast]; omega) | (simp; done) | (simp; omega), ?_⟩
          conv => whnf
          refine ⟨by first | omega | (simp only [Int.toNat_natCast]; omega) | (simp; done) | (simp; omega), ?_⟩
          conv => whnf
          have e1 : after m r a nx most = ⟨r, 0, nx.set m.stream ((nx.getD m.stream 0 + 1) % 65536)⟩ := by simp [after, hc, bump, hf]
          refine ⟨_, ?_, rfl, by rw [e1]; rfl⟩
          rw [e1]
          refine .tup ⟨.agg ⟨.sl rfl (fun k hk => rfl), .refl _, .sl (by simp) (fun k hk => ?_), trivial⟩, .agg ⟨.refl _, .of_eq ?_, .of_eq ?_, .of_eq ?_, .refl _, .of_eq ?_, .refl _, .refl _, trivial⟩, .refl _, .refl _, trivial⟩
          · have hk : k < nx.length := by simpa using hk
            have e3 : IntKind.u16.wrap (((nx.getD m.stream 0 : Nat) : Int) + 1) = (((nx.getD m.stream 0 + 1) % 65536 : Nat) : Int) := by simp [IntKind.wrap, IntKind.bits, IntKind.signed]
            simp only [fupd, Nat.zero_add, Int.toNat_natCast]
            split
            · rename_i e
              subst e
              rw [show (nx.getD m.stream default) = nx.getD m.stream 0 from rfl, e3]
              simp [encN, hs]
            · rename_i e
              rw [show (default : Nat) = 0 from rfl]
              simp only [List.getD_eq_getElem?_getD, List.getElem?_set]
              rw [if_neg (by omega)]
          · simp [pieceOf, nat_beq0]
          · simp [pieceOf]; omega
          · simp [pieceOf, hf]
          · simp [pieceOf, num, hf]
  · have hf : m.free = true := by simpa using hf
    conv => whnf
    split <;> rename_i hc
    · have hc : ¬ ((a + cut m a most : Nat) : Int) = m.text.length := by simpa using hc
      have hc : a + cut m a most < m.text.length := by omega
      conv => whnf
      refine ⟨by kernel_rfl, ?_⟩
      conv => whnf
      have e1 : after m r a nx most = ⟨m :: r, a + cut m a most, nx⟩ := by simp [after, hc]
      refine ⟨_, ?_, rfl, by rw [e1]; rfl⟩
      rw [e1]
      refine .tup ⟨.agg ⟨.refl _, .refl _, .refl _, trivial⟩, .agg ⟨.refl _, .of_eq ?_, .of_eq ?_, .refl _, .refl _, .of_eq ?_, .refl _, .refl _, trivial⟩, .refl _, .refl _, trivial⟩
      · simp [pieceOf, nat_beq0]
      · show AVal.d (D.b (((a + cut m a most : Nat) : Int) == (m.text.length : Int))) = _
        have : (((a + cut m a most : Nat) : Int) == (m.text.length : Int)) = false := by rw [beq_eq_false_iff_ne]; omega
        rw [this]; simp [pieceOf]; omega
      · simp [pieceOf, num, hf]
    · have hc : ((a + cut m a most : Nat) : Int) = m.text.length := by simpa using hc
      have hc : ¬ a + cut m a most < m.text.length := by omega
      conv => whnf
      refine ⟨⟨by omega, by omega, by simp only [ty31]; omega⟩, ?_⟩
      conv => whnf
      refine ALoop.adoptCell 11 0 1000 6 55 (fun j => encM (r.getD j default)) rfl rfl rfl rfl rfl ?_
      refine ALoop.introR tysOk follows (fun k : {k // k ≤ r.length} => ([(2, .ptr 2 0), (4, .ptr 4 0), (5, .ptr 5 0), (8, .ptr 8 0), (10, .ptr 10 0), (11, .ptr 11 0), (12, vi (k.1 + 1 : Nat))], [(2, .box (stL (m :: r) a nx)), (4, .box [.d (.v (.slice none 0 0)), vi 0, .d (.v (.slice none 0 0))]), (5, .box [.d (.i .u32 0), vb false, vb false, vb false, .d (.i .u16 0), .d (.i .u16 0), .d (.i .u32 0), vs []]), (8, .box [vi m.id, .d (.i .u16 m.stream), .d (.i .u32 m.ppid), vb m.free, vs m.text, vi m.til]), (10, .box [.d (.i .u32 0), vb ((a : Int) == 0), vb true, vb m.free, .d (.i .u16 m.stream), .d (.i .u16 (num m nx)), .d (.i .u32 m.ppid), vs ((m.text.drop a).take (cut m a most))]), (11, .box [.rsl 1000 6 0 k.1, vi 0, .rsl 80 1 0 nx.length]), (80, .row 31 1 nx.length (fun j => encN (nx.getD j default))), (1000, .row 55 6 k.1 (fun j => encM (r.getD j default)))])) (fun k => r.length - k.1) ⟨0, by omega⟩ ?_ ?_
      · refine ⟨.refl _, .refl _, .refl _, .refl _, .refl _, .refl _, .refl _, OLe.refl _, OLe.refl _, OLe.refl _, OLe.refl _, ⟨.refl _, .refl _, .of_eq ?_, .refl _, .refl _, .of_eq ?_, .refl _, .refl _, trivial⟩, ⟨.refl _, .refl _, .of_eq (by rw [Nat.zero_add]; rfl), trivial⟩, ⟨rfl, rfl, by simp, fun j hj => by simp [fcat]⟩, ⟨rfl, rfl, rfl, fun j hj => absurd hj (Nat.not_lt_zero j)⟩, trivial⟩
        · have : (((a + cut m a most : Nat) : Int) == (m.text.length : Int)) = true := by rw [beq_iff_eq]; omega
          show AVal.d (D.b (((a + cut m a most : Nat) : Int) == (m.text.length : Int))) = _
          rw [this]
        · first
          | (show AVal.d (D.i .u16 ((nx.getD m.stream 0 : Nat) : Int)) = _; simp [num, hf]; done)
          | (simp [num, hf])
      · rintro ⟨k, hk⟩
        dsimp only
        conv => whnf
        split <;> rename_i h1
        · replace h1 := of_decide_eq_true h1
          try simp only [Int.toNat_natCast] at h1
          have hlt : k < r.length := by rw [List.length_cons] at h1; omega
          conv => whnf
          refine ⟨by rw [List.length_cons]; omega, ?_⟩
          conv => whnf
          refine ⟨⟨⟨rfl, by omega, by simp only [ty55]; omega⟩, by omega⟩, ?_⟩
          conv => whnf
          refine ⟨by kernel_rfl, ?_⟩
          conv => whnf
          refine ⟨by first | omega | (simp only [Int.toNat_natCast]; omega) | (simp; done) | (simp; omega), ?_⟩
          conv => whnf
          refine ⟨⟨k + 1, by omega⟩, [(97, 1000)], by dsimp only; omega, .refl _, .refl _, .refl _, .refl _, .refl _, .refl _, .refl _, OLe.refl _, OLe.refl _, OLe.refl _, OLe.refl _, OLe.refl _, OLe.refl _, OLe.refl _, ⟨rfl, rfl, rfl, ?_⟩, trivial⟩
          intro j hj
          simp only [fcat]
          split
          · rfl
          · have : j = k := by omega
            subst this; simp [encM]
        · replace h1 := of_decide_eq_false h1
          try simp only [Int.toNat_natCast] at h1
          have hge : ¬ k < r.length := by rw [List.length_cons] at h1; omega
          obtain rfl : k = r.length := by omega
          conv => whnf
          rw [hf]
          conv => whnf
          refine ⟨by kernel_rfl, ?_⟩
          conv => whnf
          refine ⟨by first | omega | (simp only [Int.toNat_natCast]; omega) | (simp; done) | (simp; omega), ?_⟩
          conv => whnf
          refine ⟨by first | omega | (simp only [Int.toNat_natCast]; omega) | (simp; done) | (simp; omega), ?_⟩
          conv => whnf
          have e1 : after m r a nx most = ⟨r, 0, nx⟩ := by simp [after, hc, bump, hf]
          refine ⟨_, ?_, rfl, by rw [e1]; rfl⟩
          rw [e1]
          refine .tup ⟨.agg ⟨.sl rfl (fun k hk => rfl), .refl _, .sl rfl (fun k hk => rfl), trivial⟩, .agg ⟨.refl _, .of_eq ?_, .of_eq ?_, .of_eq ?_, .refl _, .of_eq ?_, .refl _, .refl _, trivial⟩, .refl _, .refl _, trivial⟩
          · simp [pieceOf, nat_beq0]
          · simp [pieceOf]; omega
          · simp [pieceOf, hf]
          · simp [pieceOf, num, hf]
end Go.Proofs.Yteblkbnkaogkmaa
