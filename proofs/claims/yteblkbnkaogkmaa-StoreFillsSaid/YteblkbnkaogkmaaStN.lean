/- The law of streams, as a contract. -/
import Derived.Test.YteblkbnkaogkmaaStJ
namespace Towline.Store
/-- The message of number i, and the first k. -/
def smsg (s : List Int) (f : List Bool) (i : Nat) : Msg := ⟨i, (pickOf (s.getD i default) 3).toNat, 0, decide (i < f.length) && f.getD i default, [97, 98], 0⟩
def smsgs (s : List Int) (f : List Bool) (k : Nat) : List Msg := (List.range k).map (smsg s f)
/-- The numbers behind k messages. -/
def snx (s : List Int) (f : List Bool) : Nat → List Nat
  | 0 => [0, 0, 0]
  | k + 1 => bump (smsg s f k) (snx s f k)
theorem snx_length (s : List Int) (f : List Bool) : ∀ k, (snx s f k).length = 3
  | 0 => rfl
  | k + 1 => by rw [snx, bump_length, snx_length s f k]
theorem smsg_stream (s : List Int) (f : List Bool) (i : Nat) : (smsg s f i).stream < 3 := by
  have := pickOf_lt (s.getD i default) 3 (by omega)
  show (pickOf (s.getD i default) 3).toNat < 3
  omega
theorem smsgs_length (s : List Int) (f : List Bool) (k : Nat) : (smsgs s f k).length = k := by simp [smsgs]
theorem smsgs_succ (s : List Int) (f : List Bool) (k : Nat) : smsgs s f (k + 1) = smsgs s f k ++ [smsg s f k] := by simp [smsgs, List.range_succ]
theorem total_smsgs (s : List Int) (f : List Bool) : ∀ k, total (smsgs s f k) = 2 * k
  | 0 => rfl
  | k + 1 => by rw [smsgs_succ, total_append, total_smsgs s f k]; simp [total, smsg]; omega
theorem smsgs_drop {s : List Int} {f : List Bool} {n k : Nat} (h : k < n) : (smsgs s f n).drop k = smsg s f k :: (smsgs s f n).drop (k + 1) := by
  rw [List.drop_eq_getElem_cons (by simp [smsgs]; omega)]
  simp [smsgs]
end Towline.Store
namespace Go.Proofs.Yteblkbnkaogkmaa
open Go Towline Towline.Store
set_option linter.unusedVariables false
set_option maxRecDepth 20000
set_option maxHeartbeats 4000000
def encB (b : Bool) : List D := [.b b]
theorem streams_spec (s : List Int) (f : List Bool) (hs : ∀ x ∈ s, -2 ^ 63 ≤ x ∧ x < 2 ^ 63) :
    PSpec Try.prog 5 [.d (slT 1 encI s), .d (slT 1 encB f)] (· = vb true) := by
  have hget : ∀ i, -2 ^ 63 ≤ s.getD i default ∧ s.getD i default < 2 ^ 63 := by
    intro i
    rcases Nat.lt_or_ge i s.length with h | h
    · rw [List.getD_eq_getElem?_getD, List.getElem?_eq_getElem h]; exact hs _ (List.getElem_mem h)
    · rw [List.getD_eq_getElem?_getD, List.getElem?_eq_none h]; decide
  refine PSpec.run tysOk follows Try.func5 (by decide) rfl Try.ntmps5 (Nat.le_of_ble_eq_true rfl) rfl fun w0 R0 => ?_
  conv => whnf
  refine ⟨_, shown_spec, ?_⟩
  rintro q rfl
  conv => whnf
  refine ⟨_, new_ok 3 (by omega) (by omega), ?_⟩
  rintro q rfl
  conv => whnf
  split <;> rename_i h1
  · conv => whnf
    exact ⟨_, .refl _, rfl, rfl⟩
  · replace h1 := of_decide_eq_false h1
    try simp only [Int.toNat_natCast] at h1
    have h1 : s.length ≤ 60 := by omega
    conv => whnf
    split <;> rename_i h2
    · conv => whnf
      exact ⟨_, .refl _, rfl, rfl⟩
    · replace h2 := of_decide_eq_false h2
      try simp only [Int.toNat_natCast] at h2
      have h2 : f.length ≤ 60 := by omega
      conv => whnf
      refine ALoop.introR tysOk follows (fun k : {k // k ≤ s.length} => ([(0, .d (slT 1 encI s)), (1, .d (slT 1 encB f)), (6, .ptr 6 0), (8, vi k.1)], [(6, .box (stL (smsgs s f k.1) 0 [0, 0, 0]))])) (fun k => s.length - k.1) ⟨0, by omega⟩ ?_ ?_
      · exact ⟨.refl _, .refl _, .refl _, .refl _, OLe.refl _, trivial⟩
      · rintro ⟨k, hk⟩
        dsimp only
        conv => whnf
        split <;> rename_i h3
        · replace h3 := of_decide_eq_true h3
          try simp only [Int.toNat_natCast] at h3
          have h3 : k < s.length := by omega
          have hp := push_spec (smsgs s f k) 0 [0, 0, 0] (smsg s f k) (by rw [total_smsgs]; omega) (by omega) (by omega) (by rw [smsgs_length]; omega) (by have := smsg_stream s f k; omega)
          have he : pushE (smsgs s f k) 0 [0, 0, 0] (smsg s f k) = 0 := by
            have := smsg_stream s f k
            simp only [pushE, total_smsgs, List.length_cons, List.length_nil]
            rw [if_neg (by omega), if_neg (by simp [smsg]), if_neg (by simp [smsg]), if_neg (by simp [smsg]; omega)]
          rw [he, if_pos rfl, ← smsgs_succ] at hp
          conv => whnf
          refine ⟨by first | omega | (simp only [Int.toNat_natCast]; omega) | (simp; done) | (simp; omega), ?_⟩
          conv => whnf
          refine ⟨_, pick_spec (s.getD k default) 3 (by omega) (hget k).1 (hget k).2, ?_⟩
          conv => whnf
          have e1 : IntKind.u16.wrap (pickOf (s.getD k default) 3) = ((smsg s f k).stream : Int) := by
            have := pickOf_lt (s.getD k default) 3 (by omega)
            show IntKind.u16.wrap (pickOf (s.getD k default) 3) = ((pickOf (s.getD k default) 3).toNat : Int)
            generalize pickOf (s.getD k default) 3 = z at *
            simp [IntKind.wrap, IntKind.bits, IntKind.signed]; omega
          split <;> rename_i h4
          · replace h4 := of_decide_eq_true h4
            try simp only [Int.toNat_natCast] at h4
            have h4 : k < f.length := by omega
            have e2 : f.getD k default = (smsg s f k).free := by simp [smsg, h4]
            conv => whnf
            refine ⟨by first | omega | (simp only [Int.toNat_natCast]; omega) | (simp; done) | (simp; omega), ?_⟩
            conv => whnf
            refine ⟨_, hp.argsC ⟨.refl _, .agg ⟨.refl _, .of_eq (by show AVal.d (.i .u16 (IntKind.u16.wrap (pickOf (s.getD k default) 3))) = _; rw [e1]), .refl _, .of_eq (by show vb (f.getD k default) = _; rw [e2]), .refl _, .refl _, trivial⟩, trivial⟩, ?_⟩
            conv => whnf
            refine ⟨by kernel_rfl, ?_⟩
            conv => whnf
            refine ⟨by first | omega | (simp only [Int.toNat_natCast]; omega) | (simp; done) | (simp; omega), ?_⟩
            conv => whnf
            refine ⟨⟨k + 1, by omega⟩, [], by dsimp only; omega, .refl _, .refl _, .refl _, .refl _, OLe.refl _, trivial⟩
          · replace h4 := of_decide_eq_false h4
            try simp only [Int.toNat_natCast] at h4
            have h4 : ¬ k < f.length := by omega
            have e2 : false = (smsg s f k).free := by simp [smsg, h4]
            conv => whnf
            refine ⟨_, hp.argsC ⟨.refl _, .agg ⟨.refl _, .of_eq (by show AVal.d (.i .u16 (IntKind.u16.wrap (pickOf (s.getD k default) 3))) = _; rw [e1]), .refl _, .of_eq (by show vb false = _; rw [e2]), .refl _, .refl _, trivial⟩, trivial⟩, ?_⟩
            conv => whnf
            refine ⟨by kernel_rfl, ?_⟩
            conv => whnf
            refine ⟨by first | omega | (simp only [Int.toNat_natCast]; omega) | (simp; done) | (simp; omega), ?_⟩
            conv => whnf
            refine ⟨⟨k + 1, by omega⟩, [], by dsimp only; omega, .refl _, .refl _, .refl _, .refl _, OLe.refl _, trivial⟩
        · replace h3 := of_decide_eq_false h3
          try simp only [Int.toNat_natCast] at h3
          obtain rfl : k = s.length := by omega
          generalize hN : s.length = N at *
          conv => whnf
          refine ALoop.introR tysOk follows (fun x : {p : Nat × Bool // p.1 ≤ N ∧ (p.2 = true → p.1 < N)} => ([(0, .d (slT 1 encI s)), (6, .ptr 6 0), (11, .rsl 76 1 0 3), (12, vi ((2 * x.1.1 + x.1.2.toNat : Nat)))], [(6, .box (stL ((smsgs s f N).drop x.1.1) x.1.2.toNat (snx s f x.1.1))), (76, .row 31 1 3 (fun j => encN ((snx s f x.1.1).getD j default)))])) (fun x => 2 * (N - x.1.1) - x.1.2.toNat) ⟨(0, false), by simp⟩ ?_ ?_
          · refine ⟨.refl _, .refl _, .refl _, .refl _, OLe.refl _, ⟨rfl, rfl, rfl, fun j hj => ?_⟩, trivial⟩
            match j, hj with
            | 0, _ => rfl
            | 1, _ => rfl
            | 2, _ => rfl
          · rintro ⟨⟨k, half⟩, hk, hh⟩
            dsimp only
            conv => whnf
            refine ⟨by first | omega | (simp only [Int.toNat_natCast]; omega) | (simp; done) | (simp; omega), ?_⟩
            conv => whnf
            split <;> rename_i h3
            · replace h3 := of_decide_eq_true h3
              try simp only [Int.toNat_natCast] at h3
              have h3 : k < N := by cases half <;> simp at h3 <;> omega
              have hkN := h3
              have hst := smsg_stream s f k
              have hm := smsgs_drop (s := s) (f := f) h3
              have hp := take_spec (smsg s f k) ((smsgs s f N).drop (k + 1)) half.toNat (snx s f k) 1 (by rw [snx_length]; exact hst) (by omega) (by cases half <;> simp [smsg]) (by simp [smsg]) (by simp [smsgs]; omega) (by rw [snx_length]; omega)
              rw [← hm] at hp
              have d1 : IntKind.i64.wrap (Int.tdiv ((2 * k + half.toNat : Nat) : Int) 2) = k := by
                have : Int.tdiv ((2 * k + half.toNat : Nat) : Int) 2 = k := by rw [Int.tdiv_eq_ediv_of_nonneg (by omega)]; cases half <;> simp <;> omega
                rw [this, IntWalk.i64_in _ (by omega)]
              have d2 : Int.tmod ((2 * k + half.toNat : Nat) : Int) 2 = half.toNat := by rw [Int.tmod_eq_emod_of_nonneg (by omega)]; cases half <;> simp <;> omega
              have d3 : ((smsg s f k).stream : Int) = pickOf (s.getD k default) 3 := by
                have := pickOf_lt (s.getD k default) 3 (by omega)
                show (((pickOf (s.getD k default) 3).toNat : Nat) : Int) = _
                omega
              cases half with
              | false =>
                have c1 : cut (smsg s f k) 0 1 = 1 := by simp [cut, smsg]; rfl
                have e1 : after (smsg s f k) ((smsgs s f N).drop (k + 1)) (Bool.toNat false) (snx s f k) 1 = ⟨(smsgs s f N).drop k, 1, snx s f k⟩ := by rw [hm]; simp [after, c1]; simp [smsg]
                have e2 : pieceOf (smsg s f k) (Bool.toNat false) (snx s f k) 1 = ⟨0, true, false, (smsg s f k).free, (smsg s f k).stream, num (smsg s f k) (snx s f k), 0, [97]⟩ := by simp [pieceOf, c1]; simp [smsg]
                rw [e1, e2] at hp
                replace hp : PSpec Try.prog 11 [stA ((smsgs s f N).drop k) 0 (snx s f k), vi 1] (· = .tup [stA ((smsgs s f N).drop k) 1 (snx s f k), .agg [.d (.i .u32 0), vb true, vb false, vb (smsg s f k).free, .d (.i .u16 (smsg s f k).stream), .d (.i .u16 (num (smsg s f k) (snx s f k))), .d (.i .u32 0), vs [97]], vi (smsg s f k).id, vb true]) := hp
                conv => whnf
                refine ⟨_, hp, ?_⟩
                rintro q rfl
                conv => whnf
                refine ⟨by first | omega | (simp only [Int.toNat_natCast]; omega) | (simp; done) | (simp; omega), ?_⟩
                conv => whnf
                rw [d1]
                rw [show ((smsg s f k).id != (k : Int)) = false from by simp [smsg]]
                conv => whnf
                refine ⟨by first | omega | (simp only [Int.toNat_natCast]; omega) | (simp; done) | (simp; omega), ?_⟩
                conv => whnf
                refine ⟨by first | omega | (simp only [Int.toNat_natCast]; omega) | (simp; done) | (simp; omega), ?_⟩
                conv => whnf
                refine ⟨_, pick_spec (s.getD k default) 3 (by omega) (hget k).1 (hget k).2, ?_⟩
                conv => whnf
                rw [show ((((smsg s f k).stream : Nat) : Int) != pickOf (s.getD k default) 3) = false from by rw [d3]; simp]
                conv => whnf
                refine ⟨by first | omega | (simp only [Int.toNat_natCast]; omega) | (simp; done) | (simp; omega), ?_⟩
                conv => whnf
                rw [d2]
                conv => whnf
                refine ⟨by first | omega | (simp only [Int.toNat_natCast]; omega) | (simp; done) | (simp; omega), ?_⟩
                conv => whnf
                rw [d2]
                conv => whnf
                refine ⟨by kernel_rfl, ?_⟩
                conv => whnf
                split <;> rename_i h5
                · conv => whnf
                  rw [show (((num (smsg s f k) (snx s f k) : Nat) : Int) != 0) = false from by simp [num, h5]]
                  conv => whnf
                  rw [h5]
                  conv => whnf
                  refine ⟨by kernel_rfl, ?_⟩
                  conv => whnf
                  refine ⟨by first | omega | (simp only [Int.toNat_natCast]; omega) | (simp; done) | (simp; omega), ?_⟩
                  conv => whnf
                  refine ⟨⟨(k, true), by omega, fun _ => hkN⟩, [], by simp; omega, .refl _, .refl _, .refl _, .of_eq (by simp), OLe.refl _, OLe.refl _, trivial⟩
                · conv => whnf
                  rw [h5]
                  conv => whnf
                  refine ⟨by first | omega | (simp only [Int.toNat_natCast]; omega) | (simp; done) | (simp; omega), ?_⟩
                  conv => whnf
                  refine ⟨by first | omega | (simp only [Int.toNat_natCast]; omega) | (simp; done) | (simp; omega), ?_⟩
                  conv => whnf
                  rw [show (((num (smsg s f k) (snx s f k) : Nat) : Int) != (((snx s f k).getD (0 + Int.toNat ((smsg s f k).stream : Int)) default : Nat) : Int)) = false from by simp [num, h5, Nat.default_eq_zero]]
                  conv => whnf
                  refine ⟨by kernel_rfl, ?_⟩
                  conv => whnf
                  refine ⟨by first | omega | (simp only [Int.toNat_natCast]; omega) | (simp; done) | (simp; omega), ?_⟩
                  conv => whnf
                  refine ⟨⟨(k, true), by omega, fun _ => hkN⟩, [], by simp; omega, .refl _, .refl _, .refl _, .of_eq (by simp), OLe.refl _, OLe.refl _, trivial⟩
              | true =>
                have c1 : cut (smsg s f k) 1 1 = 1 := by simp [cut, smsg]; rfl
                have e1 : after (smsg s f k) ((smsgs s f N).drop (k + 1)) (Bool.toNat true) (snx s f k) 1 = ⟨(smsgs s f N).drop (k + 1), 0, snx s f (k + 1)⟩ := by simp [after, c1, snx]; simp [smsg]
                have e2 : pieceOf (smsg s f k) (Bool.toNat true) (snx s f k) 1 = ⟨0, false, true, (smsg s f k).free, (smsg s f k).stream, num (smsg s f k) (snx s f k), 0, [98]⟩ := by simp [pieceOf, c1]; simp [smsg]
                rw [e1, e2] at hp
                replace hp : PSpec Try.prog 11 [stA ((smsgs s f N).drop k) 1 (snx s f k), vi 1] (· = .tup [stA ((smsgs s f N).drop (k + 1)) 0 (snx s f (k + 1)), .agg [.d (.i .u32 0), vb false, vb true, vb (smsg s f k).free, .d (.i .u16 (smsg s f k).stream), .d (.i .u16 (num (smsg s f k) (snx s f k))), .d (.i .u32 0), vs [98]], vi (smsg s f k).id, vb true]) := hp
                conv => whnf
                refine ⟨_, hp, ?_⟩
                rintro q rfl
                conv => whnf
                refine ⟨by first | omega | (simp only [Int.toNat_natCast]; omega) | (simp; done) | (simp; omega), ?_⟩
                conv => whnf
                rw [d1]
                rw [show ((smsg s f k).id != (k : Int)) = false from by simp [smsg]]
                conv => whnf
                refine ⟨by first | omega | (simp only [Int.toNat_natCast]; omega) | (simp; done) | (simp; omega), ?_⟩
                conv => whnf
                refine ⟨by first | omega | (simp only [Int.toNat_natCast]; omega) | (simp; done) | (simp; omega), ?_⟩
                conv => whnf
                refine ⟨_, pick_spec (s.getD k default) 3 (by omega) (hget k).1 (hget k).2, ?_⟩
                conv => whnf
                rw [show ((((smsg s f k).stream : Nat) : Int) != pickOf (s.getD k default) 3) = false from by rw [d3]; simp]
                conv => whnf
                refine ⟨by first | omega | (simp only [Int.toNat_natCast]; omega) | (simp; done) | (simp; omega), ?_⟩
                conv => whnf
                rw [d2]
                conv => whnf
                refine ⟨by first | omega | (simp only [Int.toNat_natCast]; omega) | (simp; done) | (simp; omega), ?_⟩
                conv => whnf
                rw [d2]
                conv => whnf
                refine ⟨by kernel_rfl, ?_⟩
                conv => whnf
                split <;> rename_i h5
                · conv => whnf
                  rw [show (((num (smsg s f k) (snx s f k) : Nat) : Int) != 0) = false from by simp [num, h5]]
                  conv => whnf
                  rw [h5]
                  conv => whnf
                  refine ⟨by kernel_rfl, ?_⟩
                  conv => whnf
                  refine ⟨by first | omega | (simp only [Int.toNat_natCast]; omega) | (simp; done) | (simp; omega), ?_⟩
                  conv => whnf
                  have e9 : snx s f (k + 1) = snx s f k := by simp [snx, bump, h5]
                  refine ⟨⟨(k + 1, false), by simp; omega, by simp⟩, [], by simp; omega, .refl _, .refl _, .refl _, .of_eq (by simp; omega), OLe.refl _, ⟨rfl, rfl, rfl, fun j hj => by dsimp only; rw [e9]⟩, trivial⟩
                · conv => whnf
                  rw [h5]
                  conv => whnf
                  refine ⟨by first | omega | (simp only [Int.toNat_natCast]; omega) | (simp; done) | (simp; omega), ?_⟩
                  conv => whnf
                  refine ⟨by first | omega | (simp only [Int.toNat_natCast]; omega) | (simp; done) | (simp; omega), ?_⟩
                  conv => whnf
                  rw [show (((num (smsg s f k) (snx s f k) : Nat) : Int) != (((snx s f k).getD (0 + Int.toNat ((smsg s f k).stream : Int)) default : Nat) : Int)) = false from by simp [num, h5, Nat.default_eq_zero]]
                  conv => whnf
                  refine ⟨by kernel_rfl, ?_⟩
                  conv => whnf
                  refine ⟨by first | omega | (simp only [Int.toNat_natCast]; omega) | (simp; done) | (simp; omega), ?_⟩
                  conv => whnf
                  refine ⟨by first | omega | (simp only [Int.toNat_natCast]; omega) | (simp; done) | (simp; omega), ?_⟩
                  conv => whnf
                  refine ⟨by first | omega | (simp only [Int.toNat_natCast]; omega) | (simp; done) | (simp; omega), ?_⟩
                  conv => whnf
                  refine ⟨by first | omega | (simp only [Int.toNat_natCast]; omega) | (simp; done) | (simp; omega), ?_⟩
                  conv => whnf
                  refine ⟨by first | omega | (simp only [Int.toNat_natCast]; omega) | (simp; done) | (simp; omega), ?_⟩
                  conv => whnf
                  refine ⟨⟨(k + 1, false), by simp; omega, by simp⟩, [], by simp; omega, .refl _, .refl _, .refl _, .of_eq (by simp; omega), OLe.refl _, ⟨rfl, rfl, rfl, fun j hj => ?_⟩, trivial⟩
                  have e3 : IntKind.u16.wrap ((((snx s f k).getD (smsg s f k).stream 0 : Nat) : Int) + 1) = ((((snx s f k).getD (smsg s f k).stream 0 + 1) % 65536 : Nat) : Int) := by simp [IntKind.wrap, IntKind.bits, IntKind.signed]
                  have e4 : snx s f (k + 1) = (snx s f k).set (smsg s f k).stream (((snx s f k).getD (smsg s f k).stream 0 + 1) % 65536) := by simp [snx, bump, h5]
                  have e5 := snx_length s f k
                  dsimp only
                  rw [e4]
                  simp only [fupd, Nat.zero_add, Int.toNat_natCast]
                  split
                  · rename_i e
                    subst e
                    rw [show ((snx s f k).getD (smsg s f k).stream default) = (snx s f k).getD (smsg s f k).stream 0 from rfl, e3]
                    simp [encN, e5, hst]
                  · rename_i e
                    rw [show (default : Nat) = 0 from rfl]
                    simp only [List.getD_eq_getElem?_getD, List.getElem?_set]
                    rw [if_neg (by omega)]
            · replace h3 := of_decide_eq_false h3
              try simp only [Int.toNat_natCast] at h3
              have h3 : k = N ∧ half = false := by cases half <;> simp at h3 hh <;> simp <;> omega
              obtain ⟨rfl, rfl⟩ := h3
              have hd : (smsgs s f k).drop k = [] := by simp [smsgs]
              have e5 := snx_length s f k
              rw [hd]
              conv => whnf
              refine ⟨by first | omega | (simp only [Int.toNat_natCast]; omega) | (simp; done) | (simp; omega), ?_⟩
              conv => whnf
              refine ⟨by first | omega | (simp only [Int.toNat_natCast]; omega) | (simp; done) | (simp; omega), ?_⟩
              conv => whnf
              refine ⟨by first | omega | (simp only [Int.toNat_natCast]; omega) | (simp; done) | (simp; omega), ?_⟩
              conv => whnf
              rw [show ((((snx s f k).getD (Int.toNat 0) default : Nat) : Int) == (((snx s f k).getD (0 + Int.toNat 0) default : Nat) : Int)) = true from by simp]
              conv => whnf
              refine ⟨by first | omega | (simp only [Int.toNat_natCast]; omega) | (simp; done) | (simp; omega), ?_⟩
              conv => whnf
              refine ⟨by first | omega | (simp only [Int.toNat_natCast]; omega) | (simp; done) | (simp; omega), ?_⟩
              conv => whnf
              refine ⟨by first | omega | (simp only [Int.toNat_natCast]; omega) | (simp; done) | (simp; omega), ?_⟩
              conv => whnf
              rw [show ((((snx s f k).getD (Int.toNat 1) default : Nat) : Int) == (((snx s f k).getD (0 + Int.toNat 1) default : Nat) : Int)) = true from by simp]
              conv => whnf
              refine ⟨by first | omega | (simp only [Int.toNat_natCast]; omega) | (simp; done) | (simp; omega), ?_⟩
              conv => whnf
              refine ⟨by first | omega | (simp only [Int.toNat_natCast]; omega) | (simp; done) | (simp; omega), ?_⟩
              conv => whnf
              refine ⟨by first | omega | (simp only [Int.toNat_natCast]; omega) | (simp; done) | (simp; omega), ?_⟩
              conv => whnf
              refine ⟨by kernel_rfl, ?_⟩
              conv => whnf
              exact ⟨_, .refl _, by simp, rfl⟩
theorem wt_bools {n : Nat} {a : D} (h : wt tys (n + 2) 45 [a]) : ∃ l : List Bool, l.length ≤ maxLen ∧ (AVal.d a).le (.d (slT 1 encB l)) := by
  obtain ⟨m, f, ha, hm, hf⟩ := h
  obtain ⟨l, h1, h2, h3⟩ := list_of (enc := encB) (p := fun _ => True) (f := f) (m := m) fun k hk => by
    obtain ⟨h4, h5⟩ := hf k hk
    match hfk : f k, h4 with
    | [b], _ =>
      rw [hfk] at h5
      obtain ⟨x, rfl⟩ := wt_bool h5
      exact ⟨x, rfl, trivial⟩
  obtain ⟨rfl, _⟩ := List.cons.inj ha
  exact ⟨l, by omega, .sl h1.symm fun k hk => h3 k hk⟩
theorem storeStreams_of {l0 l1 : List D} (h0 : wt tys 8 23 l0) (h1 : wt tys 8 45 l1) :
    PSpec Try.prog 5 [asV false l0, asV false l1] (· = vb true) := by
  obtain ⟨d0, rfl⟩ : ∃ d, l0 = [d] := by
    obtain ⟨m, f, hx, _⟩ := h0
    exact ⟨_, hx⟩
  obtain ⟨d1, rfl⟩ : ∃ d, l1 = [d] := by
    obtain ⟨m, f, hx, _⟩ := h1
    exact ⟨_, hx⟩
  obtain ⟨s, k1, k2, k3⟩ := wt_ints (n := 6) h0
  obtain ⟨f, k4, k5⟩ := wt_bools (n := 6) h1
  exact (streams_spec s f k2).argsC ⟨k3, k5, trivial⟩
end Go.Proofs.Yteblkbnkaogkmaa
