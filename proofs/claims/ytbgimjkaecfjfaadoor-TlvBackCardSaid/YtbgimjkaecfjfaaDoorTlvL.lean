/- Chapter 6: the document's Build and Parse: contracts. -/
import Derived.Test.YtbgimjkaecfjfaaDoorTlvK
namespace Go.Proofs.YtbgimjkaecfjfaaDoor
open Go Go.RowKit Towline Towline.Tlv
set_option linter.unusedVariables false
set_option linter.unusedSimpArgs false
set_option maxRecDepth 20000
set_option maxHeartbeats 4000000
theorem rhdr_row (x : Tlv.It) (h0 : 0 ≤ x.ty ∧ x.ty ≤ 65535) (hv : x.v.length ≤ 1400) : ∀ j, j < 4 → ([D.i .u8 (IntKind.u8.wrap (IntKind.i64.wrap (x.ty.tdiv 256)))] :: [D.i .u8 (IntKind.u8.wrap x.ty)] :: [D.i .u8 (IntKind.u8.wrap (IntKind.i64.wrap ((x.v.length + 4 : Int).tdiv 256)))] :: [D.i .u8 (IntKind.u8.wrap (x.v.length + 4))] :: replF 0 ty5.zero).getD (0 + j) [] = bytesF (hdr x) j := by
  intro j hj
  have e1 : IntKind.i64.wrap (x.ty.tdiv 256) = x.ty.fdiv 256 := by
    rw [Int.tdiv_eq_ediv_of_nonneg h0.1, Int.fdiv_eq_ediv_of_nonneg _ (by decide), IntWalk.i64_in _ (by omega)]
  have e2 : IntKind.i64.wrap ((x.v.length + 4 : Int).tdiv 256) = ((x.v.length + 4 : Nat) : Int).fdiv 256 := by
    rw [Int.tdiv_eq_ediv_of_nonneg (by omega), Int.fdiv_eq_ediv_of_nonneg _ (by decide), IntWalk.i64_in _ (by omega)]
    rfl
  rw [e1, e2, Nat.zero_add]
  match j, hj with
  | 0, _ => show [D.i .u8 (IntKind.u8.wrap (x.ty.fdiv 256))] = [D.i .u8 ((u8 (x.ty.fdiv 256)).toNat : Nat)]; rw [u8_wrap]
  | 1, _ => show [D.i .u8 (IntKind.u8.wrap x.ty)] = [D.i .u8 ((u8 x.ty).toNat : Nat)]; rw [u8_wrap]
  | 2, _ => show [D.i .u8 (IntKind.u8.wrap (((x.v.length + 4 : Nat) : Int).fdiv 256))] = [D.i .u8 ((u8 (((x.v.length + 4 : Nat) : Int).fdiv 256)).toNat : Nat)]; rw [u8_wrap]
  | 3, _ => show [D.i .u8 (IntKind.u8.wrap (x.v.length + 4 : Int))] = [D.i .u8 ((u8 ((x.v.length + 4 : Nat) : Int)).toNat : Nat)]; rw [u8_wrap]; rfl
theorem pad4 (n : Nat) : padN (n + 4) = padN n := by unfold padN; omega
/-- The noughts behind an item, as the document cuts them out. -/
theorem cut_pad (s : List UInt8) (k : Nat) (hk : k ≤ s.length) (hn : b2 (s.drop k) 2 ≤ (s.drop k).length) (m : Nat) (hm : m = min (padN (b2 (s.drop k) 2)) (s.length - k - b2 (s.drop k) 2)) :
    ((s.take (k + b2 (s.drop k) 2 + m)).drop (k + b2 (s.drop k) 2) != List.replicate m 0) = (((s.drop k).take (endN (s.drop k))).drop (b2 (s.drop k) 2)).any (· != 0) ∧ endN (s.drop k) = b2 (s.drop k) 2 + m := by
  have hd : (s.drop k).length = s.length - k := List.length_drop
  have he : endN (s.drop k) = b2 (s.drop k) 2 + m := by
    unfold endN
    omega
  refine ⟨?_, he⟩
  have e1 : (s.take (k + b2 (s.drop k) 2 + m)).drop (k + b2 (s.drop k) 2) = (s.drop (k + b2 (s.drop k) 2)).take m := by
    rw [List.drop_take]
    congr 1
    omega
  have e2 : ((s.drop k).take (endN (s.drop k))).drop (b2 (s.drop k) 2) = (s.drop (k + b2 (s.drop k) 2)).take m := by
    rw [List.drop_take, List.drop_drop, he]
    congr 1
    omega
  rw [e1, e2]
  have hl : ((s.drop (k + b2 (s.drop k) 2)).take m).length = m := by
    rw [List.length_take, List.length_drop]
    omega
  rw [Bool.eq_iff_iff, bne_iff_ne, List.any_eq_true, ne_eq, List.eq_replicate_iff]
  constructor
  · intro h
    by_cases hx : ∃ x ∈ (s.drop (k + b2 (s.drop k) 2)).take m, (x != 0) = true
    · exact hx
    · exact absurd ⟨hl, fun x hx2 => Decidable.byContradiction fun hx3 => hx ⟨x, hx2, by simpa using hx3⟩⟩ h
  · rintro ⟨x, hx, hx2⟩ ⟨_, h⟩
    rw [h x hx] at hx2
    cases hx2
theorem rpadN_spec (n : Nat) (h : n < 2 ^ 62) : PSpec Tryd.prog 23 [tvi n] (· = tvi (padN n)) := by
  rw [← padI_nat]
  exact rpad_spec n (by omega)
theorem rbuild_spec (l : List Tlv.It) (h4 : l.length ≤ 2 ^ 20) : PSpec Tryd.prog 20 [.d (slT 2 encI l)] (· = .tup [tvs (buildL l).1, tvi (buildL l).2]) := by
  refine PSpec.run (tysOk) followsB Tryd.func20 (by decide) rfl Tryd.ntmps20 (Nat.le_of_ble_eq_true rfl) rfl fun w0 R0 => ?_
  conv => whnf
  refine ALoop.introR tysOk followsB (fun k : {k // k ≤ l.length ∧ ∀ j, j < k → badTy (l.getD j default) = false} => ([(0, .d (slT 2 encI l)), (4, tvi k.1)], [])) (fun k => l.length - k.1) ⟨0, by omega, fun j hj => by omega⟩ ?_ ?_
  · exact ⟨.refl _, .refl _, trivial⟩
  rintro ⟨k, hk, hall⟩
  dsimp only
  conv => whnf
  split <;> rename_i h1
  · have hlt : k < l.length := by simpa using h1
    conv => whnf
    refine ⟨by first | omega | (simp only [Int.toNat_natCast]; omega) | (simp; done) | (simp; omega), ?_⟩
    conv => whnf
    have ep : ∀ b : Bool, b = badTy (l.getD k default) → b = true → buildL l = ([], 1) := fun b hb hb2 => by
      unfold buildL
      rw [if_pos (any_true hlt (by rw [← hb, hb2]))]
    split <;> rename_i g1
    · conv => whnf
      rw [ep true (by show true = (decide ((l.getD k default).ty < 0) || decide (65535 < (l.getD k default).ty)); rw [show decide ((l.getD k default).ty < 0) = true from g1]; rfl) rfl]
      exact ⟨_, .refl _, rfl, rfl⟩
    · conv => whnf
      refine ⟨by first | omega | (simp only [Int.toNat_natCast]; omega) | (simp; done) | (simp; omega), ?_⟩
      conv => whnf
      split <;> rename_i g2
      · conv => whnf
        rw [ep true (by show true = (decide ((l.getD k default).ty < 0) || decide (65535 < (l.getD k default).ty)); rw [show decide (65535 < (l.getD k default).ty) = true from g2, Bool.or_true]) rfl]
        exact ⟨_, .refl _, rfl, rfl⟩
      · have g3 : badTy (l.getD k default) = false := by
          show (decide ((l.getD k default).ty < 0) || decide (65535 < (l.getD k default).ty)) = false
          rw [show decide ((l.getD k default).ty < 0) = false from g1, show decide (65535 < (l.getD k default).ty) = false from g2]
          rfl
        conv => whnf
        refine ⟨by first | omega | (simp only [Int.toNat_natCast]; omega) | (simp; done) | (simp; omega), ?_⟩
        conv => whnf
        refine ⟨⟨k + 1, by omega, fun j hj => ?_⟩, [], by dsimp only; omega, .refl _, .refl _, trivial⟩
        rcases Nat.lt_or_eq_of_le (show j ≤ k from by omega) with h | rfl
        · exact hall j h
        · exact g3
  · have hlt : ¬ k < l.length := by simpa using h1
    obtain rfl : k = l.length := by omega
    conv => whnf
    have h0 : l.any badTy = false := any_false hall
    refine ALoop.introR tysOk followsB (fun k : {k // k ≤ l.length ∧ ∀ j, j < k → longV (l.getD j default) = false} => ([(0, .d (slT 2 encI l)), (5, tvs (Tlv.bytes (l.take k.1))), (6, tvi k.1)], [])) (fun k => l.length - k.1) ⟨0, by omega, fun j hj => by omega⟩ ?_ ?_
    · exact ⟨.refl _, .refl _, .refl _, trivial⟩
    rintro ⟨k, hk1, hk2⟩
    dsimp only
    conv => whnf
    split <;> rename_i h1
    · have hlt : k < l.length := by simpa using h1
      conv => whnf
      refine ⟨by first | omega | (simp only [Int.toNat_natCast]; omega) | (simp; done) | (simp; omega), ?_⟩
      conv => whnf
      split <;> rename_i h2
      · conv => whnf
        rw [show buildL l = ([], 4) from by unfold buildL; rw [if_neg (by simp [h0]), if_pos (any_true hlt (decide_eq_true (Int.ofNat_lt.1 (of_decide_eq_true h2))))]]
        exact ⟨_, .refl _, rfl, rfl⟩
      · have h3 : longV (l.getD k default) = false := decide_eq_false (fun h => of_decide_eq_false h2 (Int.ofNat_lt.2 h))
        have hv : (l.getD k default).v.length ≤ 1400 := by
          have h : ¬ 1400 < (l.getD k default).v.length := of_decide_eq_false h3
          omega
        have hb := bytes_len l k (by omega) hk2
        have hpad : padN (l.getD k default).v.length < 4 := Nat.mod_lt _ (by decide)
        have hty : badTy (l.getD k default) = false := hall k hlt
        obtain ⟨a, ea⟩ : ∃ a, a = l.getD k default := ⟨_, rfl⟩
        have ht0 : 0 ≤ a.ty ∧ a.ty ≤ 65535 := by
          rw [← ea] at hty
          simp only [badTy, Bool.or_eq_false_iff, decide_eq_false_iff_not] at hty
          omega
        conv => whnf
        rw [show (l.getD (Int.toNat k) default) = a from ea.symm]
        rw [← ea] at hv hpad
        repeat (refine ⟨by first | decide | omega | (simp; omega), ?_⟩; conv => whnf)
        subst ea
        refine ⟨hdr (l.getD k default), ⟨rfl, by omega, rhdr_row (l.getD k default) ht0 hv⟩, ?_⟩
        conv => whnf
        refine ⟨by show _ + 4 ≤ _; omega, ?_⟩
        conv => whnf
        refine ⟨by rw [List.length_append]; show _ + 4 + _ ≤ _; omega, ?_⟩
        conv => whnf
        refine ⟨_, rpadN_spec (l.getD k default).v.length (by omega), ?_⟩
        conv => whnf
        refine ⟨_, noughts_spec (padN (l.getD k default).v.length) (by omega), ?_⟩
        conv => whnf
        refine ⟨by rw [List.length_append, List.length_append, List.length_replicate]; show _ + 4 + _ + _ ≤ _; omega, ?_⟩
        conv => whnf
        refine ⟨by kernel_rfl, ?_⟩
        conv => whnf
        refine ⟨by first | omega | (simp only [Int.toNat_natCast]; omega) | (simp; done) | (simp; omega), ?_⟩
        conv => whnf
        refine ⟨⟨k + 1, by omega, fun j hj => ?_⟩, [], by dsimp only; omega, .refl _, .of_eq ?_, .refl _, trivial⟩
        · rcases Nat.lt_or_eq_of_le (show j ≤ k from by omega) with h | rfl
          · exact hk2 j h
          · exact h3
        · dsimp only
          rw [bytes_take l k hlt, Tlv.enc, tailB, pad4]
          simp only [List.append_assoc]
    · have hlt : ¬ k < l.length := by simpa using h1
      obtain rfl : k = l.length := by omega
      have hlong : l.any longV = false := any_false fun j hj => hk2 j (by omega)
      rw [List.take_length]
      conv => whnf
      split <;> rename_i h5
      · replace h5 := of_decide_eq_true h5
        try simp only [Int.toNat_natCast] at h5
        conv => whnf
        rw [show buildL l = ([], 4) from by unfold buildL; rw [if_neg (by simp [h0]), if_neg (by simp [hlong]), if_pos (by omega)]]
        exact ⟨_, .refl _, rfl, rfl⟩
      · replace h5 := of_decide_eq_false h5
        try simp only [Int.toNat_natCast] at h5
        conv => whnf
        rw [show buildL l = (Tlv.bytes l, 0) from by unfold buildL; rw [if_neg (by simp [h0]), if_neg (by simp [hlong]), if_neg (by omega)]]
        exact ⟨_, .refl _, rfl, rfl⟩
theorem rparse_spec (s : List UInt8) (hs : s.length ≤ 2 ^ 40) : PSpec Tryd.prog 11 [tvs s] (· = .tup [.d (slT 2 encI (parseL s).1), tvi (parseL s).2.1, tvi (parseL s).2.2]) := by
  refine PSpec.run (tysOk) followsB Tryd.func11 (by decide) rfl Tryd.ntmps11 (Nat.le_of_ble_eq_true rfl) rfl fun w0 R0 => ?_
  conv => whnf
  split <;> rename_i h0
  · replace h0 := of_decide_eq_true h0
    try simp only [Int.toNat_natCast] at h0
    conv => whnf
    rw [show parseL s = ([], 0, 4) from by unfold parseL; rw [if_pos (by omega)]]
    refine ⟨_, ?_, rfl, rfl⟩
    exact .tup ⟨.nil, .refl _, .refl _, trivial⟩
  replace h0 := of_decide_eq_false h0
  try simp only [Int.toNat_natCast] at h0
  conv => whnf
  refine ALoop.adopt 5 1000 2 57 (fun k => []) rfl rfl rfl ?_
  refine ALoop.introR tysOk followsB (fun k : {k : Nat × List Rd // k.1 ≤ s.length ∧ yl s 0 = k.2 ++ yl (s.drop k.1) k.1 ∧ k.2.all Tlv.okR = true} => ([(0, tvs s), (5, .rsl 1000 2 0 k.1.2.length), (6, tvi k.1.1)], [(1000, .row 57 2 k.1.2.length (fun j => encI (k.1.2.getD j default).x))])) (fun k => s.length - k.1.1) ⟨(0, []), by simp⟩ ?_ ?_
  · exact ⟨.refl _, .refl _, .refl _, ⟨rfl, rfl, rfl, fun _ hj => by simp at hj⟩, trivial⟩
  rintro ⟨⟨k, pre⟩, hk, hy, hok⟩
  dsimp only at hk hy hok ⊢
  conv => whnf
  split <;> rename_i h1
  · have hlt : k < s.length := by simpa using h1
    have hd : (s.drop k).length = s.length - k := List.length_drop
    have bad : ∀ e, firstL (s.drop k) = (⟨0, []⟩, 0, e) → e ≠ 0 → parseL s = ([], (k : Int), e) := fun e h he => by
      have h1 := parse_not (s := s) (by omega) (q := pre) (r := ⟨k, e, ⟨0, []⟩⟩) (by rw [hy, yl_bad (by omega) (by rw [h]; exact he), h]; exact List.prefix_rfl) he
      exact h1
    conv => whnf
    refine ⟨by first | omega | (simp only [Int.toNat_natCast]; omega) | (simp; done) | (simp; omega), ?_⟩
    conv => whnf
    split <;> rename_i g1
    · replace g1 := of_decide_eq_true g1
      try simp only [Int.toNat_natCast] at g1
      conv => whnf
      rw [bad 3 (by unfold firstL; rw [if_pos (by omega)]) (by decide)]
      refine ⟨_, ?_, rfl, rfl⟩
      exact .tup ⟨.nil, .refl _, .refl _, trivial⟩
    replace g1 := of_decide_eq_false g1
    try simp only [Int.toNat_natCast] at g1
    have hb (i : Nat) (hi : k + i + 1 < s.length) : ((s.getD (k + i) 0).toNat * 256 + (s.getD (k + i + 1) 0).toNat) = b2 (s.drop k) i := by
      unfold b2
      rw [List.getD_eq_getElem?_getD, List.getD_eq_getElem?_getD, List.getD_eq_getElem?_getD, List.getD_eq_getElem?_getD, List.getElem?_drop, List.getElem?_drop]
      rfl
    have q2 := UInt8.toNat_lt (s.getD (Int.toNat (k + 2)) 0)
    have q3 := UInt8.toNat_lt (s.getD (Int.toNat (k + 3)) 0)
    have hbn : ((s.getD (Int.toNat (k + 2)) 0).toNat : Int) * 256 + ((s.getD (Int.toNat (k + 3)) 0).toNat : Int) = (b2 (s.drop k) 2 : Nat) := by
      have := hb 2 (by omega)
      rw [show Int.toNat ((k : Int) + 2) = k + 2 from by omega, show Int.toNat ((k : Int) + 3) = k + 2 + 1 from by omega]
      omega
    conv => whnf
    repeat (refine ⟨by first | decide | omega, ?_⟩; conv => whnf)
    refine ⟨by kernel_rfl, ?_⟩
    conv => whnf
    rw [hbn]
    have hb2 : b2 (s.drop k) 2 < 65536 := by omega
    conv => whnf
    split <;> rename_i g2
    · have g2 := of_decide_eq_true g2
      conv => whnf
      rw [bad 2 (by unfold firstL; rw [if_neg (by omega), if_pos (by omega)]) (by decide)]
      refine ⟨_, ?_, rfl, rfl⟩
      exact .tup ⟨.nil, .refl _, .refl _, trivial⟩
    have g2 := of_decide_eq_false g2
    conv => whnf
    split <;> rename_i g3
    · have g3 := of_decide_eq_true g3
      conv => whnf
      rw [bad 3 (by unfold firstL; rw [if_neg (by omega), if_neg (by omega), if_pos (by omega)]) (by decide)]
      refine ⟨_, ?_, rfl, rfl⟩
      exact .tup ⟨.nil, .refl _, .refl _, trivial⟩
    have g3 := of_decide_eq_false g3
    conv => whnf
    refine ⟨by first | omega | (simp only [Int.toNat_natCast]; omega) | (simp; done) | (simp; omega), ?_⟩
    conv => whnf
    split <;> rename_i g4
    · have g4 := of_decide_eq_true g4
      conv => whnf
      rw [bad 4 (by unfold firstL; rw [if_neg (by omega), if_neg (by omega), if_neg (by omega), if_pos (by omega)]) (by decide)]
      refine ⟨_, ?_, rfl, rfl⟩
      exact .tup ⟨.nil, .refl _, .refl _, trivial⟩
    have g4 := of_decide_eq_false g4
    conv => whnf
    refine ⟨_, rpadN_spec (b2 (s.drop k) 2) (by omega), ?_⟩
    rintro q rfl
    conv => whnf
    obtain ⟨m, hm⟩ : ∃ m, m = min (padN (b2 (s.drop k) 2)) (s.length - k - b2 (s.drop k) 2) := ⟨_, rfl⟩
    have hpad := padN_lt (b2 (s.drop k) 2)
    obtain ⟨hc, he⟩ := cut_pad s k (by omega) (by omega) m hm
    rw [show (((k : Nat) : Int) = k) from rfl]
    repeat (refine ⟨by first | decide | omega, ?_⟩; conv => whnf)
    rw [show (min ((padN (b2 (s.drop k) 2) : Nat) : Int) ((s.length : Int) - k - (b2 (s.drop k) 2 : Nat))) = (m : Int) from by omega]
    refine ⟨_, noughts_spec m (by omega), ?_⟩
    conv => whnf
    refine ⟨by kernel_rfl, ?_⟩
    conv => whnf
    rw [show ((k : Int) + (b2 (s.drop k) 2 : Nat)) = ((k + b2 (s.drop k) 2 : Nat) : Int) from by omega, show (((k + b2 (s.drop k) 2 : Nat) : Int) + (m : Nat)) = ((k + b2 (s.drop k) 2 + m : Nat) : Int) from by omega]
    have hcm : (cutS s (some ((k + b2 (s.drop k) 2 : Nat) : Int)) (some ((k + b2 (s.drop k) 2 + m : Nat) : Int)) != List.replicate m 0) = (((s.drop k).take (endN (s.drop k))).drop (b2 (s.drop k) 2)).any (· != 0) := hc
    rw [hcm]
    by_cases g5 : (((s.drop k).take (endN (s.drop k))).drop (b2 (s.drop k) 2)).any (· != 0) = true
    · rw [g5]
      conv => whnf
      rw [bad 2 (by unfold firstL; rw [if_neg (by omega), if_neg (by omega), if_neg (by omega), if_neg (by omega), if_pos g5]) (by decide)]
      refine ⟨_, ?_, rfl, rfl⟩
      exact .tup ⟨.nil, .refl _, .refl _, trivial⟩
    rw [Bool.not_eq_true] at g5
    rw [g5]
    conv => whnf
    have q0 := UInt8.toNat_lt (s.getD (Int.toNat k) 0)
    have q1 := UInt8.toNat_lt (s.getD (Int.toNat (k + 1)) 0)
    have hf : firstL (s.drop k) = (⟨b2 (s.drop k) 0, ((s.drop k).take (b2 (s.drop k) 2)).drop 4⟩, endN (s.drop k), 0) := by
      unfold firstL
      rw [if_neg (by omega), if_neg (by omega), if_neg (by omega), if_neg (by omega), if_neg (by rw [g5]; decide)]
    have hlen := yl_len s 0
    have hpl : pre.length ≤ s.length := by
      have := congrArg List.length hy
      rw [List.length_append] at this
      omega
    repeat (refine ⟨by first | decide | omega, ?_⟩; conv => whnf)
    refine ⟨⟨⟨rfl, by omega, by simp only [ty57]; omega⟩, by omega⟩, ?_⟩
    conv => whnf
    refine ⟨by kernel_rfl, ?_⟩
    conv => whnf
    repeat (refine ⟨by first | decide | omega, ?_⟩; conv => whnf)
    have hpos := firstL_pos (s := s.drop k) (by rw [hf])
    rw [hf] at hpos
    simp only at hpos
    refine ⟨⟨(k + endN (s.drop k), pre ++ [⟨k, 0, (firstL (s.drop k)).1⟩]), by dsimp only; omega, ?_, ?_⟩, [(91, 1000)], by dsimp only; omega, .refl _, ?_, .of_eq ?_, ⟨rfl, rfl, ?_, ?_⟩, trivial⟩
    · dsimp only
      rw [hy, yl_go (by omega) (by rw [hf]), hf, List.append_assoc, List.drop_drop]
      rfl
    · dsimp only
      rw [List.all_append, hok]
      rfl
    · exact .of_eq (by rw [List.length_append]; rfl)
    · dsimp only
      rw [he]
      congr 2
      show (k : Int) + (b2 (s.drop k) 2 : Nat) + (m : Nat) = ((k + (b2 (s.drop k) 2 + m) : Nat) : Int)
      omega
    · simp
    · intro j hj
      dsimp only at hj ⊢
      simp only [fcat]
      split
      · rename_i hlt2
        rw [List.getD_eq_getElem?_getD, List.getD_eq_getElem?_getD, List.getElem?_append_left hlt2]
      · rename_i hge
        have hj2 : j = pre.length := by
          omega
        subst hj2
        rw [hf, Nat.sub_self]
        have e : ∀ r : Rd, (pre ++ [r]).getD pre.length default = r := fun r => by
          rw [List.getD_eq_getElem?_getD, List.getElem?_append_right (Nat.le_refl _), Nat.sub_self]
          rfl
        rw [e]
        have a1 : ((s.getD (Int.toNat k) 0).toNat : Int) * 256 + ((s.getD (Int.toNat (k + 1)) 0).toNat : Int) = (b2 (s.drop k) 0 : Nat) := by
          have := hb 0 (by omega)
          rw [show Int.toNat ((k : Nat) : Int) = k + 0 from by omega, show Int.toNat ((k : Int) + 1) = k + 0 + 1 from by omega]
          omega
        have a2 : cutS s (some ((k : Int) + 4)) (some ((k : Int) + (b2 (s.drop k) 2 : Nat))) = ((s.drop k).take (b2 (s.drop k) 2)).drop 4 := by
          rw [show ((k : Int) + 4) = ((k + 4 : Nat) : Int) from by omega, show ((k : Int) + (b2 (s.drop k) 2 : Nat)) = ((k + b2 (s.drop k) 2 : Nat) : Int) from by omega]
          show (s.take (k + b2 (s.drop k) 2)).drop (k + 4) = _
          rw [List.drop_take, List.drop_take, List.drop_drop]
          congr 1
          omega
        rw [a1, a2]
        rfl
  · have hlt : ¬ k < s.length := by simpa using h1
    obtain rfl : k = s.length := by omega
    have e0 : yl (s.drop s.length) s.length = [] := yl_nil (by simp)
    rw [e0, List.append_nil] at hy
    conv => whnf
    refine ⟨by first | omega | (simp only [Int.toNat_natCast]; omega) | (simp; done) | (simp; omega), ?_⟩
    conv => whnf
    rw [parse_all (by omega) (by rw [hy]; exact hok), hy]
    refine ⟨_, ?_, rfl, rfl⟩
    refine .tup ⟨.sl (by simp) (fun j hj => ?_), .refl _, .refl _, trivial⟩
    simp [hj]
theorem parse_bad {s : List UInt8} (h0 : 0 < s.length) (h1 : s.length ≤ 4000) {e : Int} (h : firstL s = (⟨0, []⟩, 0, e)) (he : e ≠ 0) : parseL s = ([], 0, e) := by
  have h2 := parse_not (s := s) h1 (q := []) (r := ⟨0, e, ⟨0, []⟩⟩) (by rw [yl_bad h0 (by rw [h]; exact he), h]; exact List.prefix_rfl) he
  exact h2
theorem shown_spec : PSpec Tryd.prog 9 [] (· = tvb true) := by
  have hb := build_spec [⟨1, [97, 98, 99]⟩, ⟨2, []⟩] (by decide)
  rw [show buildL [⟨1, [97, 98, 99]⟩, ⟨2, []⟩] = ([0, 1, 0, 7, 97, 98, 99, 0, 0, 2, 0, 4], 0) from by decide +kernel] at hb
  have h1 := parse_spec [0, 1, 0, 3]
  rw [parse_bad (by decide) (by decide) (e := 2) (by decide +kernel) (by decide)] at h1
  have h2 := parse_spec [0, 1, 0, 5, 120, 1]
  rw [parse_bad (by decide) (by decide) (e := 2) (by decide +kernel) (by decide)] at h2
  refine PSpec.run (tysOk) followsB Tryd.func9 (by decide) rfl Tryd.ntmps9 (Nat.le_of_ble_eq_true rfl) rfl fun w0 R0 => ?_
  conv => whnf
  refine ⟨by first | omega | (simp only [Int.toNat_natCast]; omega) | (simp; done) | (simp; omega), ?_⟩
  conv => whnf
  refine ⟨_, hb.argsC ⟨.sl rfl (fun j hj => by match j, hj with | 0, _ => rfl | 1, _ => rfl), trivial⟩, ?_⟩
  rintro q rfl
  conv => whnf
  refine ⟨_, h1, ?_⟩
  rintro q rfl
  conv => whnf
  refine ⟨_, h2, ?_⟩
  rintro q rfl
  conv => whnf
  exact ⟨_, .refl _, rfl, rfl⟩
end Go.Proofs.YtbgimjkaecfjfaaDoor
