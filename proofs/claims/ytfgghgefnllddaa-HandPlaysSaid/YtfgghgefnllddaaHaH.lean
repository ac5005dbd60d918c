/- What is not answered is sent eight times. -/
import Derived.Test.YtfgghgefnllddaaHaG
import Derived.Test.YtfgghgefnllddaaChD
namespace Towline.Hand
def dueZ : Nat → Int
  | 0 => 0
  | k + 1 => dueZ k + dbl k
def pickZ (c n : Int) : Int := (if c < 0 then -(c + 1) else c).tmod n
end Towline.Hand
namespace Go.Proofs.Ytfgghgefnllddaa
open Go Towline Towline.Hand
set_option linter.unusedVariables false
set_option linter.unusedSimpArgs false
set_option maxRecDepth 20000
set_option maxHeartbeats 4000000
theorem pick_spec (c n : Int) (hc : -2 ^ 63 ≤ c ∧ c < 2 ^ 63) (hn : 0 < n) : PSpec Try.prog 30 [vi c, vi n] (· = vi (pickZ c n)) := by
  refine PSpec.run tysOk follows Try.func30 (by decide) rfl Try.ntmps30 (Nat.le_of_ble_eq_true rfl) rfl fun w0 R0 => ?_
  conv => whnf
  split <;> rename_i g1
  · replace g1 := of_decide_eq_true g1
    try simp only [Int.toNat_natCast] at g1
    conv => whnf
    refine ⟨by first | omega | (simp only [Int.toNat_natCast]; omega) | (simp; done) | (simp; omega), ?_⟩
    conv => whnf
    refine ⟨by first | omega | (simp only [Int.toNat_natCast]; omega) | (simp; done) | (simp; omega), ?_⟩
    conv => whnf
    refine ⟨by omega, ?_⟩
    conv => whnf
    rw [show pickZ c n = (0 - (c + 1)).tmod n from by rw [pickZ, if_pos g1]; congr 1; omega]
    exact ⟨_, .refl _, rfl, rfl⟩
  · replace g1 := of_decide_eq_false g1
    try simp only [Int.toNat_natCast] at g1
    conv => whnf
    refine ⟨by omega, ?_⟩
    conv => whnf
    rw [show pickZ c n = c.tmod n from by rw [pickZ, if_neg g1]]
    exact ⟨_, .refl _, rfl, rfl⟩
theorem pick4 (c : Int) (hc : -2 ^ 63 ≤ c ∧ c < 2 ^ 63) : pickZ c 4 = 0 ∨ pickZ c 4 = 1 ∨ pickZ c 4 = 2 ∨ pickZ c 4 = 3 := by
  unfold pickZ
  split
  · rw [Int.tmod_eq_emod_of_nonneg (by omega)]; omega
  · rw [Int.tmod_eq_emod_of_nonneg (by omega)]; omega
def chK (k : K) : Chunk.Ch := ⟨k.ty, k.flags, k.tsn, k.tag, k.window, k.ppid, k.stream, k.ssn, k.outs, k.ins, [], [], [], k.text⟩
theorem chK_ok (k : K) : ChOk (chK k) := ⟨by simp [chK], by simp [chK], by simp [chK], fun j => by simp [chK]; decide⟩
theorem rightK_spec (k : K) : PSpec Try.prog 31 [kA k] (· = vb ((buildC (chK k)).2 == 0)) :=
  (right_spec (chK k) (chK_ok k)).argsC ⟨.agg ⟨.refl _, .refl _, .refl _, .refl _, .refl _, .refl _, .refl _, .refl _, .refl _, .refl _, .nil, .nil, .nil, .refl _, trivial⟩, trivial⟩
abbrev hL (st k d tag : Int) : List AVal := [vi st, vi k, vi d, v32 tag, v32 0, v32 0, v32 0, v32 0, v32 0, v16 1, v16 1, vs [99]]
def hT (st : Int) (k : Nat) (tag : Int) : H := ⟨st, k, dueZ k, tag, 0, 0, 0, 0, 0, 1, 1, [99]⟩
def sT (st tag : Int) : K := (sends (hT st 0 tag) 7).getD 0 default
def isT (st : Int) : Prop := st = 1 ∨ st = 2 ∨ st = 5 ∨ st = 7
theorem sends_T (st : Int) (k : Nat) (tag : Int) (h : isT st) : sends (hT st k tag) 7 = [sT st tag] := by
  rcases h with rfl | rfl | rfl | rfl <;> rfl
theorem right_T (st tag : Int) (h : isT st) (ht : ¬ tag = 0) : ((buildC (chK (sT st tag))).2 == 0) = true := by
  have e : goodC (chK (sT st tag)) = true := by
    rcases h with rfl | rfl | rfl | rfl <;> simp [goodC, chK, sT, sends, hT, K.of, fitsB, textB, Tlv.buildL, Chunk.onlyC, ht, Tlv.bytes]
  have l : ¬ 1400 < (encC (chK (sT st tag))).length := by
    rw [encC_len]
    have := Tlv.pad_lt (valB (headB (chK (sT st tag))) (chK (sT st tag))).length
    have h2 : (valB (headB (chK (sT st tag))) (chK (sT st tag))).length ≤ 40 := by
      rcases h with rfl | rfl | rfl | rfl <;> simp [valB, preB, Tlv.cutB, headB, chK, sT, sends, hT, K.of, Chunk.be4, Chunk.be2, Tlv.bytes]
    omega
  rw [buildC, if_pos e, if_neg l]
  rfl
theorem dueZ_le : ∀ k, 0 ≤ dueZ k ∧ dueZ k ≤ 60000 * k
  | 0 => by decide
  | k + 1 => by
    have h1 := dueZ_le k
    have h2 := dbl_le k
    simp only [dueZ]
    omega
theorem dueZ_pos (k : Nat) : 1000 ≤ dueZ (k + 1) := by
  induction k with
  | zero => decide
  | succ k ih =>
    have h2 := dbl_le (k + 1)
    simp only [dueZ] at ih ⊢
    omega
theorem dbl_up (k : Nat) (h : k < 7) : dbl k ≤ dbl (k + 1) := by
  match k, h with
  | 0, _ => decide
  | 1, _ => decide
  | 2, _ => decide
  | 3, _ => decide
  | 4, _ => decide
  | 5, _ => decide
  | 6, _ => decide
theorem tick_early (st : Int) (k : Nat) (tag : Int) (hk : 0 < k) : tickR (hT st k tag) 7 (dueZ k - 1) = ⟨hT st k tag, [], 0⟩ := by
  rw [tickR, if_pos (.inr (by show dueZ k - 1 < dueZ k; omega))]
theorem tick_due (st : Int) (k : Nat) (tag : Int) (h : isT st) (hk : 0 < k) (hk7 : k < 8) : tickR (hT st k tag) 7 (dueZ k) = ⟨hT st (k + 1) tag, [sT st tag], 0⟩ := by
  obtain ⟨j, rfl⟩ : ∃ j, k = j + 1 := ⟨k - 1, by omega⟩
  have h1 := dueZ_pos j
  have h2 := dueZ_le (j + 1)
  have h3 := dbl_le (j + 1)
  have h4 := dbl_eq ((j + 1 : Nat) : Int) (by omega)
  rw [Int.toNat_natCast] at h4
  rw [tickR, if_neg (by show ¬ (dueZ (j + 1) = 0 ∨ dueZ (j + 1) < dueZ (j + 1)); omega), if_neg (by show ¬ (8 ≤ ((j + 1 : Nat) : Int)); omega), sends_T st (j + 1) tag h]
  simp only [hT, R.mk.injEq, H.mk.injEq, and_true, true_and]
  refine ⟨by omega, ?_⟩
  rw [← h4, w64, IntWalk.i64_in _ (by omega)]
  rfl
theorem tick_end (st : Int) (tag : Int) : tickR (hT st 8 tag) 7 (dueZ 8) = ⟨H.nil, [K.of 6], 3⟩ := by
  have h1 : 1000 ≤ dueZ 8 := dueZ_pos 7
  rw [tickR, if_neg (by show ¬ (dueZ 8 = 0 ∨ dueZ 8 < dueZ 8); omega), if_pos (by show (8 : Int) ≤ ((8 : Nat) : Int); omega)]
theorem tickE_spec (st : Int) (k : Nat) (tag : Int) (hk : 0 < k) : PSpec Try.prog 24 [.agg (hL st k (dueZ k) tag), v32 7, vi (dueZ k - 1)] (· = .tup [.agg (hL st k (dueZ k) tag), .d (.sl 14 0 fun _ => []), vi 0]) := by
  have h := tick_spec (hT st k tag) 7 (dueZ k - 1) (by show (-2 ^ 63 : Int) ≤ (k : Int); omega)
  rw [tick_early st k tag hk] at h
  exact h.weaken (fun r hr _ => ⟨_, by subst hr; exact .tup ⟨.refl _, .sl rfl (fun _ h => absurd h (Nat.not_lt_zero _)), .refl _, trivial⟩, rfl, rfl⟩) (fun t sz n g hf => by cases hf)
theorem tickD_spec (st : Int) (k : Nat) (tag : Int) (h : isT st) (hk : 0 < k) (hk7 : k < 8) : PSpec Try.prog 24 [.agg (hL st k (dueZ k) tag), v32 7, vi (dueZ k)] (· = .tup [.agg (hL st (k + 1 : Nat) (dueZ (k + 1)) tag), .d (.sl 14 1 fun _ => encK (sT st tag)), vi 0]) := by
  have h := tick_spec (hT st k tag) 7 (dueZ k) (by show (-2 ^ 63 : Int) ≤ (k : Int); omega)
  rw [tick_due st k tag (by assumption) hk hk7] at h
  exact rA_one h
theorem tickL_spec (st tag : Int) : PSpec Try.prog 24 [.agg (hL st (8 : Nat) (dueZ 8) tag), v32 7, vi (dueZ 8)] (· = .tup [hA H.nil, .d (.sl 14 1 fun _ => encK (K.of 6)), vi 3]) := by
  have h := tick_spec (hT st 8 tag) 7 (dueZ 8) (by show (-2 ^ 63 : Int) ≤ 8; decide)
  rw [tick_end st tag] at h
  exact rA_one h
theorem rightT_spec (st tag : Int) (h : isT st) (ht : ¬ tag = 0) : PSpec Try.prog 31 [kA (sT st tag)] (· = vb true) := by
  have h := rightK_spec (sT st tag)
  rwa [right_T st tag (by assumption) ht] at h
theorem tries_spec (tag which : Int) (hw : -2 ^ 63 ≤ which ∧ which < 2 ^ 63) :
    PSpec Try.prog 8 [v32 tag, vi which] (· = vb true) := by
  refine PSpec.run (tysPOk []) follows Try.func8 (by decide) rfl Try.ntmps8 (Nat.le_of_ble_eq_true rfl) rfl fun w0 R0 => ?_
  conv => whnf
  refine ⟨_, shown_spec, ?_⟩
  rintro q rfl
  conv => whnf
  split <;> rename_i g1
  · conv => whnf
    exact ⟨_, .refl _, rfl, rfl⟩
  have g1 : ¬ tag = 0 := by simpa using g1
  conv => whnf
  have hp := pick4 which hw
  refine ⟨_, pick_spec which 4 hw (by decide), ?_⟩
  rcases hp with hp | hp | hp | hp
  · rw [hp]
    rintro q rfl
    obtain ⟨st, he, hs⟩ : ∃ st, st = (1 : Int) ∧ isT st := ⟨1, rfl, .inl rfl⟩
    conv => whnf
    refine ⟨by first | omega | (simp only [Int.toNat_natCast]; omega) | (simp; done) | (simp; omega), ?_⟩
    conv => whnf
    refine ⟨by first | omega | (simp only [Int.toNat_natCast]; omega) | (simp; done) | (simp; omega), ?_⟩
    conv => whnf
    refine ALoop.introR (tysPOk []) follows (fun k : {k : Nat // 0 < k ∧ k ≤ 8} => ([(7, .ptr 7 0), (8, vi (dueZ (k.1 - 1))), (9, vi k.1)], [(7, .box (hL st k.1 (dueZ k.1) tag))])) (fun k => 8 - k.1) ⟨1, by decide⟩ ?_ ?_
    · cases he
      exact ⟨.refl _, .refl _, .refl _, OLe.refl _, trivial⟩
    rintro ⟨k, hk0, hk8⟩
    have d1 := dueZ_le k
    have d2 := dueZ_le (k - 1)
    dsimp only
    conv => whnf
    split <;> rename_i h1
    · replace h1 := of_decide_eq_true h1
      try simp only [Int.toNat_natCast] at h1
      conv => whnf
      refine ⟨by first | omega | (simp only [Int.toNat_natCast]; omega) | (simp; done) | (simp; omega), ?_⟩
      conv => whnf
      refine ⟨by first | omega | (simp only [Int.toNat_natCast]; omega) | (simp; done) | (simp; omega), ?_⟩
      conv => whnf
      refine ⟨_, tickE_spec st k tag hk0, ?_⟩
      rintro q rfl
      conv => whnf
      refine ⟨_, tickD_spec st k tag hs hk0 (by omega), ?_⟩
      rintro q rfl
      conv => whnf
      split <;> rename_i h2
      · exfalso
        simp at h2
      · clear h2
        conv => whnf
        refine ⟨by decide, ?_⟩
        conv => whnf
        refine ⟨_, rightT_spec st tag hs g1, ?_⟩
        rintro q rfl
        conv => whnf
        refine ⟨by first | omega | (simp only [Int.toNat_natCast]; omega) | (simp; done) | (simp; omega), ?_⟩
        conv => whnf
        split <;> rename_i h2
        · exfalso
          simp at h2
        · clear h2
          conv => whnf
          split <;> rename_i h2
          · exfalso
            simp at h2
          · clear h2
            conv => whnf
            have d3 := dueZ_le (k + 1)
            have d4 := dueZ_le (k - 1)
            refine ⟨by first | omega | (simp only [Int.toNat_natCast]; omega) | (simp; done) | (simp; omega), ?_⟩
            conv => whnf
            split <;> rename_i h2
            · exfalso
              replace h2 := of_decide_eq_true h2
              try simp only [Int.toNat_natCast] at h2
              have e1 : dueZ (k + 1) = dueZ k + dbl k := rfl
              have e2 : dueZ k = dueZ (k - 1) + dbl (k - 1) := by
                obtain ⟨j, rfl⟩ : ∃ j, k = j + 1 := ⟨k - 1, by omega⟩
                rfl
              have e3 := dbl_up (k - 1) (by omega)
              rw [show k - 1 + 1 = k from by omega] at e3
              omega
            · clear h2
              conv => whnf
              refine ⟨by first | omega | (simp only [Int.toNat_natCast]; omega) | (simp; done) | (simp; omega), ?_⟩
              conv => whnf
              exact ⟨⟨k + 1, by omega, by omega⟩, [], by dsimp only; omega, .refl _, .refl _, .refl _, OLe.refl _, trivial⟩
    · replace h1 := of_decide_eq_false h1
      try simp only [Int.toNat_natCast] at h1
      obtain rfl : k = 8 := by omega
      conv => whnf
      refine ⟨_, tickL_spec st tag, ?_⟩
      rintro q rfl
      conv => whnf
      refine ⟨by decide, ?_⟩
      conv => whnf
      exact ⟨_, .refl _, rfl, rfl⟩
  · rw [hp]
    rintro q rfl
    obtain ⟨st, he, hs⟩ : ∃ st, st = (2 : Int) ∧ isT st := ⟨2, rfl, .inr (.inl rfl)⟩
    conv => whnf
    refine ⟨by first | omega | (simp only [Int.toNat_natCast]; omega) | (simp; done) | (simp; omega), ?_⟩
    conv => whnf
    refine ⟨by first | omega | (simp only [Int.toNat_natCast]; omega) | (simp; done) | (simp; omega), ?_⟩
    conv => whnf
    refine ALoop.introR (tysPOk []) follows (fun k : {k : Nat // 0 < k ∧ k ≤ 8} => ([(7, .ptr 7 0), (8, vi (dueZ (k.1 - 1))), (9, vi k.1)], [(7, .box (hL st k.1 (dueZ k.1) tag))])) (fun k => 8 - k.1) ⟨1, by decide⟩ ?_ ?_
    · cases he
      exact ⟨.refl _, .refl _, .refl _, OLe.refl _, trivial⟩
    rintro ⟨k, hk0, hk8⟩
    have d1 := dueZ_le k
    have d2 := dueZ_le (k - 1)
    dsimp only
    conv => whnf
    split <;> rename_i h1
    · replace h1 := of_decide_eq_true h1
      try simp only [Int.toNat_natCast] at h1
      conv => whnf
      refine ⟨by first | omega | (simp only [Int.toNat_natCast]; omega) | (simp; done) | (simp; omega), ?_⟩
      conv => whnf
      refine ⟨by first | omega | (simp only [Int.toNat_natCast]; omega) | (simp; done) | (simp; omega), ?_⟩
      conv => whnf
      refine ⟨_, tickE_spec st k tag hk0, ?_⟩
      rintro q rfl
      conv => whnf
      refine ⟨_, tickD_spec st k tag hs hk0 (by omega), ?_⟩
      rintro q rfl
      conv => whnf
      split <;> rename_i h2
      · exfalso
        simp at h2
      · clear h2
        conv => whnf
        refine ⟨by decide, ?_⟩
        conv => whnf
        refine ⟨_, rightT_spec st tag hs g1, ?_⟩
        rintro q rfl
        conv => whnf
        refine ⟨by first | omega | (simp only [Int.toNat_natCast]; omega) | (simp; done) | (simp; omega), ?_⟩
        conv => whnf
        split <;> rename_i h2
        · exfalso
          simp at h2
        · clear h2
          conv => whnf
          split <;> rename_i h2
          · exfalso
            simp at h2
          · clear h2
            conv => whnf
            have d3 := dueZ_le (k + 1)
            have d4 := dueZ_le (k - 1)
            refine ⟨by first | omega | (simp only [Int.toNat_natCast]; omega) | (simp; done) | (simp; omega), ?_⟩
            conv => whnf
            split <;> rename_i h2
            · exfalso
              replace h2 := of_decide_eq_true h2
              try simp only [Int.toNat_natCast] at h2
              have e1 : dueZ (k + 1) = dueZ k + dbl k := rfl
              have e2 : dueZ k = dueZ (k - 1) + dbl (k - 1) := by
                obtain ⟨j, rfl⟩ : ∃ j, k = j + 1 := ⟨k - 1, by omega⟩
                rfl
              have e3 := dbl_up (k - 1) (by omega)
              rw [show k - 1 + 1 = k from by omega] at e3
              omega
            · clear h2
              conv => whnf
              refine ⟨by first | omega | (simp only [Int.toNat_natCast]; omega) | (simp; done) | (simp; omega), ?_⟩
              conv => whnf
              exact ⟨⟨k + 1, by omega, by omega⟩, [], by dsimp only; omega, .refl _, .refl _, .refl _, OLe.refl _, trivial⟩
    · replace h1 := of_decide_eq_false h1
      try simp only [Int.toNat_natCast] at h1
      obtain rfl : k = 8 := by omega
      conv => whnf
      refine ⟨_, tickL_spec st tag, ?_⟩
      rintro q rfl
      conv => whnf
      refine ⟨by decide, ?_⟩
      conv => whnf
      exact ⟨_, .refl _, rfl, rfl⟩
  · rw [hp]
    rintro q rfl
    obtain ⟨st, he, hs⟩ : ∃ st, st = (5 : Int) ∧ isT st := ⟨5, rfl, .inr (.inr (.inl rfl))⟩
    conv => whnf
    refine ⟨by first | omega | (simp only [Int.toNat_natCast]; omega) | (simp; done) | (simp; omega), ?_⟩
    conv => whnf
    refine ⟨by first | omega | (simp only [Int.toNat_natCast]; omega) | (simp; done) | (simp; omega), ?_⟩
    conv => whnf
    refine ALoop.introR (tysPOk []) follows (fun k : {k : Nat // 0 < k ∧ k ≤ 8} => ([(7, .ptr 7 0), (8, vi (dueZ (k.1 - 1))), (9, vi k.1)], [(7, .box (hL st k.1 (dueZ k.1) tag))])) (fun k => 8 - k.1) ⟨1, by decide⟩ ?_ ?_
    · cases he
      exact ⟨.refl _, .refl _, .refl _, OLe.refl _, trivial⟩
    rintro ⟨k, hk0, hk8⟩
    have d1 := dueZ_le k
    have d2 := dueZ_le (k - 1)
    dsimp only
    conv => whnf
    split <;> rename_i h1
    · replace h1 := of_decide_eq_true h1
      try simp only [Int.toNat_natCast] at h1
      conv => whnf
      refine ⟨by first | omega | (simp only [Int.toNat_natCast]; omega) | (simp; done) | (simp; omega), ?_⟩
      conv => whnf
      refine ⟨by first | omega | (simp only [Int.toNat_natCast]; omega) | (simp; done) | (simp; omega), ?_⟩
      conv => whnf
      refine ⟨_, tickE_spec st k tag hk0, ?_⟩
      rintro q rfl
      conv => whnf
      refine ⟨_, tickD_spec st k tag hs hk0 (by omega), ?_⟩
      rintro q rfl
      conv => whnf
      split <;> rename_i h2
      · exfalso
        simp at h2
      · clear h2
        conv => whnf
        refine ⟨by decide, ?_⟩
        conv => whnf
        refine ⟨_, rightT_spec st tag hs g1, ?_⟩
        rintro q rfl
        conv => whnf
        refine ⟨by first | omega | (simp only [Int.toNat_natCast]; omega) | (simp; done) | (simp; omega), ?_⟩
        conv => whnf
        split <;> rename_i h2
        · exfalso
          simp at h2
        · clear h2
          conv => whnf
          split <;> rename_i h2
          · exfalso
            simp at h2
          · clear h2
            conv => whnf
            have d3 := dueZ_le (k + 1)
            have d4 := dueZ_le (k - 1)
            refine ⟨by first | omega | (simp only [Int.toNat_natCast]; omega) | (simp; done) | (simp; omega), ?_⟩
            conv => whnf
            split <;> rename_i h2
            · exfalso
              replace h2 := of_decide_eq_true h2
              try simp only [Int.toNat_natCast] at h2
              have e1 : dueZ (k + 1) = dueZ k + dbl k := rfl
              have e2 : dueZ k = dueZ (k - 1) + dbl (k - 1) := by
                obtain ⟨j, rfl⟩ : ∃ j, k = j + 1 := ⟨k - 1, by omega⟩
                rfl
              have e3 := dbl_up (k - 1) (by omega)
              rw [show k - 1 + 1 = k from by omega] at e3
              omega
            · clear h2
              conv => whnf
              refine ⟨by first | omega | (simp only [Int.toNat_natCast]; omega) | (simp; done) | (simp; omega), ?_⟩
              conv => whnf
              exact ⟨⟨k + 1, by omega, by omega⟩, [], by dsimp only; omega, .refl _, .refl _, .refl _, OLe.refl _, trivial⟩
    · replace h1 := of_decide_eq_false h1
      try simp only [Int.toNat_natCast] at h1
      obtain rfl : k = 8 := by omega
      conv => whnf
      refine ⟨_, tickL_spec st tag, ?_⟩
      rintro q rfl
      conv => whnf
      refine ⟨by decide, ?_⟩
      conv => whnf
      exact ⟨_, .refl _, rfl, rfl⟩
  · rw [hp]
    rintro q rfl
    obtain ⟨st, he, hs⟩ : ∃ st, st = (7 : Int) ∧ isT st := ⟨7, rfl, .inr (.inr (.inr rfl))⟩
    conv => whnf
    refine ⟨by first | omega | (simp only [Int.toNat_natCast]; omega) | (simp; done) | (simp; omega), ?_⟩
    conv => whnf
    refine ⟨by first | omega | (simp only [Int.toNat_natCast]; omega) | (simp; done) | (simp; omega), ?_⟩
    conv => whnf
    refine ALoop.introR (tysPOk []) follows (fun k : {k : Nat // 0 < k ∧ k ≤ 8} => ([(7, .ptr 7 0), (8, vi (dueZ (k.1 - 1))), (9, vi k.1)], [(7, .box (hL st k.1 (dueZ k.1) tag))])) (fun k => 8 - k.1) ⟨1, by decide⟩ ?_ ?_
    · cases he
      exact ⟨.refl _, .refl _, .refl _, OLe.refl _, trivial⟩
    rintro ⟨k, hk0, hk8⟩
    have d1 := dueZ_le k
    have d2 := dueZ_le (k - 1)
    dsimp only
    conv => whnf
    split <;> rename_i h1
    · replace h1 := of_decide_eq_true h1
      try simp only [Int.toNat_natCast] at h1
      conv => whnf
      refine ⟨by first | omega | (simp only [Int.toNat_natCast]; omega) | (simp; done) | (simp; omega), ?_⟩
      conv => whnf
      refine ⟨by first | omega | (simp only [Int.toNat_natCast]; omega) | (simp; done) | (simp; omega), ?_⟩
      conv => whnf
      refine ⟨_, tickE_spec st k tag hk0, ?_⟩
      rintro q rfl
      conv => whnf
      refine ⟨_, tickD_spec st k tag hs hk0 (by omega), ?_⟩
      rintro q rfl
      conv => whnf
      split <;> rename_i h2
      · exfalso
        simp at h2
      · clear h2
        conv => whnf
        refine ⟨by decide, ?_⟩
        conv => whnf
        refine ⟨_, rightT_spec st tag hs g1, ?_⟩
        rintro q rfl
        conv => whnf
        refine ⟨by first | omega | (simp only [Int.toNat_natCast]; omega) | (simp; done) | (simp; omega), ?_⟩
        conv => whnf
        split <;> rename_i h2
        · exfalso
          simp at h2
        · clear h2
          conv => whnf
          split <;> rename_i h2
          · exfalso
            simp at h2
          · clear h2
            conv => whnf
            have d3 := dueZ_le (k + 1)
            have d4 := dueZ_le (k - 1)
            refine ⟨by first | omega | (simp only [Int.toNat_natCast]; omega) | (simp; done) | (simp; omega), ?_⟩
            conv => whnf
            split <;> rename_i h2
            · exfalso
              replace h2 := of_decide_eq_true h2
              try simp only [Int.toNat_natCast] at h2
              have e1 : dueZ (k + 1) = dueZ k + dbl k := rfl
              have e2 : dueZ k = dueZ (k - 1) + dbl (k - 1) := by
                obtain ⟨j, rfl⟩ : ∃ j, k = j + 1 := ⟨k - 1, by omega⟩
                rfl
              have e3 := dbl_up (k - 1) (by omega)
              rw [show k - 1 + 1 = k from by omega] at e3
              omega
            · clear h2
              conv => whnf
              refine ⟨by first | omega | (simp only [Int.toNat_natCast]; omega) | (simp; done) | (simp; omega), ?_⟩
              conv => whnf
              exact ⟨⟨k + 1, by omega, by omega⟩, [], by dsimp only; omega, .refl _, .refl _, .refl _, OLe.refl _, trivial⟩
    · replace h1 := of_decide_eq_false h1
      try simp only [Int.toNat_natCast] at h1
      obtain rfl : k = 8 := by omega
      conv => whnf
      refine ⟨_, tickL_spec st tag, ?_⟩
      rintro q rfl
      conv => whnf
      refine ⟨by decide, ?_⟩
      conv => whnf
      exact ⟨_, .refl _, rfl, rfl⟩
theorem handTries_of {l0 l1 : List D} (h0 : wt tys 8 22 l0) (h1 : wt tys 8 3 l1) :
    PSpec Try.prog 8 [asV false l0, asV false l1] (· = vb true) := by
  obtain ⟨d0, rfl⟩ : ∃ d, l0 = [d] := by obtain ⟨x, hx, _⟩ := h0; exact ⟨_, hx⟩
  obtain ⟨d1, rfl⟩ : ∃ d, l1 = [d] := by obtain ⟨x, hx, _⟩ := h1; exact ⟨_, hx⟩
  obtain ⟨x0, rfl, _⟩ := wt_u32 (n := 7) h0
  obtain ⟨x1, rfl, hx⟩ := wt_int (n := 7) h1
  exact tries_spec x0 x1 hx
end Go.Proofs.Ytfgghgefnllddaa
