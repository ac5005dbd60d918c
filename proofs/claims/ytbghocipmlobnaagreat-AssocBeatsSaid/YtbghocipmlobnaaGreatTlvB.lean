/- Chapter 6: the bytes of items: contracts. -/
import Derived.Test.YtbghocipmlobnaaGreatTlvP
import Derived.Lib.Repeat
namespace Go.Proofs.YtbghocipmlobnaaGreat
open Go Go.RowKit Towline Towline.Tlv
set_option linter.unusedVariables false
set_option linter.unusedSimpArgs false
set_option maxRecDepth 20000
set_option maxHeartbeats 4000000
abbrev tvi (n : Int) : AVal := .d (.i .i64 n)
abbrev tvb (x : Bool) : AVal := .d (.b x)
abbrev tvs (l : List UInt8) : AVal := .d (.s l)
def encI (x : Tlv.It) : List D := [.i .i64 x.ty, .s x.v]
abbrev iA (x : Tlv.It) : AVal := .agg [tvi x.ty, tvs x.v]
theorem pad_spec (n : Nat) (h : n ≤ 2 ^ 62) : PSpec Tryz.prog 95 [tvi n] (· = tvi (padN n)) := by
  refine PSpec.run (tysOk) followsB Tryz.func95 (by decide) rfl Tryz.ntmps95 (Nat.le_of_ble_eq_true rfl) rfl fun w0 R0 hGw => ?_
  conv => whnf
  refine ⟨by first | omega | (simp only [Int.toNat_natCast]; omega) | (simp; done) | (simp; omega), ?_⟩
  conv => whnf
  have e : max (n : Int) 0 = n := by omega
  rw [e, and3 n h]
  exact ⟨_, .refl _, rfl, rfl⟩
theorem bad_spec (x : Tlv.It) : PSpec Tryz.prog 146 [iA x] (· = tvb (badTy x)) := by
  refine PSpec.run (tysOk) followsB Tryz.func146 (by decide) rfl Tryz.ntmps146 (Nat.le_of_ble_eq_true rfl) rfl fun w0 R0 hGw => ?_
  conv => whnf
  split <;> rename_i g
  · conv => whnf
    have : badTy x = true := by simpa [badTy] using Or.inl (of_decide_eq_true g)
    rw [this]
    exact ⟨_, .refl _, rfl, rfl⟩
  · conv => whnf
    have : badTy x = decide (65535 < x.ty) := by
      unfold badTy
      rw [g]
      simp
    rw [this]
    exact ⟨_, .refl _, rfl, rfl⟩
theorem index0_spec (g : Nat) (keep : Tlv.It → Bool) (l : List Tlv.It) (h4 : l.length ≤ 2 ^ 40) (hk : ∀ m, PSpec Tryz.prog g [iA m] (· = tvb (keep m))) :
    PSpec Tryz.prog 179 [.d (slT 2 encI l), .fn g []] (· = tvi (if l.findIdx keep < l.length then l.findIdx keep else -1)) := by
  refine PSpec.run (tysOk) followsB Tryz.func179 (by decide) rfl Tryz.ntmps179 (Nat.le_of_ble_eq_true rfl) rfl fun w0 R0 hGw => ?_
  conv => whnf
  refine ALoop.introR tysOk followsB (fun k : {k // k ≤ l.length ∧ ∀ j, j < k → keep (l.getD j default) = false} => ([(0, .d (slT 2 encI l)), (1, .fn g []), (7, tvi l.length), (8, tvi k.1)], [])) (fun k => l.length - k.1) ⟨0, by omega, fun j hj => by omega⟩ ?_ ?_
  · exact ⟨.refl _, .refl _, .refl _, .refl _, trivial⟩
  · rintro ⟨k, hk1, hk2⟩
    dsimp only
    conv => whnf
    split <;> rename_i h1
    · have hlt : k < l.length := by simpa using h1
      conv => whnf
      refine ⟨by first | omega | (simp only [Int.toNat_natCast]; omega) | (simp; done) | (simp; omega), ?_⟩
      conv => whnf
      refine ⟨_, hk (l.getD k default), ?_⟩
      rintro q rfl
      conv => whnf
      split <;> rename_i h2
      · have h2 : keep (l.getD k default) = true := h2
        conv => whnf
        rw [findIdx_is hlt h2 hk2, if_pos hlt]
        exact ⟨_, .refl _, rfl, rfl⟩
      · have h2 : keep (l.getD k default) = false := h2
        conv => whnf
        refine ⟨by first | omega | (simp only [Int.toNat_natCast]; omega) | (simp; done) | (simp; omega), ?_⟩
        conv => whnf
        refine ⟨⟨k + 1, by omega, fun j hj => ?_⟩, [], by dsimp only; omega, .refl _, .refl _, .refl _, .refl _, trivial⟩
        rcases Nat.lt_or_eq_of_le (show j ≤ k from by omega) with h | rfl
        · exact hk2 j h
        · exact h2
    · have hlt : ¬ k < l.length := by simpa using h1
      obtain rfl : k = l.length := by omega
      conv => whnf
      rw [if_neg (findIdx_no hk2)]
      exact ⟨_, .refl _, rfl, rfl⟩
theorem contains_spec (g : Nat) (keep : Tlv.It → Bool) (l : List Tlv.It) (h4 : l.length ≤ 2 ^ 40) (hk : ∀ m, PSpec Tryz.prog g [iA m] (· = tvb (keep m))) :
    PSpec Tryz.prog 145 [.d (slT 2 encI l), .fn g []] (· = tvb (l.any keep)) := by
  refine PSpec.run (tysOk) followsB Tryz.func145 (by decide) rfl Tryz.ntmps145 (Nat.le_of_ble_eq_true rfl) rfl fun w0 R0 hGw => ?_
  conv => whnf
  refine ⟨_, index0_spec g keep l h4 hk, ?_⟩
  rintro q rfl
  conv => whnf
  have e : decide ((0 : Int) ≤ if List.findIdx keep l < l.length then (List.findIdx keep l : Int) else -1) = l.any keep := by
    by_cases h : List.findIdx keep l < l.length
    · rw [if_pos h]
      have h1 : l.any keep = true := by
        rw [List.any_eq_true]
        exact ⟨l[l.findIdx keep], List.getElem_mem h, List.findIdx_getElem (w := h)⟩
      rw [h1]
      simp
    · rw [if_neg h]
      have h1 : l.any keep = false := by
        rw [List.any_eq_false]
        intro x hx
        have := List.findIdx_lt_length_of_exists (xs := l) (p := keep)
        intro hkx
        exact h (this ⟨x, hx, hkx⟩)
      rw [h1]
      decide
  rw [e]
  exact ⟨_, .refl _, rfl, rfl⟩
theorem repeat_spec (k : Nat) (h : k ≤ 3) : PSpec Tryz.prog 148 [tvs [0], tvi k] (· = tvs (List.replicate k 0)) := by
  refine ⟨⟨_, _, Tryz.func148, by decide, rfl⟩, fun w R vs hG hR hz ha => ?_⟩
  have h0 := repA_s (ha 0 _ rfl)
  have h1 := repA_i (ha 1 _ rfl)
  obtain ⟨v0, v1, rfl⟩ : ∃ v0 v1, vs = #[v0, v1] := by
    obtain ⟨l⟩ := vs
    match l, hz with
    | [x, y], _ => exact ⟨x, y, rfl⟩
  have h0 : v0 = .string ⟨[0].toArray⟩ := h0
  have h1 : v1 = .int .i64 k := h1
  subst h0; subst h1
  refine (Tryz.strings_Repeat ⟨[0].toArray⟩ k w (by omega) (by show 1 * k ≤ _; omega)).mono ?_
  rintro e w' ⟨rfl, hb⟩
  refine ⟨_, tvs (List.replicate k 0), rfl, rfl, hb, rfl, ?_⟩
  have e : Lib.repeatL [0] k = List.replicate k (0 : UInt8) := by
    match k, h with
    | 0, _ => rfl
    | 1, _ => rfl
    | 2, _ => rfl
    | 3, _ => rfl
  show RepA w' _ _ (tvs (List.replicate k 0)) (.string ⟨(Lib.repeatL [0] k).toArray⟩)
  rw [e]
  exact .d (.s _)
end Go.Proofs.YtbghocipmlobnaaGreat
