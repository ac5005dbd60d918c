/- The law of steps, as a contract. -/
import Derived.Test.YteblkbnkaogkmaaStH
namespace Go.Proofs.Yteblkbnkaogkmaa
open Go Towline Towline.Store
set_option linter.unusedVariables false
set_option maxRecDepth 20000
set_option maxHeartbeats 4000000
theorem total_ok {l : List Msg} {a : Nat} {nx : List Nat} (h : Ok l a nx) : total l ≤ 840000 := by
  have key : ∀ l : List Msg, (∀ m ∈ l, m.text.length ≤ 21000) → total l ≤ 21000 * l.length := by
    intro l
    induction l with
    | nil => intro _; simp [total]
    | cons m l ih =>
      intro hm
      have e := total_cons m l
      have h1 := hm m (by simp)
      have h2 := ih fun x hx => hm x (by simp [hx])
      rw [e, List.length_cons]; omega
  have h1 := key l fun m hm => (h.msg m hm).2.2.2
  have h2 := h.len
  omega
theorem a_ok {l : List Msg} {a : Nat} {nx : List Nat} (h : Ok l a nx) : a ≤ 21000 := by
  cases l with
  | nil => have := h.none rfl; omega
  | cons m r =>
    have h1 := h.head m r rfl
    have h2 := (h.msg m (by simp)).2.2.2
    omega
theorem ok_of {l : List Msg} {a : Int} {nx : List Nat} (h1 : l.length ≤ 40 ∧ nx.length ≤ 40 ∧ ∀ m ∈ l, m.text.length ≤ 21000) (hu : ∀ m ∈ l, m.stream ≤ 65535) (h2 : (∀ m ∈ l, okM nx m) ∧ headOk l a) : ∃ k : Nat, a = k ∧ Ok l k nx := by
  obtain ⟨h3, h4, h5⟩ := h1
  obtain ⟨h6, h7, h8⟩ := h2
  obtain ⟨k, rfl⟩ := Int.eq_ofNat_of_zero_le h7
  refine ⟨k, rfl, fun m hm => ⟨(h6 m hm).1, (h6 m hm).2, hu m hm, h5 m hm⟩, ?_, ?_, h3, h4⟩
  · rintro m r rfl
    rcases h8 with h8 | ⟨_, h8⟩
    · have := (h6 m (by simp)).1
      have : 0 < m.text.length := List.length_pos_iff.2 this
      omega
    · have h8 : (k : Int) < m.text.length := h8
      omega
  · rintro rfl
    rcases h8 with h8 | ⟨h8, _⟩
    · omega
    · simp at h8
theorem pcEq (p : Pc) : (((p.tsn : Nat) : Int) == ((p.tsn : Nat) : Int) && (p.first == p.first && (p.last == p.last && (p.free == p.free && (((p.stream : Nat) : Int) == ((p.stream : Nat) : Int) && (((p.ssn : Nat) : Int) == ((p.ssn : Nat) : Int) && (((p.ppid : Nat) : Int) == ((p.ppid : Nat) : Int) && (p.text == p.text && true)))))))) = true := by simp
theorem of_not_dec {p : Prop} [Decidable p] (h : (!decide p) = false) : p := by cases hd : decide p with
  | true => exact of_decide_eq_true hd
  | false => rw [hd] at h; cases h
theorem steps_spec (l : List Msg) (a : Int) (nx : List Nat) (m : Msg) (n : Int) (hl4 : l.length ≤ maxLen) (hl5 : nx.length ≤ maxLen) (hu : ∀ m ∈ l, m.stream ≤ 65535) (hm : m.stream ≤ 65535) :
    PSpec Try.prog 6 [stA l a nx, msgA m, vi n] (· = vb true) := by
  refine PSpec.run tysOk follows Try.func6 (by decide) rfl Try.ntmps6 (Nat.le_of_ble_eq_true rfl) rfl fun w0 R0 => ?_
  conv => whnf
  refine ⟨_, shown_spec, ?_⟩
  rintro q rfl
  conv => whnf
  refine ⟨_, small_spec l a nx hl4 hl5, ?_⟩
  rintro q rfl
  conv => whnf
  split <;> rename_i h1
  · conv => whnf
    exact ⟨_, .refl _, rfl, rfl⟩
  · replace h1 := of_not_dec h1
    have h4 : l.length ≤ 2 ^ 40 := by omega
    have h5 : nx.length ≤ 2 ^ 40 := by omega
    conv => whnf
    split <;> rename_i h2
    · conv => whnf
      exact ⟨_, .refl _, rfl, rfl⟩
    · replace h2 := of_decide_eq_false h2
      try simp only [Int.toNat_natCast] at h2
      conv => whnf
      refine ⟨_, as_spec l a nx h4, ?_⟩
      rintro q rfl
      conv => whnf
      refine ⟨_, right_spec l a nx hu h4 h5, ?_⟩
      rintro q rfl
      conv => whnf
      split <;> rename_i h3
      · conv => whnf
        exact ⟨_, .refl _, rfl, rfl⟩
      · replace h3 := of_not_dec h3
        obtain ⟨a, rfl, hok⟩ := ok_of h1 hu h3
        have ht := total_ok hok
        have ha := a_ok hok
        conv => whnf
        refine ⟨_, as_spec l a nx h4, ?_⟩
        rintro q rfl
        conv => whnf
        refine ⟨_, push_spec2 l a nx m (by omega) (by omega) (by omega) h4 hm, ?_⟩
        rintro q rfl
        conv => whnf
        refine ⟨_, one_spec m, ?_⟩
        conv => whnf
        refine ⟨_, rpush_spec2 l a nx m (by omega) (by omega) (by omega) h4 hm, ?_⟩
        conv => whnf
        refine ⟨by kernel_rfl, ?_⟩
        conv => whnf
        refine ⟨_, expire_spec l a nx n h4, ?_⟩
        rintro q rfl
        conv => whnf
        refine ⟨_, rexpire_spec l a nx n (by omega) h4, ?_⟩
        rintro q rfl
        conv => whnf
        refine ⟨_, take_any hok n, ?_⟩
        rintro q rfl
        conv => whnf
        refine ⟨_, rtake_any hok n, ?_⟩
        rintro q rfl
        conv => whnf
        refine ⟨_, new_any n, ?_⟩
        rintro q rfl
        conv => whnf
        refine ⟨_, rnew_any n, ?_⟩
        rintro q rfl
        conv => whnf
        have b1 : (pushS l a nx m).length ≤ 2 ^ 40 := by unfold pushS; have := hok.len; split <;> simp <;> omega
        have b2 : (pushN l a nx m).length ≤ 2 ^ 40 := by unfold pushN; have := hok.nlen; split <;> simp <;> omega
        have b3 : (ins (stays a n) 0 l).length ≤ 2 ^ 40 := by have := (ins_len (stays a n) l 0).1; omega
        have b4 : ((outs (stays a n) 0 l).map (·.id)).length ≤ 2 ^ 40 := by have := (ins_len (stays a n) l 0).2; simp; omega
        have b5 : (takeS l a nx n).l.length ≤ 2 ^ 40 := by
          have := hok.len
          cases l with
          | nil => simp [takeS]
          | cons x r => have := after_length x r a nx n; simp only [takeS, List.length_cons] at *; omega
        have b6 : (takeS l a nx n).next.length ≤ 2 ^ 40 := by
          have := hok.nlen
          cases l with
          | nil => exact h5
          | cons x r => simp only [takeS, after]; split <;> simp [bump_length] <;> omega
        have b7 : (newL n).length ≤ 2 ^ 40 := by unfold newL; split <;> simp <;> omega
        refine ⟨_, as_spec (pushS l a nx m) (pushA l a nx m) (pushN l a nx m) b1, ?_⟩
        conv => whnf
        refine ⟨_, same_refl (pushS l a nx m) (pushA l a nx m) (pushN l a nx m) b1 b2, ?_⟩
        conv => whnf
        rw [beq_self_eq_true]
        conv => whnf
        refine ⟨_, as_spec _ _ _ b3, ?_⟩
        conv => whnf
        refine ⟨_, same_refl _ _ _ b3 h5, ?_⟩
        conv => whnf
        refine ⟨_, sameInts_refl _ b4, ?_⟩
        conv => whnf
        refine ⟨_, as_spec _ _ _ b5, ?_⟩
        conv => whnf
        refine ⟨_, same_refl _ _ _ b5 b6, ?_⟩
        conv => whnf
        refine ⟨_, piece_spec _, ?_⟩
        conv => whnf
        rw [pcEq]
        conv => whnf
        rw [beq_self_eq_true]
        conv => whnf
        rw [beq_self_eq_true]
        conv => whnf
        refine ⟨by kernel_rfl, ?_⟩
        conv => whnf
        refine ⟨_, as_spec _ _ _ (Nat.zero_le _), ?_⟩
        conv => whnf
        refine ⟨_, same_refl _ _ _ (Nat.zero_le _) b7, ?_⟩
        conv => whnf
        rw [beq_self_eq_true]
        conv => whnf
        refine ⟨_, bytes_spec l a nx (by omega) (by omega) (by omega) h4, ?_⟩
        conv => whnf
        refine ⟨_, rbytes_spec l a nx (by omega) (by omega) (by omega) h4, ?_⟩
        conv => whnf
        rw [beq_self_eq_true]
        conv => whnf
        refine ⟨_, as_spec _ _ _ h4, ?_⟩
        conv => whnf
        refine ⟨_, same_refl _ _ _ h4 h5, ?_⟩
        conv => whnf
        refine ⟨_, ids_spec l a nx h4, ?_⟩
        conv => whnf
        refine ⟨by kernel_rfl, ?_⟩
        conv => whnf
        exact ⟨_, .refl _, by simp, rfl⟩
end Go.Proofs.Yteblkbnkaogkmaa
