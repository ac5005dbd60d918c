/- The laws of steps and cookies, as contracts. -/
import Derived.Test.YtfgghgefnllddaaHaC
import Derived.OpenShut
namespace Go.Proofs.Ytfgghgefnllddaa
open Go Go.RowKit Go.ChangeShapes Go.WideShapes Towline Towline.Hand
set_option linter.unusedVariables false
set_option maxRecDepth 20000
set_option maxHeartbeats 4000000
theorem hEq (h : H) : (h.st == h.st && (h.tries == h.tries && (h.due == h.due && (h.ourTag == h.ourTag && (h.peerTag == h.peerTag && (h.ourTsn == h.ourTsn && (h.peerTsn == h.peerTsn && (h.mine == h.mine && (h.window == h.window && (h.outs == h.outs && (h.ins == h.ins && (h.cookie == h.cookie && true)))))))))))) = true := by simp
theorem cookies_spec (h : H) (s : S) (m : Int) (h1 : 0 ≤ s.tieOurs ∧ s.tieOurs < 4294967296) (h2 : 0 ≤ s.tiePeer ∧ s.tiePeer < 4294967296) :
    PSpec Try.prog 3 [hA h, sA s, v32 m] (· = vb true) := by
  refine PSpec.run tysOk follows Try.func3 (by decide) rfl Try.ntmps3 (Nat.le_of_ble_eq_true rfl) rfl fun w0 R0 => ?_
  conv => whnf
  refine ⟨_, shown_spec, ?_⟩
  rintro q rfl
  conv => whnf
  split <;> rename_i g1
  · conv => whnf
    exact ⟨_, .refl _, rfl, rfl⟩
  · conv => whnf
    refine ⟨_, accept_spec s m, ?_⟩
    rintro q rfl
    conv => whnf
    refine ⟨_, state_spec s, ?_⟩
    rintro q rfl
    conv => whnf
    refine ⟨_, raccept_spec s m, ?_⟩
    rintro q rfl
    conv => whnf
    refine ⟨_, case_spec h s h1 h2, ?_⟩
    conv => whnf
    refine ⟨_, ref_spec h, ?_⟩
    conv => whnf
    refine ⟨_, state_spec s, ?_⟩
    conv => whnf
    refine ⟨_, rcase_spec h s, ?_⟩
    conv => whnf
    rw [beq_self_eq_true]
    conv => whnf
    refine ⟨_, ref_spec (accepted s m), ?_⟩
    conv => whnf
    rw [hEq]
    conv => whnf
    refine ⟨_, like_spec [K.of 11] (by simp), ?_⟩
    conv => whnf
    refine ⟨by kernel_rfl, ?_⟩
    conv => whnf
    exact ⟨_, .refl _, rfl, rfl⟩
theorem enters_len (h : H) (st cum : Int) : (enters h st cum).length ≤ 1 := sends_len _ _
theorem openR_len (h : H) (a b c d e : Int) : (openR h a b c d e).l.length ≤ 2 ^ 40 := by
  unfold openR
  split
  · simp
  · split
    · simp
    · (have := fun h st c => enters_len h st c; dsimp only; exact Nat.le_trans (this _ _ _) (show 1 ≤ 2 ^ 40 by decide))
theorem closeR_len (h : H) (c : Int) (e : Bool) (n : Int) : (closeR h c e n).l.length ≤ 2 ^ 40 := by
  unfold closeR
  split
  · simp
  · split
    · (have := fun h st c => enters_len h st c; dsimp only; exact Nat.le_trans (this _ _ _) (show 1 ≤ 2 ^ 40 by decide))
    · simp
theorem emptyR_len (h : H) (c n : Int) : (emptyR h c n).l.length ≤ 2 ^ 40 := by
  unfold emptyR
  split
  · (have := fun h st c => enters_len h st c; dsimp only; exact Nat.le_trans (this _ _ _) (show 1 ≤ 2 ^ 40 by decide))
  · split
    · (have := fun h st c => enters_len h st c; dsimp only; exact Nat.le_trans (this _ _ _) (show 1 ≤ 2 ^ 40 by decide))
    · simp
theorem tickR_len (h : H) (c n : Int) : (tickR h c n).l.length ≤ 2 ^ 40 := by
  unfold tickR
  split
  · simp
  · split
    · simp
    · (dsimp only; exact Nat.le_trans (sends_len _ _) (show 1 ≤ 2 ^ 40 by decide))
theorem dropR_len (h : H) : (dropR h).l.length ≤ 2 ^ 40 := by
  unfold dropR
  split <;> simp
theorem steps_spec (h : H) (tag streams : Int) (e : Bool) (now : Int) (ht : -2 ^ 63 ≤ h.tries) :
    PSpec Try.prog 4 [hA h, v32 tag, v16 streams, vb e, vi now] (· = vb true) := by
  refine PSpec.run tysOk follows Try.func4 (by decide) rfl Try.ntmps4 (Nat.le_of_ble_eq_true rfl) rfl fun w0 R0 => ?_
  conv => whnf
  refine ⟨_, shown_spec, ?_⟩
  rintro q rfl
  conv => whnf
  split <;> rename_i g1
  · conv => whnf
    exact ⟨_, .refl _, rfl, rfl⟩
  · conv => whnf
    refine ⟨_, ref_spec h, ?_⟩
    rintro q rfl
    conv => whnf
    refine ⟨_, open_spec h tag (IntKind.u32.wrap (tag + 1)) (IntKind.u32.wrap (tag + 2)) streams now, ?_⟩
    rintro q rfl
    conv => whnf
    refine ⟨_, ropen_spec h tag (IntKind.u32.wrap (tag + 1)) (IntKind.u32.wrap (tag + 2)) streams now, ?_⟩
    rintro q rfl
    conv => whnf
    refine ⟨_, ref_spec (openR h tag (IntKind.u32.wrap (tag + 1)) (IntKind.u32.wrap (tag + 2)) streams now).h, ?_⟩
    conv => whnf
    rw [hEq]
    conv => whnf
    refine ⟨_, like_spec (openR h tag (IntKind.u32.wrap (tag + 1)) (IntKind.u32.wrap (tag + 2)) streams now).l (openR_len _ _ _ _ _ _), ?_⟩
    conv => whnf
    rw [beq_self_eq_true]
    conv => whnf
    refine ⟨by kernel_rfl, ?_⟩
    conv => whnf
    refine ⟨_, close_spec h tag e now, ?_⟩
    rintro q rfl
    conv => whnf
    refine ⟨_, rclose_spec h tag e now, ?_⟩
    rintro q rfl
    conv => whnf
    refine ⟨_, ref_spec (closeR h tag e now).h, ?_⟩
    conv => whnf
    rw [hEq]
    conv => whnf
    refine ⟨_, like_spec (closeR h tag e now).l (closeR_len _ _ _ _), ?_⟩
    conv => whnf
    rw [beq_self_eq_true]
    conv => whnf
    refine ⟨by kernel_rfl, ?_⟩
    conv => whnf
    refine ⟨_, empty_spec h tag now, ?_⟩
    rintro q rfl
    conv => whnf
    refine ⟨_, rempty_spec h tag now, ?_⟩
    rintro q rfl
    conv => whnf
    refine ⟨_, ref_spec (emptyR h tag now).h, ?_⟩
    conv => whnf
    rw [hEq]
    conv => whnf
    refine ⟨_, like_spec (emptyR h tag now).l (emptyR_len _ _ _), ?_⟩
    conv => whnf
    refine ⟨by kernel_rfl, ?_⟩
    conv => whnf
    refine ⟨_, tick_spec h tag now ht, ?_⟩
    rintro q rfl
    conv => whnf
    refine ⟨_, rtick_spec h tag now ht, ?_⟩
    rintro q rfl
    conv => whnf
    refine ⟨_, ref_spec (tickR h tag now).h, ?_⟩
    conv => whnf
    rw [hEq]
    conv => whnf
    refine ⟨_, like_spec (tickR h tag now).l (tickR_len _ _ _), ?_⟩
    conv => whnf
    rw [beq_self_eq_true]
    conv => whnf
    refine ⟨by kernel_rfl, ?_⟩
    conv => whnf
    refine ⟨_, drop_spec h, ?_⟩
    rintro q rfl
    conv => whnf
    refine ⟨_, rdrop_spec h, ?_⟩
    rintro q rfl
    conv => whnf
    refine ⟨_, ref_spec (dropR h).h, ?_⟩
    conv => whnf
    rw [hEq]
    conv => whnf
    refine ⟨_, like_spec (dropR h).l (dropR_len _), ?_⟩
    conv => whnf
    rw [beq_self_eq_true]
    conv => whnf
    refine ⟨by kernel_rfl, ?_⟩
    conv => whnf
    exact ⟨_, .refl _, rfl, rfl⟩
theorem wt_int {n : Nat} {a : D} (h : wt tys (n + 1) 3 [a]) : ∃ x : Int, a = .i .i64 x ∧ -2 ^ 63 ≤ x ∧ x < 2 ^ 63 := by
  obtain ⟨x, hx, hw⟩ := h
  have := bounds_i64 hw
  exact ⟨x, by simpa using hx, by omega, by omega⟩
theorem wt_u16 {n : Nat} {a : D} (h : wt tys (n + 1) 23 [a]) : ∃ x : Int, a = .i .u16 x ∧ 0 ≤ x ∧ x < 65536 := by
  obtain ⟨x, hx, hw⟩ := h
  have := bounds_u16 hw
  exact ⟨x, by simpa using hx, by omega, by omega⟩
theorem wt_u32 {n : Nat} {a : D} (h : wt tys (n + 1) 22 [a]) : ∃ x : Int, a = .i .u32 x ∧ 0 ≤ x ∧ x < 4294967296 := by
  obtain ⟨x, hx, hw⟩ := h
  have := bounds_u32 hw
  exact ⟨x, by simpa using hx, by omega, by omega⟩
theorem wt_bool {n : Nat} {a : D} (h : wt tys (n + 1) 4 [a]) : ∃ x : Bool, a = .b x := by
  obtain ⟨x, hx⟩ := h
  exact ⟨x, by simpa using hx⟩
theorem wt_str {n : Nat} {a : D} (h : wt tys (n + 1) 9 [a]) : ∃ x : List UInt8, a = .s x ∧ x.length ≤ maxLen := by
  obtain ⟨x, hx, hl⟩ := h
  exact ⟨x, by simpa using hx, hl⟩
theorem wt_hand {n : Nat} {l : List D} (h : wt tys (n + 2) 25 l) : ∃ x : H, asV true l = hA x ∧ -2 ^ 63 ≤ x.tries := by
  obtain ⟨h0, h1, h2, h3, h4, h5, h6, h7, h8, h9, h10, h11, h12, _⟩ := h
  match l, h0 with
  | [a1, a2, a3, a4, a5, a6, a7, a8, a9, a10, a11, a12], _ =>
    obtain ⟨x1, rfl, _⟩ := wt_int h1
    obtain ⟨x2, rfl, k, _⟩ := wt_int h2
    obtain ⟨x3, rfl, _⟩ := wt_int h3
    obtain ⟨x4, rfl, _⟩ := wt_u32 h4
    obtain ⟨x5, rfl, _⟩ := wt_u32 h5
    obtain ⟨x6, rfl, _⟩ := wt_u32 h6
    obtain ⟨x7, rfl, _⟩ := wt_u32 h7
    obtain ⟨x8, rfl, _⟩ := wt_u32 h8
    obtain ⟨x9, rfl, _⟩ := wt_u32 h9
    obtain ⟨x10, rfl, _⟩ := wt_u16 h10
    obtain ⟨x11, rfl, _⟩ := wt_u16 h11
    obtain ⟨x12, rfl, _⟩ := wt_str h12
    exact ⟨⟨x1, x2, x3, x4, x5, x6, x7, x8, x9, x10, x11, x12⟩, rfl, k⟩
theorem wt_state {n : Nat} {l : List D} (h : wt tys (n + 2) 27 l) : ∃ x : S, asV true l = sA x ∧ (0 ≤ x.tieOurs ∧ x.tieOurs < 4294967296) ∧ 0 ≤ x.tiePeer ∧ x.tiePeer < 4294967296 := by
  obtain ⟨h0, h1, h2, h3, h4, h5, h6, h7, h8, h9, h10, h11, h12, h13, h14, _⟩ := h
  match l, h0 with
  | [a1, a2, a3, a4, a5, a6, a7, a8, a9, a10, a11, a12, a13, a14], _ =>
    obtain ⟨x1, rfl, _⟩ := wt_u32 h1
    obtain ⟨x2, rfl, _⟩ := wt_u32 h2
    obtain ⟨x3, rfl, _⟩ := wt_u32 h3
    obtain ⟨x4, rfl, _⟩ := wt_u32 h4
    obtain ⟨x5, rfl, k5, k6⟩ := wt_u32 h5
    obtain ⟨x6, rfl, k7, k8⟩ := wt_u32 h6
    obtain ⟨x7, rfl, _⟩ := wt_u32 h7
    obtain ⟨x8, rfl, _⟩ := wt_u16 h8
    obtain ⟨x9, rfl, _⟩ := wt_u16 h9
    obtain ⟨x10, rfl, _⟩ := wt_u16 h10
    obtain ⟨x11, rfl, _⟩ := wt_u16 h11
    obtain ⟨x12, rfl, _⟩ := wt_str h12
    obtain ⟨x13, rfl, _⟩ := wt_int h13
    obtain ⟨x14, rfl, _⟩ := wt_int h14
    exact ⟨⟨x1, x2, x3, x4, x5, x6, x7, x8, x9, x10, x11, x12, x13, x14⟩, rfl, ⟨k5, k6⟩, k7, k8⟩
theorem handCookies_of {l0 l1 l2 : List D} (h0 : wt tys 8 25 l0) (h1 : wt tys 8 27 l1) (h2 : wt tys 8 22 l2) :
    PSpec Try.prog 3 [asV true l0, asV true l1, asV false l2] (· = vb true) := by
  obtain ⟨x, e0, _⟩ := wt_hand (n := 6) h0
  obtain ⟨s, e1, k1, k2⟩ := wt_state (n := 6) h1
  obtain ⟨d, rfl⟩ : ∃ d, l2 = [d] := by
    obtain ⟨x, hx, _⟩ := h2
    exact ⟨_, hx⟩
  obtain ⟨m, rfl, _⟩ := wt_u32 (n := 7) h2
  rw [e0, e1]
  exact cookies_spec x s m k1 k2
theorem handSteps_of {l0 l1 l2 l3 l4 : List D} (h0 : wt tys 8 25 l0) (h1 : wt tys 8 22 l1) (h2 : wt tys 8 23 l2) (h3 : wt tys 8 4 l3) (h4 : wt tys 8 3 l4) :
    PSpec Try.prog 4 [asV true l0, asV false l1, asV false l2, asV false l3, asV false l4] (· = vb true) := by
  obtain ⟨x, e0, k0⟩ := wt_hand (n := 6) h0
  obtain ⟨d1, rfl⟩ : ∃ d, l1 = [d] := by obtain ⟨x, hx, _⟩ := h1; exact ⟨_, hx⟩
  obtain ⟨d2, rfl⟩ : ∃ d, l2 = [d] := by obtain ⟨x, hx, _⟩ := h2; exact ⟨_, hx⟩
  obtain ⟨d3, rfl⟩ : ∃ d, l3 = [d] := by obtain ⟨x, hx⟩ := h3; exact ⟨_, hx⟩
  obtain ⟨d4, rfl⟩ : ∃ d, l4 = [d] := by obtain ⟨x, hx, _⟩ := h4; exact ⟨_, hx⟩
  obtain ⟨x1, rfl, _⟩ := wt_u32 (n := 7) h1
  obtain ⟨x2, rfl, _⟩ := wt_u16 (n := 7) h2
  obtain ⟨x3, rfl⟩ := wt_bool (n := 7) h3
  obtain ⟨x4, rfl, _⟩ := wt_int (n := 7) h4
  rw [e0]
  exact steps_spec x x1 x2 x3 x4 k0
end Go.Proofs.Ytfgghgefnllddaa
