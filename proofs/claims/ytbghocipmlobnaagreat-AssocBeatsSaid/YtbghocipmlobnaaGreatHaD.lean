/- The laws of steps and cookies, as contracts. -/
import Derived.Test.YtbghocipmlobnaaGreatHaC
import Derived.OpenShut
namespace Go.Proofs.YtbghocipmlobnaaGreat
open Go Go.RowKit Go.ChangeShapes Go.WideShapes Towline Towline.Hand
set_option linter.unusedVariables false
set_option maxRecDepth 20000
set_option maxHeartbeats 4000000
theorem hEq (h : H) : (h.st == h.st && (h.tries == h.tries && (h.due == h.due && (h.ourTag == h.ourTag && (h.peerTag == h.peerTag && (h.ourTsn == h.ourTsn && (h.peerTsn == h.peerTsn && (h.mine == h.mine && (h.window == h.window && (h.outs == h.outs && (h.ins == h.ins && (h.cookie == h.cookie && true)))))))))))) = true := by simp
theorem enters_len (h : H) (st cum : Int) : (enters h st cum).length ≤ 1 := sends_len _ _
theorem openR_len (h : H) (a b c d e : Int) : (openR h a b c d e).l.length ≤ 2 ^ 40 := by
  unfold openR
  split
  · simp
  · split
    · simp
    · (have := fun h st c => enters_len h st c; dsimp only; exact Nat.le_trans (this _ _ _) (show 1 ≤ 2 ^ 40 by decide))
theorem closeR_len (h : H) (c : Int) (e : Bool) (n : Int) : (closeR h c e n).l.length ≤ 2 ^ 40 := by
  unfold closeR
  split
  · simp
  · split
    · (have := fun h st c => enters_len h st c; dsimp only; exact Nat.le_trans (this _ _ _) (show 1 ≤ 2 ^ 40 by decide))
    · simp
theorem emptyR_len (h : H) (c n : Int) : (emptyR h c n).l.length ≤ 2 ^ 40 := by
  unfold emptyR
  split
  · (have := fun h st c => enters_len h st c; dsimp only; exact Nat.le_trans (this _ _ _) (show 1 ≤ 2 ^ 40 by decide))
  · split
    · (have := fun h st c => enters_len h st c; dsimp only; exact Nat.le_trans (this _ _ _) (show 1 ≤ 2 ^ 40 by decide))
    · simp
theorem tickR_len (h : H) (c n : Int) : (tickR h c n).l.length ≤ 2 ^ 40 := by
  unfold tickR
  split
  · simp
  · split
    · simp
    · (dsimp only; exact Nat.le_trans (sends_len _ _) (show 1 ≤ 2 ^ 40 by decide))
theorem dropR_len (h : H) : (dropR h).l.length ≤ 2 ^ 40 := by
  unfold dropR
  split <;> simp
theorem wt_int {n : Nat} {a : D} (h : wt tys (n + 1) 3 [a]) : ∃ x : Int, a = .i .i64 x ∧ -2 ^ 63 ≤ x ∧ x < 2 ^ 63 := by
  obtain ⟨x, hx, hw⟩ := h
  have := bounds_i64 hw
  exact ⟨x, by simpa using hx, by omega, by omega⟩
theorem wt_u16 {n : Nat} {a : D} (h : wt tys (n + 1) 37 [a]) : ∃ x : Int, a = .i .u16 x ∧ 0 ≤ x ∧ x < 65536 := by
  obtain ⟨x, hx, hw⟩ := h
  have := bounds_u16 hw
  exact ⟨x, by simpa using hx, by omega, by omega⟩
theorem wt_u32 {n : Nat} {a : D} (h : wt tys (n + 1) 22 [a]) : ∃ x : Int, a = .i .u32 x ∧ 0 ≤ x ∧ x < 4294967296 := by
  obtain ⟨x, hx, hw⟩ := h
  have := bounds_u32 hw
  exact ⟨x, by simpa using hx, by omega, by omega⟩
theorem wt_bool {n : Nat} {a : D} (h : wt tys (n + 1) 4 [a]) : ∃ x : Bool, a = .b x := by
  obtain ⟨x, hx⟩ := h
  exact ⟨x, by simpa using hx⟩
theorem wt_str {n : Nat} {a : D} (h : wt tys (n + 1) 9 [a]) : ∃ x : List UInt8, a = .s x ∧ x.length ≤ maxLen := by
  obtain ⟨x, hx, hl⟩ := h
  exact ⟨x, by simpa using hx, hl⟩
theorem wt_hand {n : Nat} {l : List D} (h : wt tys (n + 2) 70 l) : ∃ x : H, asV true l = hA x ∧ -2 ^ 63 ≤ x.tries := by
  obtain ⟨h0, h1, h2, h3, h4, h5, h6, h7, h8, h9, h10, h11, h12, _⟩ := h
  match l, h0 with
  | [a1, a2, a3, a4, a5, a6, a7, a8, a9, a10, a11, a12], _ =>
    obtain ⟨x1, rfl, _⟩ := wt_int h1
    obtain ⟨x2, rfl, k, _⟩ := wt_int h2
    obtain ⟨x3, rfl, _⟩ := wt_int h3
    obtain ⟨x4, rfl, _⟩ := wt_u32 h4
    obtain ⟨x5, rfl, _⟩ := wt_u32 h5
    obtain ⟨x6, rfl, _⟩ := wt_u32 h6
    obtain ⟨x7, rfl, _⟩ := wt_u32 h7
    obtain ⟨x8, rfl, _⟩ := wt_u32 h8
    obtain ⟨x9, rfl, _⟩ := wt_u32 h9
    obtain ⟨x10, rfl, _⟩ := wt_u16 h10
    obtain ⟨x11, rfl, _⟩ := wt_u16 h11
    obtain ⟨x12, rfl, _⟩ := wt_str h12
    exact ⟨⟨x1, x2, x3, x4, x5, x6, x7, x8, x9, x10, x11, x12⟩, rfl, k⟩
theorem wt_state {n : Nat} {l : List D} (h : wt tys (n + 2) 66 l) : ∃ x : S, asV true l = sA x ∧ (0 ≤ x.tieOurs ∧ x.tieOurs < 4294967296) ∧ 0 ≤ x.tiePeer ∧ x.tiePeer < 4294967296 := by
  obtain ⟨h0, h1, h2, h3, h4, h5, h6, h7, h8, h9, h10, h11, h12, h13, h14, _⟩ := h
  match l, h0 with
  | [a1, a2, a3, a4, a5, a6, a7, a8, a9, a10, a11, a12, a13, a14], _ =>
    obtain ⟨x1, rfl, _⟩ := wt_u32 h1
    obtain ⟨x2, rfl, _⟩ := wt_u32 h2
    obtain ⟨x3, rfl, _⟩ := wt_u32 h3
    obtain ⟨x4, rfl, _⟩ := wt_u32 h4
    obtain ⟨x5, rfl, k5, k6⟩ := wt_u32 h5
    obtain ⟨x6, rfl, k7, k8⟩ := wt_u32 h6
    obtain ⟨x7, rfl, _⟩ := wt_u32 h7
    obtain ⟨x8, rfl, _⟩ := wt_u16 h8
    obtain ⟨x9, rfl, _⟩ := wt_u16 h9
    obtain ⟨x10, rfl, _⟩ := wt_u16 h10
    obtain ⟨x11, rfl, _⟩ := wt_u16 h11
    obtain ⟨x12, rfl, _⟩ := wt_str h12
    obtain ⟨x13, rfl, _⟩ := wt_int h13
    obtain ⟨x14, rfl, _⟩ := wt_int h14
    exact ⟨⟨x1, x2, x3, x4, x5, x6, x7, x8, x9, x10, x11, x12, x13, x14⟩, rfl, ⟨k5, k6⟩, k7, k8⟩
end Go.Proofs.YtbghocipmlobnaaGreat
