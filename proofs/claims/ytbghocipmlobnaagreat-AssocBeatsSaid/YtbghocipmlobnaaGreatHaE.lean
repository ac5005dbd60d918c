/- What a chunk makes of an association. -/
import Derived.Test.YtbghocipmlobnaaGreatHaD
namespace Towline.Hand
structure It where
  ty : Int
  v : List UInt8
  deriving DecidableEq, Inhabited
def fnd (kind : Int) (l : List It) : Nat := l.findIdx fun x => x.ty == kind
def hasIt (kind : Int) (l : List It) : Bool := decide (fnd kind l < l.length)
def itV (kind : Int) (l : List It) : List UInt8 := if fnd kind l < l.length then (l.getD (fnd kind l) default).v else []
def answeredH (h : H) (c : K) (l : List It) : H := { h with peerTag := c.tag, peerTsn := c.tsn, window := c.window, cookie := itV 7 l, outs := min h.outs c.ins, ins := min h.ins c.outs }
def answeredR (h : H) (c : K) (l : List It) (now : Int) : R :=
  if hasIt 7 l = true ∧ itV 7 l ≠ [] ∧ (itV 7 l).length ≤ 1000 then ⟨entered (answeredH h c l) 2 0 now, enters (answeredH h c l) 2 0, 0⟩ else dropR h
def refusedH (h : H) : H := { h with peerTag := 0, peerTsn := 0, window := 0, cookie := [] }
def refusedR (h : H) (l : List It) (now : Int) : R :=
  if hasIt 3 l = true then (if 8 ≤ h.tries then ⟨H.nil, [], 3⟩ else ⟨{ entered (refusedH h) 1 0 now with tries := h.tries + 1 }, enters (refusedH h) 1 0, 0⟩) else ⟨h, [], 0⟩
def takeR (h : H) (c : K) (l : List It) (empty : Bool) (now : Int) : R :=
  if h.st = 0 then ⟨h, [], 0⟩
  else if c.ty = 6 then ⟨H.nil, [], 3⟩
  else if c.ty = 2 then (if h.st = 1 then answeredR h c l now else ⟨h, [], 0⟩)
  else if c.ty = 11 then (if h.st = 2 then ⟨entered h 3 0 now, enters h 3 0, 1⟩ else ⟨h, [], 0⟩)
  else if c.ty = 9 then (if h.st = 2 then refusedR h l now else ⟨h, [], 0⟩)
  else if c.ty = 7 then (if h.st = 3 ∨ h.st = 4 then ⟨entered h (if empty then 7 else 6) 0 now, enters h (if empty then 7 else 6) 0, 0⟩ else if h.st = 5 then ⟨entered h 7 0 now, enters h 7 0, 0⟩ else ⟨h, [], 0⟩)
  else if c.ty = 8 then (if h.st = 5 ∨ h.st = 7 then ⟨H.nil, [K.of 14], 2⟩ else ⟨h, [], 0⟩)
  else if c.ty = 14 then (if h.st = 7 then ⟨H.nil, [], 2⟩ else ⟨h, [], 0⟩)
  else ⟨h, [], 0⟩
theorem findIdx_at {α : Type} [Inhabited α] {p : α → Bool} {l : List α} {k : Nat} (hk : k < l.length) (h1 : p (l.getD k default) = true) (h2 : ∀ j, j < k → p (l.getD j default) = false) : l.findIdx p = k := by
  rw [List.findIdx_eq hk]
  refine ⟨by simpa [List.getD_eq_getElem?_getD, hk] using h1, fun j hj => ?_⟩
  have := h2 j hj
  simpa [List.getD_eq_getElem?_getD, show j < l.length from by omega] using this
theorem findIdx_none {α : Type} [Inhabited α] {p : α → Bool} {l : List α} (h2 : ∀ j, j < l.length → p (l.getD j default) = false) : ¬ l.findIdx p < l.length := by
  intro h
  have := List.findIdx_getElem (w := h)
  have h3 := h2 _ h
  rw [List.getD_eq_getElem?_getD, List.getElem?_eq_getElem h] at h3
  rw [show (some (l[List.findIdx p l])).getD default = l[List.findIdx p l] from rfl, this] at h3
  cases h3
end Towline.Hand
namespace Go.Proofs.YtbghocipmlobnaaGreat
open Go Towline Towline.Hand
set_option linter.unusedVariables false
set_option maxRecDepth 20000
set_option maxHeartbeats 4000000
def encIt (x : It) : List D := [.i .i64 x.ty, .s x.v]
abbrev itA (x : It) : AVal := .agg [vi x.ty, vs x.v]
/-- A chunk, with whatever gaps and doubles, and with items. -/
abbrev gL (c : K) (gd du : D) (l : List It) : List AVal := [vi c.ty, vi c.flags, v32 c.tsn, v32 c.tag, v32 c.window, v32 c.ppid, v16 c.stream, v16 c.ssn, v16 c.outs, v16 c.ins, .d gd, .d du, .d (slT 2 encIt l), vs c.text]
abbrev gA (c : K) (gd du : D) (l : List It) : AVal := .agg (gL c gd du l)
theorem index_spec (g n1 : Nat) (f1 : Nat → List D) (keep : It → Bool) (l : List It) (h4 : l.length ≤ maxLen)
    (hk : ∀ m, PSpec Tryz.prog g [itA m, .eptr n1 1 f1 0 0] (· = vb (keep m))) :
    PSpec Tryz.prog 179 [.d (slT 2 encIt l), .fn g [.eptr n1 1 f1 0 0]] (· = vi (if l.findIdx keep < l.length then l.findIdx keep else -1)) := by
  have h4' : l.length ≤ 2 ^ 63 - 1 := h4
  refine PSpec.run tysOk follows Tryz.func179 (by decide) rfl Tryz.ntmps179 (Nat.le_of_ble_eq_true rfl) rfl fun w0 R0 hGw => ?_
  conv => whnf
  refine ALoop.introR tysOk follows (fun k : {k // k ≤ l.length ∧ ∀ j, j < k → keep (l.getD j default) = false} => ([(0, .d (slT 2 encIt l)), (1, .fn g [.eptr n1 1 f1 0 0]), (7, vi l.length), (8, vi k.1)], [])) (fun k => l.length - k.1) ⟨0, by omega, fun j hj => by omega⟩ ?_ ?_
  · exact ⟨.refl _, .refl _, .refl _, .refl _, trivial⟩
  · rintro ⟨k, hk1, hk2⟩
    dsimp only
    conv => whnf
    split <;> rename_i h1
    · have hlt : k < l.length := by simpa using h1
      conv => whnf
      refine ⟨by first | omega | (simp only [Int.toNat_natCast]; omega) | (simp; done) | (simp; omega), ?_⟩
      conv => whnf
      refine ⟨_, hk (l.getD k default), ?_⟩
      rintro q rfl
      conv => whnf
      split <;> rename_i h2
      · have h2 : keep (l.getD k default) = true := h2
        conv => whnf
        rw [findIdx_at hlt h2 hk2, if_pos hlt]
        exact ⟨_, .refl _, rfl, rfl⟩
      · have h2 : keep (l.getD k default) = false := h2
        conv => whnf
        refine ⟨by first | omega | (simp only [Int.toNat_natCast]; omega) | (simp; done) | (simp; omega), ?_⟩
        conv => whnf
        refine ⟨⟨k + 1, by omega, fun j hj => ?_⟩, [], by dsimp only; omega, .refl _, .refl _, .refl _, .refl _, trivial⟩
        rcases Nat.lt_or_eq_of_le (show j ≤ k from by omega) with h | rfl
        · exact hk2 j h
        · exact h2
    · have hlt : ¬ k < l.length := by simpa using h1
      obtain rfl : k = l.length := by omega
      conv => whnf
      rw [if_neg (findIdx_none hk2)]
      exact ⟨_, .refl _, rfl, rfl⟩
theorem find1_spec (x : It) (kind : Int) : PSpec Tryz.prog 187 [itA x, .eptr 1 1 (fun _ => [.i .i64 kind]) 0 0] (· = vb (x.ty == kind)) := by
  refine PSpec.run tysOk follows Tryz.func187 (by decide) rfl Tryz.ntmps187 (Nat.le_of_ble_eq_true rfl) rfl fun w0 R0 hGw => ?_
  conv => whnf
  exact ⟨_, .refl _, rfl, rfl⟩
theorem find_spec (l : List It) (kind : Int) (h4 : l.length ≤ maxLen) : PSpec Tryz.prog 173 [.d (slT 2 encIt l), vi kind] (· = .tup [vs (itV kind l), vb (hasIt kind l)]) := by
  have h4' : l.length ≤ 2 ^ 63 - 1 := h4
  refine PSpec.run tysOk follows Tryz.func173 (by decide) rfl Tryz.ntmps173 (Nat.le_of_ble_eq_true rfl) rfl fun w0 R0 hGw => ?_
  conv => whnf
  refine ⟨_, index_spec _ _ _ (fun x => x.ty == kind) l h4 fun m => find1_spec m kind, ?_⟩
  rintro q rfl
  conv => whnf
  split <;> rename_i h1
  · replace h1 := of_decide_eq_true h1
    try simp only [Int.toNat_natCast] at h1
    have hn : ¬ fnd kind l < l.length := by
      intro h
      have h : List.findIdx (fun x => x.ty == kind) l < l.length := h
      rw [if_pos h] at h1
      omega
    conv => whnf
    rw [itV, if_neg hn, hasIt, decide_eq_false hn]
    exact ⟨_, .refl _, rfl, rfl⟩
  · replace h1 := of_decide_eq_false h1
    try simp only [Int.toNat_natCast] at h1
    have hn : fnd kind l < l.length := by
      show List.findIdx (fun x => x.ty == kind) l < l.length
      by_cases h : List.findIdx (fun x => x.ty == kind) l < l.length
      · exact h
      · rw [if_neg h] at h1; omega
    have e1 : (if List.findIdx (fun x => x.ty == kind) l < l.length then ((List.findIdx (fun x => x.ty == kind) l : Nat) : Int) else -1) = (fnd kind l : Nat) := by
      have h : List.findIdx (fun x => x.ty == kind) l < l.length := hn
      rw [if_pos h]; rfl
    rw [e1]
    conv => whnf
    refine ⟨by first | omega | (simp only [Int.toNat_natCast]; omega) | (simp; done) | (simp; omega), ?_⟩
    conv => whnf
    rw [itV, if_pos hn, hasIt, decide_eq_true hn]
    exact ⟨_, .refl _, rfl, rfl⟩
theorem answered_spec (h : H) (c : K) (gd du : D) (l : List It) (now : Int) (h4 : l.length ≤ maxLen) : PSpec Tryz.prog 125 [hA h, gA c gd du l, vi now] (· = rA (answeredR h c l now)) := by
  refine PSpec.run tysOk follows Tryz.func125 (by decide) rfl Tryz.ntmps125 (Nat.le_of_ble_eq_true rfl) rfl fun w0 R0 hGw => ?_
  conv => whnf
  refine ⟨_, find_spec l 7 h4, ?_⟩
  rintro q rfl
  conv => whnf
  split <;> rename_i g1
  · have g1 : hasIt 7 l = false := by simpa using g1
    conv => whnf
    refine ⟨_, drop_spec h, ?_⟩
    rintro q rfl
    conv => whnf
    rw [show answeredR h c l now = dropR h from if_neg (by simp [g1])]
    exact ⟨_, .refl _, rfl, rfl⟩
  · have g1 : hasIt 7 l = true := by simpa using g1
    conv => whnf
    split <;> rename_i g2
    · have g2 : itV 7 l = [] := by simpa using g2
      conv => whnf
      refine ⟨_, drop_spec h, ?_⟩
      rintro q rfl
      conv => whnf
      rw [show answeredR h c l now = dropR h from if_neg (by simp [g2])]
      exact ⟨_, .refl _, rfl, rfl⟩
    · have g2 : ¬ itV 7 l = [] := by simpa using g2
      conv => whnf
      split <;> rename_i g3
      · replace g3 := of_decide_eq_true g3
        try simp only [Int.toNat_natCast] at g3
        conv => whnf
        refine ⟨_, drop_spec h, ?_⟩
        rintro q rfl
        conv => whnf
        rw [show answeredR h c l now = dropR h from if_neg (by intro h; omega)]
        exact ⟨_, .refl _, rfl, rfl⟩
      · replace g3 := of_decide_eq_false g3
        try simp only [Int.toNat_natCast] at g3
        conv => whnf
        refine ⟨by kernel_rfl, ?_⟩
        conv => whnf
        refine ⟨by kernel_rfl, ?_⟩
        conv => whnf
        refine ⟨_, enter_spec (answeredH h c l) 2 0 now, ?_⟩
        rintro q rfl
        conv => whnf
        rw [show answeredR h c l now = ⟨entered (answeredH h c l) 2 0 now, enters (answeredH h c l) 2 0, 0⟩ from if_pos ⟨g1, g2, by omega⟩]
        exact ⟨_, .refl _, rfl, rfl⟩
theorem refused_spec (h : H) (c : K) (gd du : D) (l : List It) (now : Int) (h4 : l.length ≤ maxLen) (ht : -2 ^ 63 ≤ h.tries) : PSpec Tryz.prog 126 [hA h, gA c gd du l, vi now] (· = rA (refusedR h l now)) := by
  refine PSpec.run tysOk follows Tryz.func126 (by decide) rfl Tryz.ntmps126 (Nat.le_of_ble_eq_true rfl) rfl fun w0 R0 hGw => ?_
  conv => whnf
  refine ⟨_, find_spec l 3 h4, ?_⟩
  rintro q rfl
  conv => whnf
  split <;> rename_i g1
  · have g1 : hasIt 3 l = false := by simpa using g1
    conv => whnf
    rw [show refusedR h l now = ⟨h, [], 0⟩ from if_neg (by simp [g1])]
    refine ⟨_, ?_, rfl, rfl⟩
    exact .tup ⟨.refl _, .nil, .refl _, trivial⟩
  · have g1 : hasIt 3 l = true := by simpa using g1
    conv => whnf
    split <;> rename_i g2
    · replace g2 := of_decide_eq_true g2
      try simp only [Int.toNat_natCast] at g2
      conv => whnf
      refine ⟨_, ended0_spec 3, ?_⟩
      rintro q rfl
      conv => whnf
      rw [show refusedR h l now = ⟨H.nil, [], 3⟩ from by simp [refusedR, g1, g2]]
      exact ⟨_, .refl _, rfl, rfl⟩
    · replace g2 := of_decide_eq_false g2
      try simp only [Int.toNat_natCast] at g2
      conv => whnf
      refine ⟨by first | omega | (simp only [Int.toNat_natCast]; omega) | (simp; done) | (simp; omega), ?_⟩
      conv => whnf
      refine ⟨_, enter_spec (refusedH h) 1 0 now, ?_⟩
      rintro q rfl
      conv => whnf
      rw [show refusedR h l now = ⟨{ entered (refusedH h) 1 0 now with tries := h.tries + 1 }, enters (refusedH h) 1 0, 0⟩ from by simp [refusedR, g1, g2]]
      exact ⟨_, .refl _, rfl, rfl⟩
theorem take_spec (h : H) (c : K) (gd du : D) (l : List It) (e : Bool) (now : Int) (h4 : l.length ≤ maxLen) (ht : -2 ^ 63 ≤ h.tries) : PSpec Tryz.prog 57 [hA h, gA c gd du l, vb e, vi now] (· = rA (takeR h c l e now)) := by
  refine PSpec.run (tysPOk [94]) follows Tryz.func57 (by decide) rfl Tryz.ntmps57 (Nat.le_of_ble_eq_true rfl) rfl fun w0 R0 hGw => ?_
  conv => whnf
  split <;> rename_i g0
  · have g0 : h.st = 0 := by simpa using g0
    conv => whnf
    rw [show takeR h c l e now = ⟨h, [], 0⟩ from by simp [takeR, *]]
    refine ⟨_, ?_, rfl, rfl⟩
    exact .tup ⟨.refl _, .nil, .refl _, trivial⟩
  have g0 : ¬ h.st = 0 := by simpa using g0
  conv => whnf
  split <;> rename_i g1
  · have g1 : c.ty = 6 := by simpa using g1
    conv => whnf
    refine ⟨_, ended0_spec 3, ?_⟩
    rintro q rfl
    conv => whnf
    rw [show takeR h c l e now = ⟨H.nil, [], 3⟩ from by simp [takeR, *]]
    exact ⟨_, .refl _, rfl, rfl⟩
  have g1 : ¬ c.ty = 6 := by simpa using g1
  conv => whnf
  split <;> rename_i g2
  · have g2 : c.ty = 2 := by simpa using g2
    conv => whnf
    split <;> rename_i k1
    · have k1 : h.st = 1 := by simpa using k1
      conv => whnf
      refine ⟨_, answered_spec h c gd du l now h4, ?_⟩
      rintro q rfl
      conv => whnf
      rw [show takeR h c l e now = answeredR h c l now from by simp [takeR, *]]
      exact ⟨_, .refl _, rfl, rfl⟩
    · have k1 : ¬ h.st = 1 := by simpa using k1
      conv => whnf
      rw [show takeR h c l e now = ⟨h, [], 0⟩ from by simp [takeR, *]]
      refine ⟨_, ?_, rfl, rfl⟩
      exact .tup ⟨.refl _, .nil, .refl _, trivial⟩
  have g2 : ¬ c.ty = 2 := by simpa using g2
  conv => whnf
  split <;> rename_i g3
  · have g3 : c.ty = 11 := by simpa using g3
    conv => whnf
    split <;> rename_i k1
    · have k1 : h.st = 2 := by simpa using k1
      conv => whnf
      refine ⟨_, enter_spec h 3 0 now, ?_⟩
      rintro q rfl
      conv => whnf
      rw [show takeR h c l e now = ⟨entered h 3 0 now, enters h 3 0, 1⟩ from by simp [takeR, *]]
      exact ⟨_, .refl _, rfl, rfl⟩
    · have k1 : ¬ h.st = 2 := by simpa using k1
      conv => whnf
      rw [show takeR h c l e now = ⟨h, [], 0⟩ from by simp [takeR, *]]
      refine ⟨_, ?_, rfl, rfl⟩
      exact .tup ⟨.refl _, .nil, .refl _, trivial⟩
  have g3 : ¬ c.ty = 11 := by simpa using g3
  conv => whnf
  split <;> rename_i g4
  · have g4 : c.ty = 9 := by simpa using g4
    conv => whnf
    split <;> rename_i k1
    · have k1 : h.st = 2 := by simpa using k1
      conv => whnf
      refine ⟨_, refused_spec h c gd du l now h4 ht, ?_⟩
      rintro q rfl
      conv => whnf
      rw [show takeR h c l e now = refusedR h l now from by simp [takeR, *]]
      exact ⟨_, .refl _, rfl, rfl⟩
    · have k1 : ¬ h.st = 2 := by simpa using k1
      conv => whnf
      rw [show takeR h c l e now = ⟨h, [], 0⟩ from by simp [takeR, *]]
      refine ⟨_, ?_, rfl, rfl⟩
      exact .tup ⟨.refl _, .nil, .refl _, trivial⟩
  have g4 : ¬ c.ty = 9 := by simpa using g4
  conv => whnf
  split <;> rename_i g5
  · have g5 : c.ty = 7 := by simpa using g5
    conv => whnf
    split <;> rename_i k1b
    · have k1 : h.st = 3 := by simpa using k1b
      conv => whnf
      try (rw [k1b]; conv => whnf)
      refine ⟨_, shut_spec h e 6 7 0 now, ?_⟩
      rintro q rfl
      conv => whnf
      rw [show takeR h c l e now = ⟨entered h (if e then 7 else 6) 0 now, enters h (if e then 7 else 6) 0, 0⟩ from by simp [takeR, *]]
      exact ⟨_, .refl _, rfl, rfl⟩
    · have k1 : ¬ h.st = 3 := by simpa using k1b
      conv => whnf
      split <;> rename_i k2b
      · have k2 : h.st = 4 := by simpa using k2b
        conv => whnf
        try (rw [k1b]; conv => whnf)
        try (rw [k2b]; conv => whnf)
        refine ⟨_, shut_spec h e 6 7 0 now, ?_⟩
        rintro q rfl
        conv => whnf
        rw [show takeR h c l e now = ⟨entered h (if e then 7 else 6) 0 now, enters h (if e then 7 else 6) 0, 0⟩ from by simp [takeR, *]]
        exact ⟨_, .refl _, rfl, rfl⟩
      · have k2 : ¬ h.st = 4 := by simpa using k2b
        conv => whnf
        split <;> rename_i k3b
        · have k3 : h.st = 5 := by simpa using k3b
          conv => whnf
          refine ⟨_, enter_spec h 7 0 now, ?_⟩
          rintro q rfl
          conv => whnf
          rw [show takeR h c l e now = ⟨entered h 7 0 now, enters h 7 0, 0⟩ from by simp [takeR, *]]
          exact ⟨_, .refl _, rfl, rfl⟩
        · have k3 : ¬ h.st = 5 := by simpa using k3b
          conv => whnf
          rw [show takeR h c l e now = ⟨h, [], 0⟩ from by simp [takeR, *]]
          refine ⟨_, ?_, rfl, rfl⟩
          exact .tup ⟨.refl _, .nil, .refl _, trivial⟩
  have g5 : ¬ c.ty = 7 := by simpa using g5
  conv => whnf
  split <;> rename_i g6
  · have g6 : c.ty = 8 := by simpa using g6
    conv => whnf
    split <;> rename_i k1
    · have k1 : h.st = 5 := by simpa using k1
      conv => whnf
      refine ⟨by first | omega | (simp only [Int.toNat_natCast]; omega) | (simp; done) | (simp; omega), ?_⟩
      conv => whnf
      refine ⟨_, ended1_spec 2 14 rfl, ?_⟩
      rintro q rfl
      conv => whnf
      rw [show takeR h c l e now = ⟨H.nil, [K.of 14], 2⟩ from by simp [takeR, *]]
      exact ⟨_, .refl _, rfl, rfl⟩
    · have k1 : ¬ h.st = 5 := by simpa using k1
      conv => whnf
      split <;> rename_i k2
      · have k2 : h.st = 7 := by simpa using k2
        conv => whnf
        refine ⟨by first | omega | (simp only [Int.toNat_natCast]; omega) | (simp; done) | (simp; omega), ?_⟩
        conv => whnf
        refine ⟨_, ended1_spec 2 14 rfl, ?_⟩
        rintro q rfl
        conv => whnf
        rw [show takeR h c l e now = ⟨H.nil, [K.of 14], 2⟩ from by simp [takeR, *]]
        exact ⟨_, .refl _, rfl, rfl⟩
      · have k2 : ¬ h.st = 7 := by simpa using k2
        conv => whnf
        rw [show takeR h c l e now = ⟨h, [], 0⟩ from by simp [takeR, *]]
        refine ⟨_, ?_, rfl, rfl⟩
        exact .tup ⟨.refl _, .nil, .refl _, trivial⟩
  have g6 : ¬ c.ty = 8 := by simpa using g6
  conv => whnf
  split <;> rename_i g7
  · have g7 : c.ty = 14 := by simpa using g7
    conv => whnf
    split <;> rename_i k1
    · have k1 : h.st = 7 := by simpa using k1
      conv => whnf
      refine ⟨_, ended0_spec 2, ?_⟩
      rintro q rfl
      conv => whnf
      rw [show takeR h c l e now = ⟨H.nil, [], 2⟩ from by simp [takeR, *]]
      exact ⟨_, .refl _, rfl, rfl⟩
    · have k1 : ¬ h.st = 7 := by simpa using k1
      conv => whnf
      rw [show takeR h c l e now = ⟨h, [], 0⟩ from by simp [takeR, *]]
      refine ⟨_, ?_, rfl, rfl⟩
      exact .tup ⟨.refl _, .nil, .refl _, trivial⟩
  have g7 : ¬ c.ty = 14 := by simpa using g7
  conv => whnf
  rw [show takeR h c l e now = ⟨h, [], 0⟩ from by simp [takeR, *]]
  refine ⟨_, ?_, rfl, rfl⟩
  exact .tup ⟨.refl _, .nil, .refl _, trivial⟩
end Go.Proofs.YtbghocipmlobnaaGreat
