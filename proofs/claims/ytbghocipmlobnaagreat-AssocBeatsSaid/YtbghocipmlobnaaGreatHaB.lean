/- What states send, and how they are entered. -/
import Derived.Test.YtbghocipmlobnaaGreatHaA
namespace Towline.Hand
def w64 (n : Int) : Int := Go.IntKind.i64.wrap n
def sends (h : H) (cum : Int) : List K :=
  if h.st = 1 then [{ K.of 1 with tag := h.ourTag, window := h.mine, outs := h.outs, ins := h.ins, tsn := h.ourTsn }]
  else if h.st = 2 then [{ K.of 10 with text := h.cookie }] else if h.st = 5 then [{ K.of 7 with tsn := cum }] else if h.st = 7 then [K.of 8] else []
def entered (h : H) (st cum now : Int) : H :=
  if sends { h with st := st, tries := 0, due := 0 } cum = [] then { h with st := st, tries := 0, due := 0 } else { h with st := st, tries := 1, due := w64 (now + 1000) }
def enters (h : H) (st cum : Int) : List K := sends { h with st := st, tries := 0, due := 0 } cum
theorem sends_len (h : H) (cum : Int) : (sends h cum).length ≤ 1 := by
  unfold sends
  split
  · simp
  · split
    · simp
    · split
      · simp
      · split <;> simp
end Towline.Hand
namespace Go.Proofs.YtbghocipmlobnaaGreat
open Go Towline Towline.Hand
set_option linter.unusedVariables false
set_option maxRecDepth 20000
set_option maxHeartbeats 2000000
abbrev sclA (cum : Int) : AVal := .d (.cl 128 1 fun i => [[D.i .u32 cum]].getD i [])
theorem sender_spec (cum : Int) : PSpec Tryz.prog 63 [v32 cum] (· = sclA cum) := by
  refine PSpec.run tysOk follows Tryz.func63 (by decide) rfl Tryz.ntmps63 (Nat.le_of_ble_eq_true rfl) rfl fun w0 R0 hGw => ?_
  conv => whnf
  exact ⟨_, .refl _, rfl, rfl⟩
theorem sender1_spec (h : H) (cum : Int) : PSpec Tryz.prog 128 [hA h, .eptr 1 1 (fun _ => [.i .u32 cum]) 0 0] (· = ksA (sends h cum)) := by
  refine PSpec.run tysOk follows Tryz.func128 (by decide) rfl Tryz.ntmps128 (Nat.le_of_ble_eq_true rfl) rfl fun w0 R0 hGw => ?_
  conv => whnf
  split <;> rename_i g1
  · have g1 : h.st = 1 := by simpa using g1
    conv => whnf
    have e : sends h cum = [{ K.of 1 with tag := h.ourTag, window := h.mine, outs := h.outs, ins := h.ins, tsn := h.ourTsn }] := by simp [sends, g1]
    rw [e]
    refine ⟨by omega, ?_⟩
    conv => whnf
    refine ⟨_, ?_, rfl, rfl⟩
    exact .sl rfl (fun j hj => by match j, hj with | 0, _ => rfl)
  · have g1 : ¬ h.st = 1 := by simpa using g1
    conv => whnf
    split <;> rename_i g2
    · have g2 : h.st = 2 := by simpa using g2
      conv => whnf
      have e : sends h cum = [{ K.of 10 with text := h.cookie }] := by simp [sends, g2]
      rw [e]
      refine ⟨by omega, ?_⟩
      conv => whnf
      refine ⟨_, ?_, rfl, rfl⟩
      exact .sl rfl (fun j hj => by match j, hj with | 0, _ => rfl)
    · have g2 : ¬ h.st = 2 := by simpa using g2
      conv => whnf
      split <;> rename_i g3
      · have g3 : h.st = 5 := by simpa using g3
        conv => whnf
        have e : sends h cum = [{ K.of 7 with tsn := cum }] := by simp [sends, g3]
        rw [e]
        refine ⟨by omega, ?_⟩
        conv => whnf
        refine ⟨_, ?_, rfl, rfl⟩
        exact .sl rfl (fun j hj => by match j, hj with | 0, _ => rfl)
      · have g3 : ¬ h.st = 5 := by simpa using g3
        conv => whnf
        split <;> rename_i g4
        · have g4 : h.st = 7 := by simpa using g4
          conv => whnf
          have e : sends h cum = [K.of 8] := by simp [sends, g4]
          rw [e]
          refine ⟨by omega, ?_⟩
          conv => whnf
          refine ⟨_, ?_, rfl, rfl⟩
          exact .sl rfl (fun j hj => by match j, hj with | 0, _ => rfl)
        · have g4 : ¬ h.st = 7 := by simpa using g4
          conv => whnf
          have e : sends h cum = [] := by simp [sends, g1, g2, g3, g4]
          rw [e]
          refine ⟨_, ?_, rfl, rfl⟩
          exact .nil
theorem enter_spec (h : H) (st cum now : Int) : PSpec Tryz.prog 84 [hA h, vi st, v32 cum, vi now] (· = .tup [hA (entered h st cum now), ksA (enters h st cum)]) := by
  refine PSpec.run tysWOk follows Tryz.func84 (by decide) rfl Tryz.ntmps84 (Nat.le_of_ble_eq_true rfl) rfl fun w0 R0 hGw => ?_
  conv => whnf
  refine ⟨_, sender_spec cum, ?_⟩
  conv => whnf
  refine ⟨_, sender1_spec { h with st := st, tries := 0, due := 0 } cum, ?_⟩
  conv => whnf
  refine ⟨by kernel_rfl, ?_⟩
  conv => whnf
  split <;> rename_i g1
  · replace g1 := of_decide_eq_true g1
    try simp only [Int.toNat_natCast] at g1
    have hne : sends { h with st := st, tries := 0, due := 0 } cum ≠ [] := by intro e; rw [e] at g1; simp at g1
    conv => whnf
    rw [entered, if_neg hne]
    exact ⟨_, .refl _, rfl, rfl⟩
  · replace g1 := of_decide_eq_false g1
    try simp only [Int.toNat_natCast] at g1
    have he : sends { h with st := st, tries := 0, due := 0 } cum = [] := by
      cases hl : sends { h with st := st, tries := 0, due := 0 } cum with
      | nil => rfl
      | cons => rw [hl] at g1; simp at g1
    conv => whnf
    rw [entered, if_pos he]
    exact ⟨_, .refl _, rfl, rfl⟩
end Go.Proofs.YtbghocipmlobnaaGreat
