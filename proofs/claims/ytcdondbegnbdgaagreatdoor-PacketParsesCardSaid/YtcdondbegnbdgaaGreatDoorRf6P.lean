/- Chapter 6, the document's answer, for the chapters above it: contracts. Printed by genRf6.py. -/
import Derived.Test.YtcdondbegnbdgaaGreatDoorRf6
namespace Go.Proofs.YtcdondbegnbdgaaGreatDoor
open Go Go.RowKit Towline Towline.Tlv Towline.Chunk
set_option linter.unusedVariables false
set_option linter.unusedSimpArgs false
set_option maxRecDepth 20000
set_option maxHeartbeats 4000000
theorem rparse_spec (s : List UInt8) (hs : s.length ≤ 2 ^ 40) : PSpec Tryz.prog 102 [tvs s] (· = .tup [.d (slT 2 encI (parseL s).1), tvi (parseL s).2.1, tvi (parseL s).2.2]) := by
  refine PSpec.run (tysOk) followsB Tryz.func102 (by decide) rfl Tryz.ntmps102 (Nat.le_of_ble_eq_true rfl) rfl fun w0 R0 => ?_
  conv => whnf
  split <;> rename_i h0
  · replace h0 := of_decide_eq_true h0
    try simp only [Int.toNat_natCast] at h0
    conv => whnf
    rw [show parseL s = ([], 0, 4) from by unfold parseL; rw [if_pos (by omega)]]
    refine ⟨_, ?_, rfl, rfl⟩
    exact .tup ⟨.nil, .refl _, .refl _, trivial⟩
  replace h0 := of_decide_eq_false h0
  try simp only [Int.toNat_natCast] at h0
  conv => whnf
  refine ALoop.adopt 5 1000 2 101 (fun k => []) rfl rfl rfl ?_
  refine ALoop.introR tysOk followsB (fun k : {k : Nat × List Rd // k.1 ≤ s.length ∧ yl s 0 = k.2 ++ yl (s.drop k.1) k.1 ∧ k.2.all Tlv.okR = true} => ([(0, tvs s), (5, .rsl 1000 2 0 k.1.2.length), (6, tvi k.1.1)], [(1000, .row 101 2 k.1.2.length (fun j => encI (k.1.2.getD j default).x))])) (fun k => s.length - k.1.1) ⟨(0, []), by simp⟩ ?_ ?_
  · exact ⟨.refl _, .refl _, .refl _, ⟨rfl, rfl, rfl, fun _ hj => by simp at hj⟩, trivial⟩
  rintro ⟨⟨k, pre⟩, hk, hy, hok⟩
  dsimp only at hk hy hok ⊢
  conv => whnf
  split <;> rename_i h1
  · have hlt : k < s.length := by simpa using h1
    have hd : (s.drop k).length = s.length - k := List.length_drop
    have bad : ∀ e, firstL (s.drop k) = (⟨0, []⟩, 0, e) → e ≠ 0 → parseL s = ([], (k : Int), e) := fun e h he => by
      have h1 := parse_not (s := s) (by omega) (q := pre) (r := ⟨k, e, ⟨0, []⟩⟩) (by rw [hy, yl_bad (by omega) (by rw [h]; exact he), h]; exact List.prefix_rfl) he
      exact h1
    conv => whnf
    refine ⟨by first | omega | (simp only [Int.toNat_natCast]; omega) | (simp; done) | (simp; omega), ?_⟩
    conv => whnf
    split <;> rename_i g1
    · replace g1 := of_decide_eq_true g1
      try simp only [Int.toNat_natCast] at g1
      conv => whnf
      rw [bad 3 (by unfold firstL; rw [if_pos (by omega)]) (by decide)]
      refine ⟨_, ?_, rfl, rfl⟩
      exact .tup ⟨.nil, .refl _, .refl _, trivial⟩
    replace g1 := of_decide_eq_false g1
    try simp only [Int.toNat_natCast] at g1
    have hb (i : Nat) (hi : k + i + 1 < s.length) : ((s.getD (k + i) 0).toNat * 256 + (s.getD (k + i + 1) 0).toNat) = b2 (s.drop k) i := by
      unfold b2
      rw [List.getD_eq_getElem?_getD, List.getD_eq_getElem?_getD, List.getD_eq_getElem?_getD, List.getD_eq_getElem?_getD, List.getElem?_drop, List.getElem?_drop]
      rfl
    have q2 := UInt8.toNat_lt (s.getD (Int.toNat (k + 2)) 0)
    have q3 := UInt8.toNat_lt (s.getD (Int.toNat (k + 3)) 0)
    have hbn : ((s.getD (Int.toNat (k + 2)) 0).toNat : Int) * 256 + ((s.getD (Int.toNat (k + 3)) 0).toNat : Int) = (b2 (s.drop k) 2 : Nat) := by
      have := hb 2 (by omega)
      rw [show Int.toNat ((k : Int) + 2) = k + 2 from by omega, show Int.toNat ((k : Int) + 3) = k + 2 + 1 from by omega]
      omega
    conv => whnf
    repeat (refine ⟨by first | decide | omega, ?_⟩; conv => whnf)
    refine ⟨by kernel_rfl, ?_⟩
    conv => whnf
    rw [hbn]
    have hb2 : b2 (s.drop k) 2 < 65536 := by omega
    conv => whnf
    split <;> rename_i g2
    · have g2 := of_decide_eq_true g2
      conv => whnf
      rw [bad 2 (by unfold firstL; rw [if_neg (by omega), if_pos (by omega)]) (by decide)]
      refine ⟨_, ?_, rfl, rfl⟩
      exact .tup ⟨.nil, .refl _, .refl _, trivial⟩
    have g2 := of_decide_eq_false g2
    conv => whnf
    split <;> rename_i g3
    · have g3 := of_decide_eq_true g3
      conv => whnf
      rw [bad 3 (by unfold firstL; rw [if_neg (by omega), if_neg (by omega), if_pos (by omega)]) (by decide)]
      refine ⟨_, ?_, rfl, rfl⟩
      exact .tup ⟨.nil, .refl _, .refl _, trivial⟩
    have g3 := of_decide_eq_false g3
    conv => whnf
    refine ⟨by first | omega | (simp only [Int.toNat_natCast]; omega) | (simp; done) | (simp; omega), ?_⟩
    conv => whnf
    split <;> rename_i g4
    · have g4 := of_decide_eq_true g4
      conv => whnf
      rw [bad 4 (by unfold firstL; rw [if_neg (by omega), if_neg (by omega), if_neg (by omega), if_pos (by omega)]) (by decide)]
      refine ⟨_, ?_, rfl, rfl⟩
      exact .tup ⟨.nil, .refl _, .refl _, trivial⟩
    have g4 := of_decide_eq_false g4
    conv => whnf
    refine ⟨_, rpadN_spec (b2 (s.drop k) 2) (by omega), ?_⟩
    rintro q rfl
    conv => whnf
    obtain ⟨m, hm⟩ : ∃ m, m = min (padN (b2 (s.drop k) 2)) (s.length - k - b2 (s.drop k) 2) := ⟨_, rfl⟩
    have hpad := padN_lt (b2 (s.drop k) 2)
    obtain ⟨hc, he⟩ := cut_pad s k (by omega) (by omega) m hm
    rw [show (((k : Nat) : Int) = k) from rfl]
    repeat (refine ⟨by first | decide | omega, ?_⟩; conv => whnf)
    rw [show (min ((padN (b2 (s.drop k) 2) : Nat) : Int) ((s.length : Int) - k - (b2 (s.drop k) 2 : Nat))) = (m : Int) from by omega]
    refine ⟨_, noughts_spec m (by omega), ?_⟩
    conv => whnf
    refine ⟨by kernel_rfl, ?_⟩
    conv => whnf
    rw [show ((k : Int) + (b2 (s.drop k) 2 : Nat)) = ((k + b2 (s.drop k) 2 : Nat) : Int) from by omega, show (((k + b2 (s.drop k) 2 : Nat) : Int) + (m : Nat)) = ((k + b2 (s.drop k) 2 + m : Nat) : Int) from by omega]
    have hcm : (cutS s (some ((k + b2 (s.drop k) 2 : Nat) : Int)) (some ((k + b2 (s.drop k) 2 + m : Nat) : Int)) != List.replicate m 0) = (((s.drop k).take (endN (s.drop k))).drop (b2 (s.drop k) 2)).any (· != 0) := hc
    rw [hcm]
    by_cases g5 : (((s.drop k).take (endN (s.drop k))).drop (b2 (s.drop k) 2)).any (· != 0) = true
    · rw [g5]
      conv => whnf
      rw [bad 2 (by unfold firstL; rw [if_neg (by omega), if_neg (by omega), if_neg (by omega), if_neg (by omega), if_pos g5]) (by decide)]
      refine ⟨_, ?_, rfl, rfl⟩
      exact .tup ⟨.nil, .refl _, .refl _, trivial⟩
    rw [Bool.not_eq_true] at g5
    rw [g5]
    conv => whnf
    have q0 := UInt8.toNat_lt (s.getD (Int.toNat k) 0)
    have q1 := UInt8.toNat_lt (s.getD (Int.toNat (k + 1)) 0)
    have hf : firstL (s.drop k) = (⟨b2 (s.drop k) 0, ((s.drop k).take (b2 (s.drop k) 2)).drop 4⟩, endN (s.drop k), 0) := by
      unfold firstL
      rw [if_neg (by omega), if_neg (by omega), if_neg (by omega), if_neg (by omega), if_neg (by rw [g5]; decide)]
    have hlen := yl_len s 0
    have hpl : pre.length ≤ s.length := by
      have := congrArg List.length hy
      rw [List.length_append] at this
      omega
    repeat (refine ⟨by first | decide | omega, ?_⟩; conv => whnf)
    refine ⟨⟨⟨rfl, by omega, by simp only [ty101]; omega⟩, by omega⟩, ?_⟩
    conv => whnf
    refine ⟨by kernel_rfl, ?_⟩
    conv => whnf
    repeat (refine ⟨by first | decide | omega, ?_⟩; conv => whnf)
    have hpos := firstL_pos (s := s.drop k) (by rw [hf])
    rw [hf] at hpos
    simp only at hpos
    refine ⟨⟨(k + endN (s.drop k), pre ++ [⟨k, 0, (firstL (s.drop k)).1⟩]), by dsimp only; omega, ?_, ?_⟩, [(91, 1000)], by dsimp only; omega, .refl _, ?_, .of_eq ?_, ⟨rfl, rfl, ?_, ?_⟩, trivial⟩
    · dsimp only
      rw [hy, yl_go (by omega) (by rw [hf]), hf, List.append_assoc, List.drop_drop]
      rfl
    · dsimp only
      rw [List.all_append, hok]
      rfl
    · exact .of_eq (by rw [List.length_append]; rfl)
    · dsimp only
      rw [he]
      congr 2
      show (k : Int) + (b2 (s.drop k) 2 : Nat) + (m : Nat) = ((k + (b2 (s.drop k) 2 + m) : Nat) : Int)
      omega
    · simp
    · intro j hj
      dsimp only at hj ⊢
      simp only [fcat]
      split
      · rename_i hlt2
        rw [List.getD_eq_getElem?_getD, List.getD_eq_getElem?_getD, List.getElem?_append_left hlt2]
      · rename_i hge
        have hj2 : j = pre.length := by
          omega
        subst hj2
        rw [hf, Nat.sub_self]
        have e : ∀ r : Rd, (pre ++ [r]).getD pre.length default = r := fun r => by
          rw [List.getD_eq_getElem?_getD, List.getElem?_append_right (Nat.le_refl _), Nat.sub_self]
          rfl
        rw [e]
        have a1 : ((s.getD (Int.toNat k) 0).toNat : Int) * 256 + ((s.getD (Int.toNat (k + 1)) 0).toNat : Int) = (b2 (s.drop k) 0 : Nat) := by
          have := hb 0 (by omega)
          rw [show Int.toNat ((k : Nat) : Int) = k + 0 from by omega, show Int.toNat ((k : Int) + 1) = k + 0 + 1 from by omega]
          omega
        have a2 : cutS s (some ((k : Int) + 4)) (some ((k : Int) + (b2 (s.drop k) 2 : Nat))) = ((s.drop k).take (b2 (s.drop k) 2)).drop 4 := by
          rw [show ((k : Int) + 4) = ((k + 4 : Nat) : Int) from by omega, show ((k : Int) + (b2 (s.drop k) 2 : Nat)) = ((k + b2 (s.drop k) 2 : Nat) : Int) from by omega]
          show (s.take (k + b2 (s.drop k) 2)).drop (k + 4) = _
          rw [List.drop_take, List.drop_take, List.drop_drop]
          congr 1
          omega
        rw [a1, a2]
        rfl
  · have hlt : ¬ k < s.length := by simpa using h1
    obtain rfl : k = s.length := by omega
    have e0 : yl (s.drop s.length) s.length = [] := yl_nil (by simp)
    rw [e0, List.append_nil] at hy
    conv => whnf
    refine ⟨by first | omega | (simp only [Int.toNat_natCast]; omega) | (simp; done) | (simp; omega), ?_⟩
    conv => whnf
    rw [parse_all (by omega) (by rw [hy]; exact hok), hy]
    refine ⟨_, ?_, rfl, rfl⟩
    refine .tup ⟨.sl (by simp) (fun j hj => ?_), .refl _, .refl _, trivial⟩
    simp [hj]
end Go.Proofs.YtcdondbegnbdgaaGreatDoor
