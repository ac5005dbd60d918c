/- The document's answer to chapter 2: the walks, one. Printed by genCrcI.py. -/
import Derived.Test.YtcdondbegnbdgaaGreatDoorCrcI1
namespace Go.Proofs.YtcdondbegnbdgaaGreatDoor.Crc
open Go.RowKit Towline Towline.Crc
set_option linter.unusedVariables false
attribute [local go_sem] xorMax xor32 byte32 low32
theorem refUpdate (c : Nat) (s : ByteArray) (w : World) (hc : c < 4294967296) (hs : s.size ≤ maxLen) :
    Calls Tryz.prog 96 #[.int .u32 (c : Int), .string s] w fun e w' => e = .returned (.int .u32 ((upd c s.data.toList : Nat) : Int)) ∧ w = w' := by
  unfold maxLen at hs
  go_enter Tryz.func96, Tryz.ntmps96
  go_wp2
  go_loop [5, 6] (fun r i => ∃ k : Nat, k ≤ s.size ∧ i = .int .i64 k ∧ r = .int .u32 ((reg (compl c) (s.data.toList.take k) : Nat) : Int)) (fun _ i => s.size - (intOf i).toNat)
  case atStart => exact ⟨0, Nat.zero_le _, rfl, rfl⟩
  case round =>
    obtain ⟨k, hk, rfl, rfl⟩ := hrel
    have hr := reg_lt (compl_lt c) (s.data.toList.take k)
    by_cases hlt : k < s.size
    · have H := Lib.hid (reg_snoc (compl c) (s.data.toList.take k) s[k])
      have hts := Lib.hid (take_snoc s k hlt)
      generalize reg (compl c) (s.data.toList.take k) = r at *
      have hb := byteLt s[k]
      go_wp2
      have hx := xor_lt hr hb
      obtain ⟨x, hxd⟩ : ∃ x, x = r ^^^ s[k].toNat := ⟨_, rfl⟩
      rw [← hxd]
      rw [← hxd] at hx
      have HX := Lib.hid hxd
      clear hxd
      go_loop [5, 7, 8] (fun r i _ => ∃ j : Nat, j ≤ 8 ∧ i = .int .i64 j ∧ r = .int .u32 ((Towline.Crc.bits x j : Nat) : Int)) (fun _ i _ => 8 - (intOf i).toNat)
      case atStart => exact ⟨0, Nat.zero_le _, rfl, rfl⟩
      case round =>
        obtain ⟨j, hj, rfl, rfl⟩ := hrel
        by_cases hj8 : j < 8
        · have hy := bits_lt hx j
          have hn : Hid (Towline.Crc.bits x (j + 1) = bitStep (Towline.Crc.bits x j)) := Lib.hid rfl
          generalize Towline.Crc.bits x j = y at *
          go_wp2
          all_goals
            go_round
            case rel =>
              refine ⟨j + 1, by omega, by go_num, ?_⟩
              rw [hn.out]
              first | rw [bs1 hy (by assumption)] | rw [bs0 (by assumption)]
            case measure => simp [intOf]; omega
        · go_wp2
          go_round
          case rel =>
            refine ⟨k + 1, by omega, by go_num, ?_⟩
            obtain rfl : j = 8 := by omega
            rw [hts.out, H.out, ← HX.out]
          case measure => simp [intOf]; omega
    · go_wp2
      go_ret
      refine ⟨ret_u32 ?_, rfl⟩
      rw [List.take_of_length_le (by simp; omega)]
      rfl
theorem refSum (s : ByteArray) (w : World) (hs : s.size ≤ maxLen) :
    Calls Tryz.prog 64 #[.string s] w fun e w' => e = .returned (.int .u32 ((upd 0 s.data.toList : Nat) : Int)) ∧ w = w' := by
  go_enter Tryz.func64, Tryz.ntmps64
  go_wp2_with (go_at_call 96; refine (refUpdate 0 s _ (by omega) hs).mono ?_; rintro e w' ⟨rfl, rfl⟩)
  go_ret
  exact ⟨rfl, rfl⟩
end Go.Proofs.YtcdondbegnbdgaaGreatDoor.Crc
