/- Package crc: the walks, two. Printed by genCrcI.py. -/
import Derived.Test.YtcdondbegnbdgaaDoorCrcI1
import Derived.Deep.QuietTactic
import Derived.BigQuiet
namespace Go.Proofs.YtcdondbegnbdgaaDoor.Crc
open Go.RowKit Towline Towline.Crc
set_option linter.unusedVariables false
theorem sum (s : ByteArray) (w : World) (hs : s.size ≤ maxLen) :
    Calls Tryd.prog 41 #[.string s] w fun e w' => e = .returned (.int .u32 ((upd 0 s.data.toList : Nat) : Int)) ∧ Below w.heap.size w w' := by
  go_enter Tryd.func41, Tryd.ntmps41
  go_wp2_with (go_at_call 58; refine (update 0 s _ (by omega) hs).mono ?_; rintro e w' ⟨rfl, hb⟩)
  go_ret
  exact ⟨rfl, hb⟩
theorem byteOf (c k : Nat) : ((c : Nat) : Int) / 2 ^ (8 * k) % 256 = (((UInt8.ofNat (c >>> (8 * k))).toNat : Nat) : Int) := by
  rw [Nat.shiftRight_eq_div_pow, UInt8.toNat_ofNat']
  simp
theorem byteOf0 (c : Nat) : ((c : Nat) : Int) % 256 = (((UInt8.ofNat c).toNat : Nat) : Int) := by rw [UInt8.toNat_ofNat']; simp
theorem byteOf1 (c : Nat) : ((c : Nat) : Int) / (256 : Int) % (256 : Int) = (((UInt8.ofNat (c >>> 8)).toNat : Nat) : Int) := by
  rw [Nat.shiftRight_eq_div_pow, UInt8.toNat_ofNat']; simp
theorem byteOf2 (c : Nat) : ((c : Nat) : Int) / (65536 : Int) % (256 : Int) = (((UInt8.ofNat (c >>> 16)).toNat : Nat) : Int) := by
  rw [Nat.shiftRight_eq_div_pow, UInt8.toNat_ofNat']; simp
theorem byteOf3 (c : Nat) : ((c : Nat) : Int) / (16777216 : Int) % (256 : Int) = (((UInt8.ofNat (c >>> 24)).toNat : Nat) : Int) := by
  rw [Nat.shiftRight_eq_div_pow, UInt8.toNat_ofNat']; simp
theorem zero5 (w : World) : (zeroValue 5).run Tryd.prog w = .ok (.int .u8 0) w := by kernel_rfl
theorem seal_short (s : ByteArray) (w : World) (hs : s.size < 12) :
    Calls Tryd.prog 26 #[.string s] w fun e w' => e = .returned (.tuple #[.string ⟨#[]⟩, .int .i64 3]) ∧ w = w' := by
  go_enter Tryd.func26, Tryd.ntmps26
  go_wp2
  go_ret2
  exact ⟨rfl, rfl⟩
theorem seal_long (s : ByteArray) (w : World) (h12 : 12 ≤ s.size) (hs : s.size ≤ maxLen) :
    Calls Tryd.prog 26 #[.string s] w fun e w' => e = .returned (.tuple #[.string ⟨(sealed s.data.toList).toArray⟩, .int .i64 0]) ∧ Below w.heap.size w w' := by
  unfold maxLen at hs
  have h12' : 12 ≤ s.data.toList.length := by simpa using h12
  go_enter Tryd.func26, Tryd.ntmps26
  go_wp2_with (first | (with_reducible refine wpList_bytesOf Tryd.underlying9 Tryd.underlying49 Tryd.underlying5 rfl ?_; intro cap w2 hle hb2 hz2 hB2) | (with_reducible refine wpList_clear Tryd.underlying49 zero5 rfl (by omega) hB2 (by omega) ?_; intro w3 hb3 hz3 hB3) | (with_reducible refine wpList_stringOf Tryd.underlying49 Tryd.underlying5 Tryd.underlying9 rfl hB3 (by rw [wiped_length (by omega)]; simp) ?_) | (go_at_call 41; refine (sum _ _ ?_).mono ?_; rotate_left; rintro e w4 ⟨rfl, hb4⟩; rotate_right))
  · show (wiped s.data.toList 8 4).toArray.size ≤ maxLen
    rw [List.size_toArray, wiped_length (by omega)]; unfold maxLen; simpa using hs
  show Code.wp _ _ _ _ _
  have hw : wiped s.data.toList 8 4 = zeroed s.data.toList := rfl
  rw [hw]
  rw [hw] at hB3
  have hB4 : Hid (BytesAt w4 w.heap.size (zeroed s.data.toList)) := Lib.hid (hB3.out.below hb4 hB3.out.1)
  have hX : Below w.heap.size w w4 := hb2.trans ((hb3 _ (Nat.le_refl _)).trans (hb4.mono (by omega)))
  have hcl := upd_lt 0 (zeroed s.data.toList)
  have hfill := Lib.hid (filled_four h12')
  have hfl := filled_length h12' (upd 0 (zeroed s.data.toList))
  have hf0 : Hid (zeroed s.data.toList = filled s.data.toList (upd 0 (zeroed s.data.toList)) 0) := Lib.hid rfl
  have hsz := Lib.hid (show s.data.toList.length = s.size from by simp)
  clear hB3 hb4 hb3 hz3 hB2 hz2 hb2 hw
  generalize upd 0 (zeroed s.data.toList) = c at *
  have HFL := Lib.hid hfl
  clear hfl
  go_loopw [6, 17] (fun _ i wr => ∃ k : Nat, k ≤ 4 ∧ i = .int .i64 k ∧ Below w.heap.size w wr ∧ Hid (BytesAt wr w.heap.size (filled s.data.toList c k))) (fun _ i _ => 4 - (intOf i).toNat)
  case atStart => exact ⟨0, by omega, rfl, hX, by rw [← hf0.out]; exact hB4⟩
  case round =>
    obtain ⟨k, hk, rfl, hb, ht⟩ := hrel
    by_cases hlt : k < 4
    · have hin : 8 + k < (filled s.data.toList c k).length := by rw [HFL.out, hsz.out]; omega
      have hc1 := ht.out.cell hin
      have hc2 := ht.out.free hin
      go_wp2
      go_roundw
      case rel =>
        refine ⟨k + 1, by omega, by go_num, hb.setCell (Nat.le_refl _) _, ?_⟩
        rw [byteOf]
        exact Lib.hid (ht.out.set (8 + k) _)
      case measure => simp [intOf]; omega
    · have hk4 : k = 4 := by omega
      subst hk4
      go_wp2_with (with_reducible refine wpList_stringOf Tryd.underlying49 Tryd.underlying5 Tryd.underlying9 rfl ht (by rw [HFL.out, hsz.out]) ?_)
      go_ret2
      rw [hfill.out]
      exact ⟨rfl, hb⟩
theorem check_short (s : ByteArray) (w : World) (hs : s.size < 12) :
    Calls Tryd.prog 16 #[.string s] w fun e w' => e = .returned (.int .i64 3) ∧ w = w' := by
  go_enter Tryd.func16, Tryd.ntmps16
  go_wp2_with (go_at_call 26; refine (seal_short s _ hs).mono ?_; rintro e w' ⟨rfl, rfl⟩)
  go_ret
  exact ⟨rfl, rfl⟩
def checkNo (l : List UInt8) : Int := if sealed l = l then 0 else 5
theorem check_long (s : ByteArray) (w : World) (h12 : 12 ≤ s.size) (hs : s.size ≤ maxLen) :
    Calls Tryd.prog 16 #[.string s] w fun e w' => e = .returned (.int .i64 (checkNo s.data.toList)) ∧ Below w.heap.size w w' := by
  by_cases h : sealed s.data.toList = s.data.toList
  · have hr : Hid (checkNo s.data.toList = 0) := Lib.hid (if_pos h)
    have hq : (!sealed s.data.toList == s.toList) = false := by rw [ByteArray.toList_eq, h]; simp
    clear h
    go_enter Tryd.func16, Tryd.ntmps16
    go_wp2_with (go_at_call 26; refine (seal_long s _ h12 hs).mono ?_; rintro e w' ⟨rfl, hb⟩)
    go_ret
    exact ⟨by rw [hr.out]; rfl, hb⟩
  · have hr : Hid (checkNo s.data.toList = 5) := Lib.hid (if_neg h)
    have hq : (!sealed s.data.toList == s.toList) = true := by rw [ByteArray.toList_eq]; simpa using h
    clear h
    go_enter Tryd.func16, Tryd.ntmps16
    go_wp2_with (go_at_call 26; refine (seal_long s _ h12 hs).mono ?_; rintro e w' ⟨rfl, hb⟩)
    go_ret
    exact ⟨by rw [hr.out]; rfl, hb⟩
end Go.Proofs.YtcdondbegnbdgaaDoor.Crc
