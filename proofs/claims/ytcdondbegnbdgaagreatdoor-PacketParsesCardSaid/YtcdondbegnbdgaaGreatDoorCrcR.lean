/- The document's answer to chapter 2: the walks, two. Printed by genCrcI.py. -/
import Derived.Test.YtcdondbegnbdgaaGreatDoorCrcR1
import Derived.Test.YtcdondbegnbdgaaGreatDoorCrcI
namespace Go.Proofs.YtcdondbegnbdgaaGreatDoor.Crc
open Go.RowKit Towline Towline.Crc
set_option linter.unusedVariables false
theorem seal_cat (s : ByteArray) (f : List UInt8) : s.extract 0 8 ++ ⟨f.toArray⟩ ++ s.extract 12 s.size = ⟨(s.data.toList.take 8 ++ f ++ s.data.toList.drop 12).toArray⟩ := by
  have h : ∀ a b : ByteArray, a.data.toList = b.data.toList → a = b := fun a b h => by
    have := congrArg List.toArray h
    cases a; cases b; simpa using this
  apply h
  simp only [ByteArray.data_append, ByteArray.data_extract, Array.toList_append, Array.toList_extract]
  have : s.data.toList.length = s.size := by simp
  simp only [List.extract_eq_take_drop, List.append_assoc]
  simp
  exact List.take_of_length_le (by simp)
theorem refSeal_short (s : ByteArray) (w : World) (hs : s.size < 12) :
    Calls Tryz.prog 37 #[.string s] w fun e w' => e = .returned (.tuple #[.string ⟨#[]⟩, .int .i64 3]) ∧ w = w' := by
  go_enter Tryz.func37, Tryz.ntmps37
  go_wp2
  go_ret2
  exact ⟨rfl, rfl⟩
theorem refSeal_long (s : ByteArray) (w : World) (h12 : 12 ≤ s.size) (hs : s.size ≤ maxLen) :
    Calls Tryz.prog 37 #[.string s] w fun e w' => e = .returned (.tuple #[.string ⟨(sealed s.data.toList).toArray⟩, .int .i64 0]) ∧ Below w.heap.size w w' := by
  unfold maxLen at hs
  have h8 : (8 : Int) ≤ (s.size : Int) := by omega
  have h12' : (12 : Int) ≤ (s.size : Int) := by omega
  have hz : (s.extract 0 8 ++ ⟨#[0, 0, 0, 0]⟩ ++ s.extract 12 s.size).data.toList = zeroed s.data.toList := by
    rw [show (⟨#[0, 0, 0, 0]⟩ : ByteArray) = ⟨[0, 0, 0, 0].toArray⟩ from rfl, seal_cat]; rfl
  obtain ⟨c, hcdef⟩ : ∃ c, c = upd 0 (zeroed s.data.toList) := ⟨_, rfl⟩
  have hS : Hid (∀ w, Calls Tryz.prog 64 #[.string (s.extract 0 8 ++ ⟨#[0, 0, 0, 0]⟩ ++ s.extract 12 s.size)] w fun e w' => e = .returned (.int .u32 (c : Int)) ∧ w = w') := Lib.hid fun w => by
    have := refSum (s.extract 0 8 ++ ⟨#[0, 0, 0, 0]⟩ ++ s.extract 12 s.size) w (by rw [ByteArray.size_append, ByteArray.size_append, ByteArray.size_extract, ByteArray.size_extract]; unfold maxLen; show _ + 4 + _ ≤ _; omega)
    rw [hz, ← hcdef] at this
    exact this
  have hc : c < 4294967296 := by rw [hcdef]; exact upd_lt _ _
  have HC := Lib.hid hcdef
  clear hcdef hz
  have HF : Hid (s.extract 0 8 ++ ⟨(le4 c).toArray⟩ ++ s.extract 12 s.size = ⟨(sealed s.data.toList).toArray⟩) := Lib.hid (by
    rw [seal_cat, sealed, HC.out])
  have a1 := fun (w : World) => run_string_add_sum (P := Tryz.prog) w (s.extract 0 8) ⟨#[0, 0, 0, 0]⟩ (by rw [ByteArray.size_extract]; show _ + 4 ≤ _; omega)
  have a2 := fun (w : World) => run_string_add_sum (P := Tryz.prog) w (s.extract 0 8 ++ ⟨#[0, 0, 0, 0]⟩) (s.extract 12 s.size) (by rw [ByteArray.size_append, ByteArray.size_extract, ByteArray.size_extract]; show _ + 4 + _ ≤ _; omega)
  go_enter Tryz.func37, Tryz.ntmps37
  go_wp2_with fail
  go_quiet ((go_at_call 64; refine quiet_left (hS.out _)))
  go_wp2_with fail
  refine gen_wp ?_
  intro w2 hw2
  have hB : Below w.heap.size w w2 := by rw [hw2]; exact (below_drewN (Below.refl _ _) _).alloc (Nat.le_refl _) _
  have hC : BytesAt w2 w.heap.size (le4 c) := by
    rw [hw2]
    have := bytesAt_new (w.drewN nq) (le4 c) 5
    simp only [le4, List.map_cons, List.map_nil] at this
    rw [← byteOf0, ← byteOf1, ← byteOf2, ← byteOf3, show ((c : Nat) : Int) / (16777216 : Int) % (256 : Int) = ((c : Nat) : Int) / (16777216 : Int) from by omega] at this
    exact this
  clear hw2
  have HB := Lib.hid hB
  clear hB
  have hcv := fun n => (hC.drewN n).run_back (P := Tryz.prog) (cap := 4) Tryz.underlying47 Tryz.underlying5 Tryz.underlying9 (n := 4) rfl
  clear hC
  have a3 := fun (w : World) => run_string_add_sum (P := Tryz.prog) w (s.extract 0 8) ⟨(le4 c).toArray⟩ (by rw [ByteArray.size_extract]; show _ + 4 ≤ _; omega)
  have a4 := fun (w : World) => run_string_add_sum (P := Tryz.prog) w (s.extract 0 8 ++ ⟨(le4 c).toArray⟩) (s.extract 12 s.size) (by rw [ByteArray.size_append, ByteArray.size_extract, ByteArray.size_extract]; show _ + 4 + _ ≤ _; omega)
  go_quiet (fail)
  go_wp2_with fail
  go_ret2
  refine ⟨?_, below_drewN HB.out _⟩
  rw [← HF.out]
  rfl
theorem refCheck_short (s : ByteArray) (w : World) (hs : s.size < 12) :
    Calls Tryz.prog 21 #[.string s] w fun e w' => e = .returned (.int .i64 3) ∧ w = w' := by
  go_enter Tryz.func21, Tryz.ntmps21
  go_wp2_with (go_at_call 37; refine (refSeal_short s _ hs).mono ?_; rintro e w' ⟨rfl, rfl⟩)
  go_ret
  exact ⟨rfl, rfl⟩
theorem refCheck_long (s : ByteArray) (w : World) (h12 : 12 ≤ s.size) (hs : s.size ≤ maxLen) :
    Calls Tryz.prog 21 #[.string s] w fun e w' => e = .returned (.int .i64 (checkNo s.data.toList)) ∧ Below w.heap.size w w' := by
  by_cases h : sealed s.data.toList = s.data.toList
  · have hr : Hid (checkNo s.data.toList = 0) := Lib.hid (if_pos h)
    have hq : (!sealed s.data.toList == s.toList) = false := by rw [ByteArray.toList_eq, h]; simp
    clear h
    go_enter Tryz.func21, Tryz.ntmps21
    go_wp2_with (go_at_call 37; refine (refSeal_long s _ h12 hs).mono ?_; rintro e w' ⟨rfl, hb⟩)
    go_ret
    exact ⟨by rw [hr.out]; rfl, hb⟩
  · have hr : Hid (checkNo s.data.toList = 5) := Lib.hid (if_neg h)
    have hq : (!sealed s.data.toList == s.toList) = true := by rw [ByteArray.toList_eq]; simpa using h
    clear h
    go_enter Tryz.func21, Tryz.ntmps21
    go_wp2_with (go_at_call 37; refine (refSeal_long s _ h12 hs).mono ?_; rintro e w' ⟨rfl, hb⟩)
    go_ret
    exact ⟨by rw [hr.out]; rfl, hb⟩
end Go.Proofs.YtcdondbegnbdgaaGreatDoor.Crc
