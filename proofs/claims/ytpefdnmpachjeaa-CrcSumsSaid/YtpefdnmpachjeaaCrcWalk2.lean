/- The walks of crc.Sum, Seal, Check and of their twins in the reference. -/
import Derived.Test.YtpefdnmpachjeaaCrcWalk1
import Derived.Deep.QuietTactic
import Derived.BigQuiet
namespace Go.Proofs.Ytpefdnmpachjeaa.Crc
open Go.RowKit Towline Towline.Crc
set_option linter.unusedVariables false

theorem sum (s : ByteArray) (w : World) (hs : s.size ≤ maxLen) :
    Calls Try.prog 12 #[.string s] w fun e w' => e = .returned (.int .u32 ((upd 0 s.data.toList : Nat) : Int)) ∧ Below w.heap.size w w' := by
  go_enter Try.func12, Try.ntmps12
  go_wp2_with (go_at_call 10; refine (update 0 s _ (by omega) hs).mono ?_; rintro e w' ⟨rfl, hb⟩)
  go_ret
  exact ⟨rfl, hb⟩
theorem byteOf (c k : Nat) : ((c : Nat) : Int) / 2 ^ (8 * k) % 256 = (((UInt8.ofNat (c >>> (8 * k))).toNat : Nat) : Int) := by
  rw [Nat.shiftRight_eq_div_pow, UInt8.toNat_ofNat']
  simp
theorem byteOf0 (c : Nat) : ((c : Nat) : Int) % 256 = (((UInt8.ofNat c).toNat : Nat) : Int) := by rw [UInt8.toNat_ofNat']; simp
theorem byteOf1 (c : Nat) : ((c : Nat) : Int) / (256 : Int) % (256 : Int) = (((UInt8.ofNat (c >>> 8)).toNat : Nat) : Int) := by
  rw [Nat.shiftRight_eq_div_pow, UInt8.toNat_ofNat']; simp
theorem byteOf2 (c : Nat) : ((c : Nat) : Int) / (65536 : Int) % (256 : Int) = (((UInt8.ofNat (c >>> 16)).toNat : Nat) : Int) := by
  rw [Nat.shiftRight_eq_div_pow, UInt8.toNat_ofNat']; simp
theorem byteOf3 (c : Nat) : ((c : Nat) : Int) / (16777216 : Int) % (256 : Int) = (((UInt8.ofNat (c >>> 24)).toNat : Nat) : Int) := by
  rw [Nat.shiftRight_eq_div_pow, UInt8.toNat_ofNat']; simp
theorem zero5 (w : World) : (zeroValue 5).run Try.prog w = .ok (.int .u8 0) w := by kernel_rfl
theorem seal_short (s : ByteArray) (w : World) (hs : s.size < 12) :
    Calls Try.prog 14 #[.string s] w fun e w' => e = .returned (.tuple #[.string ⟨#[]⟩, .int .i64 3]) ∧ w = w' := by
  go_enter Try.func14, Try.ntmps14
  go_wp2
  go_ret2
  exact ⟨rfl, rfl⟩
theorem seal_long (s : ByteArray) (w : World) (h12 : 12 ≤ s.size) (hs : s.size ≤ maxLen) :
    Calls Try.prog 14 #[.string s] w fun e w' => e = .returned (.tuple #[.string ⟨(sealed s.data.toList).toArray⟩, .int .i64 0]) ∧ Below w.heap.size w w' := by
  unfold maxLen at hs
  have h12' : 12 ≤ s.data.toList.length := by simpa using h12
  go_enter Try.func14, Try.ntmps14
  go_wp2_with (first | (with_reducible refine wpList_bytesOf Try.underlying9 Try.underlying32 Try.underlying5 rfl ?_; intro cap w2 hle hb2 hz2 hB2) | (with_reducible refine wpList_clear Try.underlying32 zero5 rfl (by omega) hB2 (by omega) ?_; intro w3 hb3 hz3 hB3) | (with_reducible refine wpList_stringOf Try.underlying32 Try.underlying5 Try.underlying9 rfl hB3 (by rw [wiped_length (by omega)]; simp) ?_) | (go_at_call 12; refine (sum _ _ ?_).mono ?_; rotate_left; rintro e w4 ⟨rfl, hb4⟩; rotate_right))
  · show (wiped s.data.toList 8 4).toArray.size ≤ maxLen
    rw [List.size_toArray, wiped_length (by omega)]; unfold maxLen; simpa using hs
  show Code.wp _ _ _ _ _
  have hw : wiped s.data.toList 8 4 = zeroed s.data.toList := rfl
  rw [hw]
  rw [hw] at hB3
  have hB4 : Hid (BytesAt w4 w.heap.size (zeroed s.data.toList)) := Lib.hid (hB3.out.below hb4 hB3.out.1)
  have hX : Below w.heap.size w w4 := hb2.trans ((hb3 _ (Nat.le_refl _)).trans (hb4.mono (by omega)))
  have hcl := upd_lt 0 (zeroed s.data.toList)
  have hfill := Lib.hid (filled_four h12')
  have hfl := filled_length h12' (upd 0 (zeroed s.data.toList))
  have hf0 : Hid (zeroed s.data.toList = filled s.data.toList (upd 0 (zeroed s.data.toList)) 0) := Lib.hid rfl
  have hsz := Lib.hid (show s.data.toList.length = s.size from by simp)
  clear hB3 hb4 hb3 hz3 hB2 hz2 hb2 hw
  generalize upd 0 (zeroed s.data.toList) = c at *
  have HFL := Lib.hid hfl
  clear hfl
  go_loopw [6, 17] (fun _ i wr => ∃ k : Nat, k ≤ 4 ∧ i = .int .i64 k ∧ Below w.heap.size w wr ∧ Hid (BytesAt wr w.heap.size (filled s.data.toList c k))) (fun _ i _ => 4 - (intOf i).toNat)
  case atStart => exact ⟨0, by omega, rfl, hX, by rw [← hf0.out]; exact hB4⟩
  case round =>
    obtain ⟨k, hk, rfl, hb, ht⟩ := hrel
    by_cases hlt : k < 4
    · have hin : 8 + k < (filled s.data.toList c k).length := by rw [HFL.out, hsz.out]; omega
      have hc1 := ht.out.cell hin
      have hc2 := ht.out.free hin
      go_wp2
      go_roundw
      case rel =>
        refine ⟨k + 1, by omega, by go_num, hb.setCell (Nat.le_refl _) _, ?_⟩
        rw [byteOf]
        exact Lib.hid (ht.out.set (8 + k) _)
      case measure => simp [intOf]; omega
    · have hk4 : k = 4 := by omega
      subst hk4
      go_wp2_with (with_reducible refine wpList_stringOf Try.underlying32 Try.underlying5 Try.underlying9 rfl ht (by rw [HFL.out, hsz.out]) ?_)
      go_ret2
      rw [hfill.out]
      exact ⟨rfl, hb⟩
theorem check_short (s : ByteArray) (w : World) (hs : s.size < 12) :
    Calls Try.prog 16 #[.string s] w fun e w' => e = .returned (.int .i64 3) ∧ w = w' := by
  go_enter Try.func16, Try.ntmps16
  go_wp2_with (go_at_call 14; refine (seal_short s _ hs).mono ?_; rintro e w' ⟨rfl, rfl⟩)
  go_ret
  exact ⟨rfl, rfl⟩
def checkNo (l : List UInt8) : Int := if sealed l = l then 0 else 5
theorem check_long (s : ByteArray) (w : World) (h12 : 12 ≤ s.size) (hs : s.size ≤ maxLen) :
    Calls Try.prog 16 #[.string s] w fun e w' => e = .returned (.int .i64 (checkNo s.data.toList)) ∧ Below w.heap.size w w' := by
  by_cases h : sealed s.data.toList = s.data.toList
  · have hr : Hid (checkNo s.data.toList = 0) := Lib.hid (if_pos h)
    have hq : (!sealed s.data.toList == s.toList) = false := by rw [ByteArray.toList_eq, h]; simp
    clear h
    go_enter Try.func16, Try.ntmps16
    go_wp2_with (go_at_call 14; refine (seal_long s _ h12 hs).mono ?_; rintro e w' ⟨rfl, hb⟩)
    go_ret
    exact ⟨by rw [hr.out]; rfl, hb⟩
  · have hr : Hid (checkNo s.data.toList = 5) := Lib.hid (if_neg h)
    have hq : (!sealed s.data.toList == s.toList) = true := by rw [ByteArray.toList_eq]; simpa using h
    clear h
    go_enter Try.func16, Try.ntmps16
    go_wp2_with (go_at_call 14; refine (seal_long s _ h12 hs).mono ?_; rintro e w' ⟨rfl, hb⟩)
    go_ret
    exact ⟨by rw [hr.out]; rfl, hb⟩
theorem seal_cat (s : ByteArray) (f : List UInt8) : s.extract 0 8 ++ ⟨f.toArray⟩ ++ s.extract 12 s.size = ⟨(s.data.toList.take 8 ++ f ++ s.data.toList.drop 12).toArray⟩ := by
  have h : ∀ a b : ByteArray, a.data.toList = b.data.toList → a = b := fun a b h => by
    have := congrArg List.toArray h
    cases a; cases b; simpa using this
  apply h
  simp only [ByteArray.data_append, ByteArray.data_extract, Array.toList_append, Array.toList_extract]
  have : s.data.toList.length = s.size := by simp
  simp only [List.extract_eq_take_drop, List.append_assoc]
  simp
  exact List.take_of_length_le (by simp)
theorem refSeal_short (s : ByteArray) (w : World) (hs : s.size < 12) :
    Calls Try.prog 15 #[.string s] w fun e w' => e = .returned (.tuple #[.string ⟨#[]⟩, .int .i64 3]) ∧ w = w' := by
  go_enter Try.func15, Try.ntmps15
  go_wp2
  go_ret2
  exact ⟨rfl, rfl⟩
theorem refSeal_long (s : ByteArray) (w : World) (h12 : 12 ≤ s.size) (hs : s.size ≤ maxLen) :
    Calls Try.prog 15 #[.string s] w fun e w' => e = .returned (.tuple #[.string ⟨(sealed s.data.toList).toArray⟩, .int .i64 0]) ∧ Below w.heap.size w w' := by
  unfold maxLen at hs
  have h8 : (8 : Int) ≤ (s.size : Int) := by omega
  have h12' : (12 : Int) ≤ (s.size : Int) := by omega
  have hz : (s.extract 0 8 ++ ⟨#[0, 0, 0, 0]⟩ ++ s.extract 12 s.size).data.toList = zeroed s.data.toList := by
    rw [show (⟨#[0, 0, 0, 0]⟩ : ByteArray) = ⟨[0, 0, 0, 0].toArray⟩ from rfl, seal_cat]; rfl
  obtain ⟨c, hcdef⟩ : ∃ c, c = upd 0 (zeroed s.data.toList) := ⟨_, rfl⟩
  have hS : Hid (∀ w, Calls Try.prog 13 #[.string (s.extract 0 8 ++ ⟨#[0, 0, 0, 0]⟩ ++ s.extract 12 s.size)] w fun e w' => e = .returned (.int .u32 (c : Int)) ∧ w = w') := Lib.hid fun w => by
    have := refSum (s.extract 0 8 ++ ⟨#[0, 0, 0, 0]⟩ ++ s.extract 12 s.size) w (by rw [ByteArray.size_append, ByteArray.size_append, ByteArray.size_extract, ByteArray.size_extract]; unfold maxLen; show _ + 4 + _ ≤ _; omega)
    rw [hz, ← hcdef] at this
    exact this
  have hc : c < 4294967296 := by rw [hcdef]; exact upd_lt _ _
  have HC := Lib.hid hcdef
  clear hcdef hz
  have HF : Hid (s.extract 0 8 ++ ⟨(le4 c).toArray⟩ ++ s.extract 12 s.size = ⟨(sealed s.data.toList).toArray⟩) := Lib.hid (by
    rw [seal_cat, sealed, HC.out])
  have a1 := fun (w : World) => run_string_add_sum (P := Try.prog) w (s.extract 0 8) ⟨#[0, 0, 0, 0]⟩ (by rw [ByteArray.size_extract]; show _ + 4 ≤ _; omega)
  have a2 := fun (w : World) => run_string_add_sum (P := Try.prog) w (s.extract 0 8 ++ ⟨#[0, 0, 0, 0]⟩) (s.extract 12 s.size) (by rw [ByteArray.size_append, ByteArray.size_extract, ByteArray.size_extract]; show _ + 4 + _ ≤ _; omega)
  go_enter Try.func15, Try.ntmps15
  go_wp2_with fail
  go_quiet ((go_at_call 13; refine quiet_left (hS.out _)))
  go_wp2_with fail
  refine gen_wp ?_
  intro w2 hw2
  have hB : Below w.heap.size w w2 := by rw [hw2]; exact (below_drewN (Below.refl _ _) _).alloc (Nat.le_refl _) _
  have hC : BytesAt w2 w.heap.size (le4 c) := by
    rw [hw2]
    have := bytesAt_new (w.drewN nq) (le4 c) 5
    simp only [le4, List.map_cons, List.map_nil] at this
    rw [← byteOf0, ← byteOf1, ← byteOf2, ← byteOf3, show ((c : Nat) : Int) / (16777216 : Int) % (256 : Int) = ((c : Nat) : Int) / (16777216 : Int) from by omega] at this
    exact this
  clear hw2
  have HB := Lib.hid hB
  clear hB
  have hcv := fun n => (hC.drewN n).run_back (P := Try.prog) (cap := 4) Try.underlying32 Try.underlying5 Try.underlying9 (n := 4) rfl
  clear hC
  have a3 := fun (w : World) => run_string_add_sum (P := Try.prog) w (s.extract 0 8) ⟨(le4 c).toArray⟩ (by rw [ByteArray.size_extract]; show _ + 4 ≤ _; omega)
  have a4 := fun (w : World) => run_string_add_sum (P := Try.prog) w (s.extract 0 8 ++ ⟨(le4 c).toArray⟩) (s.extract 12 s.size) (by rw [ByteArray.size_append, ByteArray.size_extract, ByteArray.size_extract]; show _ + 4 + _ ≤ _; omega)
  go_quiet (fail)
  go_wp2_with fail
  go_ret2
  refine ⟨?_, below_drewN HB.out _⟩
  rw [← HF.out]
  rfl
theorem refCheck_short (s : ByteArray) (w : World) (hs : s.size < 12) :
    Calls Try.prog 17 #[.string s] w fun e w' => e = .returned (.int .i64 3) ∧ w = w' := by
  go_enter Try.func17, Try.ntmps17
  go_wp2_with (go_at_call 15; refine (refSeal_short s _ hs).mono ?_; rintro e w' ⟨rfl, rfl⟩)
  go_ret
  exact ⟨rfl, rfl⟩
theorem refCheck_long (s : ByteArray) (w : World) (h12 : 12 ≤ s.size) (hs : s.size ≤ maxLen) :
    Calls Try.prog 17 #[.string s] w fun e w' => e = .returned (.int .i64 (checkNo s.data.toList)) ∧ Below w.heap.size w w' := by
  by_cases h : sealed s.data.toList = s.data.toList
  · have hr : Hid (checkNo s.data.toList = 0) := Lib.hid (if_pos h)
    have hq : (!sealed s.data.toList == s.toList) = false := by rw [ByteArray.toList_eq, h]; simp
    clear h
    go_enter Try.func17, Try.ntmps17
    go_wp2_with (go_at_call 15; refine (refSeal_long s _ h12 hs).mono ?_; rintro e w' ⟨rfl, hb⟩)
    go_ret
    exact ⟨by rw [hr.out]; rfl, hb⟩
  · have hr : Hid (checkNo s.data.toList = 5) := Lib.hid (if_neg h)
    have hq : (!sealed s.data.toList == s.toList) = true := by rw [ByteArray.toList_eq]; simpa using h
    clear h
    go_enter Try.func17, Try.ntmps17
    go_wp2_with (go_at_call 15; refine (refSeal_long s _ h12 hs).mono ?_; rintro e w' ⟨rfl, hb⟩)
    go_ret
    exact ⟨by rw [hr.out]; rfl, hb⟩
def zeros12 : List UInt8 := [0, 0, 0, 0, 0, 0, 0, 0, 0, 0, 0, 0]
def s12 : ByteArray := ⟨(sealed zeros12).toArray⟩
theorem shown_seal (w : World) : Calls Try.prog 14 #[.string ⟨#[0, 0, 0, 0, 0, 0, 0, 0, 0, 0, 0, 0]⟩] w fun e w' => e = .returned (.tuple #[.string s12, .int .i64 0]) ∧ Below w.heap.size w w' :=
  seal_long ⟨#[0, 0, 0, 0, 0, 0, 0, 0, 0, 0, 0, 0]⟩ w (by decide) (by decide)
theorem shown_sum (w : World) : Calls Try.prog 12 #[.string ⟨#[49, 50, 51, 52, 53, 54, 55, 56, 57]⟩] w fun e w' => e = .returned (.int .u32 3808858755) ∧ Below w.heap.size w w' := by
  have h : ((upd 0 (⟨#[49, 50, 51, 52, 53, 54, 55, 56, 57]⟩ : ByteArray).data.toList : Nat) : Int) = 3808858755 := by decide +kernel
  rw [← h]
  exact sum _ w (by decide)
theorem shown_none (w : World) : Calls Try.prog 12 #[.string ⟨#[]⟩] w fun e w' => e = .returned (.int .u32 0) ∧ Below w.heap.size w w' := by
  have h : ((upd 0 (⟨#[]⟩ : ByteArray).data.toList : Nat) : Int) = 0 := by decide +kernel
  rw [← h]
  exact sum _ w (by decide)
theorem shown_check (w : World) : Calls Try.prog 16 #[.string s12] w fun e w' => e = .returned (.int .i64 0) ∧ Below w.heap.size w w' := by
  have h : checkNo s12.data.toList = 0 := by decide +kernel
  rw [← h]
  exact check_long s12 w (by decide +kernel) (by decide +kernel)
theorem shown_short (w : World) : Calls Try.prog 16 #[.string ⟨#[49, 50, 51, 52, 53, 54, 55, 56, 57, 48, 49]⟩] w fun e w' => e = .returned (.int .i64 3) ∧ w = w' :=
  check_short _ w (by decide)
set_option maxRecDepth 100000 in
theorem shown_calls (w : World) :
    Calls Try.prog 9 #[] w fun e w' => e = .returned (.bool true) ∧ Below w.heap.size w w' := by
  go_enter Try.func9, Try.ntmps9
  go_wp2_with fail
  refine (shown_seal _).mono ?_
  rintro e w1 ⟨rfl, hb1⟩
  go_wp2_with fail
  refine (shown_sum _).mono ?_
  rintro e w2 ⟨rfl, hb2⟩
  go_wp2_with fail
  refine (shown_none _).mono ?_
  rintro e w3 ⟨rfl, hb3⟩
  go_wp2_with fail
  refine (shown_check _).mono ?_
  rintro e w4 ⟨rfl, hb4⟩
  go_wp2_with fail
  refine (shown_short _).mono ?_
  rintro e w5 ⟨rfl, rfl⟩
  go_wp2_with fail
  go_ret
  exact ⟨rfl, hb1.trans ((hb2.mono hb1.size).trans ((hb3.mono (by have := hb1.size; have := hb2.size; omega)).trans (hb4.mono (by have := hb1.size; have := hb2.size; have := hb3.size; omega))))⟩
end Go.Proofs.Ytpefdnmpachjeaa.Crc
