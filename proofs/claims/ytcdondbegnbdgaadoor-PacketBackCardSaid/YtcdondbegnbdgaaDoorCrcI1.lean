/- Package crc: the walks, one. Printed by genCrcI.py. -/
import Derived.Test.YtcdondbegnbdgaaDoorChecked
import Derived.Test.YtcdondbegnbdgaaDoorCrcPure
import Derived.Test.YtcdondbegnbdgaaDoorOps
namespace Go.Proofs.YtcdondbegnbdgaaDoor.Crc
open Go.RowKit Towline Towline.Crc
set_option linter.unusedVariables false
theorem xorMax {c : Nat} (h : c < 4294967296) : bits .xor .u32 IntKind.u32.max (c : Int) = ((compl c : Nat) : Int) := by
  have : IntKind.u32.max = ((4294967295 : Nat) : Int) := rfl
  rw [this, u32_xor_nat _ _ (by omega) h, Nat.xor_comm, ← compl_xor h]
theorem ret_u32 {a b : Nat} (h : a = b) : Ending.returned (.int .u32 (a : Int)) = .returned (.int .u32 (b : Int)) := by rw [h]
theorem take_snoc (s : ByteArray) (k : Nat) (h : k < s.size) : s.data.toList.take (k + 1) = s.data.toList.take k ++ [s[k]] := by
  rw [List.take_succ_eq_append_getElem (by simpa using h)]; rfl
theorem reg_snoc (r : Nat) (l : List UInt8) (c : UInt8) : reg r (l ++ [c]) = Towline.Crc.bits (reg r l ^^^ c.toNat) 8 := by
  rw [reg_append]; rfl

theorem xor32 {a b : Nat} (ha : a < 4294967296) (hb : b < 4294967296) : bits .xor .u32 (a : Int) (b : Int) = ((a ^^^ b : Nat) : Int) := u32_xor_nat a b ha hb
theorem byte32 (x : UInt8) : ((x.toNat : Nat) : Int) % 4294967296 = ((x.toNat : Nat) : Int) := by
  have := x.toNat_lt; omega
theorem byteLt (x : UInt8) : x.toNat < 4294967296 := by have := x.toNat_lt; omega
theorem low32 {a : Nat} (ha : a < 4294967296) : bits .and .u32 (a : Int) 1 = ((a % 2 : Nat) : Int) := by
  rw [show (1 : Int) = ((1 : Nat) : Int) from rfl, u32_and_nat _ _ ha (by omega), nat_mask1]

theorem half32 (y : Nat) : ((y : Nat) : Int) / (2 : Int) = ((y >>> 1 : Nat) : Int) := by rw [Nat.shiftRight_eq_div_pow]; omega
theorem bs1 {y : Nat} (hy : y < 4294967296) (h : ((y : Int) % 2 == 1) = true) : bits .xor .u32 ((y : Int) / 2) 2197175160 = ((bitStep y : Nat) : Int) := by
  simp only [beq_iff_eq] at h
  have hs : y >>> 1 < 4294967296 := by rw [Nat.shiftRight_eq_div_pow]; omega
  rw [half32, show (2197175160 : Int) = ((2197175160 : Nat) : Int) from rfl, xor32 hs (by omega), bitStep, if_pos (by omega)]
theorem bs0 {y : Nat} (h : ((y : Int) % 2 == 1) = false) : (y : Int) / 2 = ((bitStep y : Nat) : Int) := by
  simp only [beq_eq_false_iff_ne, ne_eq] at h
  rw [half32, bitStep, if_neg (by omega)]
attribute [local go_sem] xorMax xor32 byte32 low32
def zeroCells : Array Value := Array.replicate 256 (.int .u32 0)
theorem zero40 (w : World) : (zeroValue 144).run Tryd.prog w = .ok (.agg zeroCells) w := by kernel_rfl
/-- Block b is the table, its first k places filled. -/
def IsTab (w : World) (b k : Nat) : Prop := w.heap.size = b + 1 ∧ ∀ i, i < 256 → w.cell? ⟨b, i, none⟩ = some (.int .u32 ((if i < k then tab i else 0 : Nat) : Int)) ∧ w.frozen? ⟨b, i, none⟩ = false
theorem isTab_new (w : World) : IsTab (w.alloc (.cells zeroCells 144)) w.heap.size 0 := by
  refine ⟨by simp, fun i hi => ?_⟩
  simp [World.cell?_alloc_new, zeroCells, hi]
theorem isTab_set {w : World} {b k : Nat} (h : IsTab w b k) : IsTab (w.setCell ⟨b, k, none⟩ (.int .u32 ((tab k : Nat) : Int))) b (k + 1) := by
  refine ⟨by simpa [World.setCell] using h.1, fun i hi => ?_⟩
  obtain ⟨h1, h2⟩ := h.2 i hi
  refine ⟨?_, by rw [World.frozen?_setCell]; exact h2⟩
  by_cases e : i = k
  · subst e
    rw [World.cell?_setCell_same _ _ _ h1, if_pos (by omega)]
  · rw [World.cell?_setCell_other _ _ _ _ (by intro e2; injection e2 with _ e3; exact e e3.symm), h1]
    by_cases h3 : i < k
    · rw [if_pos h3, if_pos (by omega)]
    · rw [if_neg h3, if_neg (by omega)]
set_option maxRecDepth 100000 in
theorem table_calls (w : World) :
    Calls Tryd.prog 75 #[] w fun e w' => e = .returned (.pointer (some ⟨w.heap.size, 0, none⟩)) ∧ Below w.heap.size w w' ∧ IsTab w' w.heap.size 256 := by
  have hz := zero40
  have T0 := Lib.hid (isTab_new w)
  go_enter Tryd.func75, Tryd.ntmps75
  go_wp2
  go_loopw [2, 3, 4] (fun _ _ i wr => ∃ k : Nat, k ≤ 256 ∧ i = .int .i64 k ∧ Below w.heap.size w wr ∧ Hid (IsTab wr w.heap.size k)) (fun _ _ i _ => 256 - (intOf i).toNat)
  case atStart => exact ⟨0, by omega, rfl, (Below.refl _ _).alloc (Nat.le_refl _) _, T0⟩
  case round =>
    obtain ⟨k, hk, rfl, hb, ht⟩ := hrel
    by_cases hlt : k < 256
    · go_wp2
      go_loop [3, 9] (fun r i => ∃ j : Nat, j ≤ 8 ∧ i = .int .i64 j ∧ r = .int .u32 ((Towline.Crc.bits k j : Nat) : Int)) (fun _ i => 8 - (intOf i).toNat)
      case atStart => exact ⟨0, Nat.zero_le _, rfl, rfl⟩
      case round =>
        obtain ⟨j, hj, rfl, rfl⟩ := hrel
        by_cases hj8 : j < 8
        · have hy := bits_lt (show k < 4294967296 from by omega) j
          have hn : Hid (Towline.Crc.bits k (j + 1) = bitStep (Towline.Crc.bits k j)) := Lib.hid rfl
          generalize Towline.Crc.bits k j = y at *
          go_wp2
          all_goals
            go_round
            case rel =>
              refine ⟨j + 1, by omega, by go_num, ?_⟩
              rw [hn.out]
              first | rw [bs1 hy (by assumption)] | rw [bs0 (by assumption)]
            case measure => simp [intOf]; omega
        · obtain ⟨hc, hf⟩ := ht.out.2 k hlt
          go_wp2
          go_roundw
          case rel =>
            refine ⟨k + 1, by omega, by go_num, hb.setCell (Nat.le_refl _) _, ?_⟩
            obtain rfl : j = 8 := by omega
            exact Lib.hid (isTab_set ht.out)
          case measure => simp [intOf]; omega
    · go_wp2
      go_ret
      obtain rfl : k = 256 := by omega
      exact ⟨rfl, hb, ht.out⟩
theorem byte_getD (s : ByteArray) (k : Nat) (h : k < s.size) : s.data.toList.getD k 0 = s[k] := by
  have h' : k < s.data.toList.length := by simpa using h
  rw [List.getD_eq_getElem?_getD, List.getElem?_eq_getElem h']; rfl
theorem shr8 (r : Nat) : ((r : Nat) : Int) / (256 : Int) = ((r >>> 8 : Nat) : Int) := by rw [Nat.shiftRight_eq_div_pow]; omega
theorem xor8 {a b : Nat} (ha : a < 256) (hb : b < 256) : bits .xor .u8 (a : Int) (b : Int) = ((a ^^^ b : Nat) : Int) := u8_xor_nat a b ha hb
set_option maxRecDepth 100000 in
theorem update (c : Nat) (s : ByteArray) (w : World) (hc : c < 4294967296) (hs : s.size ≤ maxLen) :
    Calls Tryd.prog 58 #[.int .u32 (c : Int), .string s] w fun e w' => e = .returned (.int .u32 ((upd c s.data.toList : Nat) : Int)) ∧ Below w.heap.size w w' := by
  unfold maxLen at hs
  go_enter Tryd.func58, Tryd.ntmps58
  go_wp2_with (first | (go_at_call 75; refine (table_calls _).mono ?_; rintro e w1 ⟨rfl, hb, ht⟩; have hT := Lib.hid ht; clear ht) | (with_reducible refine wpList_bytesOf Tryd.underlying9 Tryd.underlying49 Tryd.underlying5 rfl ?_; intro cap w2 hle hb2 hz2 hB2))
  have hT2 : ∀ i, i < 256 → w2.cell? ⟨w.heap.size, i, none⟩ = some (.int .u32 ((tab i : Nat) : Int)) := fun i hi => by
    obtain ⟨h1, h2⟩ := hT.out.2 i hi
    rw [hb2.cell (by have := hT.out.1; simp; omega), h1, if_pos hi]
  have HT := Lib.hid hT2
  clear hT2
  have HB := Lib.hid (hb.trans (hb2.mono hb.size))
  clear hb hb2
  go_loop [6, 8, 15] (fun r _ i => ∃ k : Nat, k ≤ s.size ∧ i = .int .i64 k ∧ r = .int .u32 ((reg (compl c) (s.data.toList.take k) : Nat) : Int)) (fun _ _ i => s.size - (intOf i).toNat)
  case atStart => exact ⟨0, Nat.zero_le _, rfl, rfl⟩
  case round =>
    obtain ⟨k, hk, rfl, rfl⟩ := hrel
    have hr := reg_lt (compl_lt c) (s.data.toList.take k)
    by_cases hlt : k < s.size
    · have H := Lib.hid (reg_snoc (compl c) (s.data.toList.take k) s[k])
      have hts := Lib.hid (take_snoc s k hlt)
      generalize reg (compl c) (s.data.toList.take k) = r at *
      obtain ⟨hc1, hc2⟩ := hB2.out.2 k (by simpa using hlt)
      have hget : s.data.toList.getD k 0 = s[k] := byte_getD s k hlt
      rw [hget] at hc1
      clear hget
      have hb : s[k].toNat < 256 := s[k].toNat_lt
      have e8 : bits .xor .u8 ((r : Int) % 256) (s[k].toNat : Int) = (((r % 256) ^^^ s[k].toNat : Nat) : Int) := by
        rw [show ((r : Int) % 256) = ((r % 256 : Nat) : Int) from by omega]
        exact xor8 (by omega) hb
      have h8 : (r % 256) ^^^ s[k].toNat < 256 := Nat.xor_lt_two_pow (n := 8) (by omega) hb
      have hc3 := HT.out _ h8
      have hn := Lib.hid (byteStep_tab (r := r) hb)
      have ht := tab_lt h8
      generalize (r % 256) ^^^ s[k].toNat = x at *
      generalize tab x = y at *
      have e9 : bits .xor .u32 (y : Int) ((r : Int) / 256) = ((y ^^^ (r >>> 8) : Nat) : Int) := by
        rw [shr8 r]
        exact xor32 ht (by rw [Nat.shiftRight_eq_div_pow]; omega)
      go_wp2
      go_round
      case rel =>
        refine ⟨k + 1, by omega, by go_num, ?_⟩
        rw [hts.out, H.out]
        show _ = Value.int .u32 ((byteStep r s[k].toNat : Nat) : Int)
        rw [hn.out]
      case measure => simp [intOf]; omega
    · go_wp2
      go_ret
      refine ⟨ret_u32 ?_, HB.out⟩
      rw [List.take_of_length_le (by simp; omega)]
      rfl
end Go.Proofs.YtcdondbegnbdgaaDoor.Crc
