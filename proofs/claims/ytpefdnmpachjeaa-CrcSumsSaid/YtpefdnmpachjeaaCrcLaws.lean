/- The walks of the statements of chapter 2. -/
import Derived.Test.YtpefdnmpachjeaaCrcWalk2
namespace Go.Proofs.Ytpefdnmpachjeaa.Crc
open Go.RowKit Towline Towline.Crc
set_option linter.unusedVariables false
set_option maxRecDepth 100000

theorem sums_walk (c : Nat) (s : ByteArray) (w : World) (hc : c < 4294967296) (hs : s.size ≤ maxLen) :
    Calls Try.prog 3 #[.int .u32 (c : Int), .string s] w fun e w' => e = .returned (.bool true) ∧ Below w.heap.size w w' := by
  by_cases hlen : s.size ≤ 3000
  · have h1 : decide ((3000 : Int) < (s.size : Int)) = false := by simp; omega
    go_enter Try.func3, Try.ntmps3
    go_wp2_with fail
    refine (shown_calls _).mono ?_
    rintro e w1 ⟨rfl, hb1⟩
    go_wp2_with fail
    refine (update c s _ hc hs).mono ?_
    rintro e w2 ⟨rfl, hb2⟩
    go_wp2_with fail
    refine (refUpdate c s _ hc hs).mono ?_
    rintro e w2 ⟨rfl, rfl⟩
    go_wp2_with fail
    refine (sum s _ hs).mono ?_
    rintro e w3 ⟨rfl, hb3⟩
    go_wp2_with fail
    refine (refSum s _ hs).mono ?_
    rintro e w3 ⟨rfl, rfl⟩
    go_wp2_with fail
    go_ret
    exact ⟨rfl, ext_trans hb1 (ext_trans hb2 hb3)⟩
  · have h1 : decide ((3000 : Int) < (s.size : Int)) = true := by simp; omega
    go_enter Try.func3, Try.ntmps3
    go_wp2_with fail
    refine (shown_calls _).mono ?_
    rintro e w1 ⟨rfl, hb1⟩
    go_wp2_with fail
    go_ret
    exact ⟨rfl, hb1⟩
theorem xorB (a b : UInt8) : bits .xor .u8 ((a.toNat : Nat) : Int) ((b.toNat : Nat) : Int) = (((a ^^^ b).toNat : Nat) : Int) := by
  rw [u8_xor_nat _ _ a.toNat_lt b.toNat_lt, UInt8.toNat_xor]
theorem set_split (l : List UInt8) (k : Nat) (h : k < l.length) (x : UInt8) : l = l.take k ++ l.getD k 0 :: l.drop (k + 1) ∧ l.set k x = l.take k ++ x :: l.drop (k + 1) := by
  constructor
  · rw [List.getD_eq_getElem?_getD, List.getElem?_eq_getElem h]; simp
  · rw [List.set_eq_take_append_cons_drop, if_pos h]
theorem xor_ne (a x : UInt8) (h : x ≠ 0) : a ≠ a ^^^ x := by
  intro e
  have := congrArg (a ^^^ ·) e
  simp only [UInt8.xor_self, ← UInt8.xor_assoc, UInt8.zero_xor] at this
  exact h this.symm
theorem upd_turn (c : Nat) (l : List UInt8) (k : Nat) (h : k < l.length) (x : UInt8) (hx : x ≠ 0) : upd c l ≠ upd c (l.set k (l.getD k 0 ^^^ x)) := by
  obtain ⟨e1, e2⟩ := set_split l k h (l.getD k 0 ^^^ x)
  rw [e2]
  conv => lhs; rw [e1]
  exact upd_one c _ _ _ _ (xor_ne _ x hx)
attribute [local go_sem] xorB
theorem one_yes (c : Nat) (s : ByteArray) (k : Nat) (x : UInt8) (w : World) (hc : c < 4294967296) (hs : s.size ≤ maxLen) (h1 : s.size ≤ 2000) (hk : k < s.size) (h4 : x ≠ 0) :
    Calls Try.prog 7 #[.int .u32 (c : Int), .string s, .int .i64 (k : Int), .int .u8 ((x.toNat : Nat) : Int)] w fun e w' => e = .returned (.bool true) ∧ Below w.heap.size w w' := by
  have q1 : decide ((2000 : Int) < (s.size : Int)) = false := by simp; omega
  have q2 : decide ((k : Int) < 0) = false := by simp
  have q3 : decide ((s.size : Int) ≤ (k : Int)) = false := by simp; omega
  have q4 : (((x.toNat : Nat) : Int) == 0) = false := by
    have : x.toNat ≠ 0 := fun h => h4 (UInt8.toNat_inj.1 h)
    simp; omega
  have hk' : k < s.data.toList.length := by simpa using hk
  have hlen : s.data.toList.length = s.size := by simp
  obtain ⟨l, hl⟩ : ∃ l, l = s.data.toList.set k (s.data.toList.getD k 0 ^^^ x) := ⟨_, rfl⟩
  have hll : l.length = s.size := by rw [hl, List.length_set, hlen]
  have n1 : upd c s.data.toList ≠ upd c l := by rw [hl]; exact upd_turn c _ k hk' x h4
  have n2 : upd 0 s.data.toList ≠ upd 0 l := by rw [hl]; exact upd_turn 0 _ k hk' x h4
  have u1 : Hid (∀ W, Calls Try.prog 10 #[.int .u32 (c : Int), .string s] W fun e w' => e = .returned (.int .u32 ((upd c s.data.toList : Nat) : Int)) ∧ Below W.heap.size W w') := Lib.hid fun W => update c s W hc hs
  have hm : (ByteArray.mk l.toArray).size ≤ maxLen := by show l.toArray.size ≤ _; simp only [List.size_toArray]; rw [hll]; exact hs
  have u2 : Hid (∀ W, Calls Try.prog 10 #[.int .u32 (c : Int), .string ⟨l.toArray⟩] W fun e w' => e = .returned (.int .u32 ((upd c l : Nat) : Int)) ∧ Below W.heap.size W w') := Lib.hid fun W => update c ⟨l.toArray⟩ W hc hm
  have u3 : Hid (∀ W, Calls Try.prog 12 #[.string s] W fun e w' => e = .returned (.int .u32 ((upd 0 s.data.toList : Nat) : Int)) ∧ Below W.heap.size W w') := Lib.hid fun W => sum s W hs
  have u4 : Hid (∀ W, Calls Try.prog 12 #[.string ⟨l.toArray⟩] W fun e w' => e = .returned (.int .u32 ((upd 0 l : Nat) : Int)) ∧ Below W.heap.size W w') := Lib.hid fun W => sum ⟨l.toArray⟩ W hm
  generalize upd c s.data.toList = A at *
  generalize upd c l = B at *
  generalize upd 0 s.data.toList = C at *
  generalize upd 0 l = D at *
  have q5 : (((A : Nat) : Int) != ((B : Nat) : Int)) = true := by rw [bne_iff_ne]; omega
  have q6 : (((C : Nat) : Int) != ((D : Nat) : Int)) = true := by rw [bne_iff_ne]; omega
  have HL := Lib.hid hl
  have HLL := Lib.hid hll
  clear hl n1 n2 h4 hm hll hlen
  go_enter Try.func7, Try.ntmps7
  go_wp2_with fail
  refine (shown_calls _).mono ?_
  rintro e w1 ⟨rfl, hb1⟩
  go_wp2_with (with_reducible refine wpList_bytesOf Try.underlying9 Try.underlying32 Try.underlying5 rfl ?_; intro cap w2 hle hb2 hz2 hB2; have f1 := hB2.out.cell hk'; have f2 := hB2.out.free hk')
  refine gen_wp ?_
  intro w3 hw3
  have hB3 : BytesAt w3 w1.heap.size l := by
    have := hB2.out.set k (s.data.toList.getD k 0 ^^^ x)
    rw [UInt8.toNat_xor] at this
    rw [hw3, HL.out]
    simpa [hk] using this
  have HB : Hid (Below w.heap.size w w3) := Lib.hid (by rw [hw3]; exact ext_trans hb1 (hb2.setCell (Nat.le_refl _) _))
  clear hw3 hB2 f1 f2 hb1 hb2 hz2
  have hcv := fun y : Later w3 => (hB3.later y).run_back (P := Try.prog) (cap := cap) Try.underlying32 Try.underlying5 Try.underlying9 (n := s.size) HLL.out.symm
  clear hB3
  refine wp_region_later (by kernel_rfl) (by kernel_rfl) ?_
  repeat (go_big_quiet_step (first | (go_at_call 10; with_reducible first | exact later_of (u1.out _) | exact later_of (u2.out _)) | (go_at_call 12; with_reducible first | exact later_of (u3.out _) | exact later_of (u4.out _))))
  refine wpQuiet_nil ?_
  rintro _ ⟨y, rfl⟩
  go_wp2_with fail
  go_ret
  exact ⟨rfl, ext_trans HB.out y.ext⟩
theorem one_walk (c : Nat) (s : ByteArray) (i : Int) (x : UInt8) (w : World) (hc : c < 4294967296) (hs : s.size ≤ maxLen) (_hi : (Lit.int .i64 i).wf = true) :
    Calls Try.prog 7 #[.int .u32 (c : Int), .string s, .int .i64 i, .int .u8 ((x.toNat : Nat) : Int)] w fun e w' => e = .returned (.bool true) ∧ Below w.heap.size w w' := by
  by_cases h1 : s.size ≤ 2000
  · by_cases h2 : 0 ≤ i
    · obtain ⟨k, rfl⟩ := Int.eq_ofNat_of_zero_le h2
      by_cases h3 : k < s.size
      · by_cases h4 : x = 0
        · subst h4
          have q1 : decide ((2000 : Int) < (s.size : Int)) = false := by simp; omega
          have q3 : decide ((s.size : Int) ≤ (k : Int)) = false := by simp; omega
          have q4 : ((((0 : UInt8).toNat : Nat) : Int) == 0) = true := rfl
          go_enter Try.func7, Try.ntmps7
          go_wp2_with fail
          refine (shown_calls _).mono ?_
          rintro e w1 ⟨rfl, hb1⟩
          go_wp2_with fail
          go_ret
          exact ⟨rfl, hb1⟩
        · exact one_yes c s k x w hc hs h1 h3 h4
      · have q1 : decide ((2000 : Int) < (s.size : Int)) = false := by simp; omega
        have q3 : decide ((s.size : Int) ≤ (k : Int)) = true := by simp; omega
        go_enter Try.func7, Try.ntmps7
        go_wp2_with fail
        refine (shown_calls _).mono ?_
        rintro e w1 ⟨rfl, hb1⟩
        go_wp2_with fail
        go_ret
        exact ⟨rfl, hb1⟩
    · have q1 : decide ((2000 : Int) < (s.size : Int)) = false := by simp; omega
      have q2 : decide (i < 0) = true := by simp; omega
      go_enter Try.func7, Try.ntmps7
      go_wp2_with fail
      refine (shown_calls _).mono ?_
      rintro e w1 ⟨rfl, hb1⟩
      go_wp2_with fail
      go_ret
      exact ⟨rfl, hb1⟩
  · have q1 : decide ((2000 : Int) < (s.size : Int)) = true := by simp; omega
    go_enter Try.func7, Try.ntmps7
    go_wp2_with fail
    refine (shown_calls _).mono ?_
    rintro e w1 ⟨rfl, hb1⟩
    go_wp2_with fail
    go_ret
    exact ⟨rfl, hb1⟩
theorem seals_walk (s : ByteArray) (w : World) (hs : s.size ≤ maxLen) :
    Calls Try.prog 4 #[.string s] w fun e w' => e = .returned (.bool true) ∧ Below w.heap.size w w' := by
  by_cases h1 : s.size ≤ 3000
  · have q1 : decide ((3000 : Int) < (s.size : Int)) = false := by simp; omega
    by_cases h2 : s.size < 12
    · go_enter Try.func4, Try.ntmps4
      go_wp2_with (first | (go_at_call 9; refine (shown_calls _).mono ?_; rintro e w1 ⟨rfl, hb1⟩) | (go_at_call 14; refine (seal_short s _ h2).mono ?_; rintro e w2 ⟨rfl, rfl⟩) | (go_at_call 15; refine (refSeal_short s _ h2).mono ?_; rintro e w2 ⟨rfl, rfl⟩) | (go_at_call 16; refine (check_short s _ h2).mono ?_; rintro e w2 ⟨rfl, rfl⟩) | (go_at_call 17; refine (refCheck_short s _ h2).mono ?_; rintro e w2 ⟨rfl, rfl⟩))
      go_ret
      exact ⟨rfl, hb1⟩
    · have h3 : 12 ≤ s.size := by omega
      go_enter Try.func4, Try.ntmps4
      go_wp2_with (first | (go_at_call 9; refine (shown_calls _).mono ?_; rintro e w1 ⟨rfl, hb1⟩) | (go_at_call 14; refine (seal_long s _ h3 hs).mono ?_; rintro e w2 ⟨rfl, hb2⟩) | (go_at_call 15; refine (refSeal_long s _ h3 hs).mono ?_; rintro e w3 ⟨rfl, hb3⟩) | (go_at_call 16; refine (check_long s _ h3 hs).mono ?_; rintro e w4 ⟨rfl, hb4⟩) | (go_at_call 17; refine (refCheck_long s _ h3 hs).mono ?_; rintro e w5 ⟨rfl, hb5⟩))
      go_ret
      exact ⟨rfl, ext_trans hb1 (ext_trans hb2 (ext_trans hb3 (ext_trans hb4 hb5)))⟩
  · have q1 : decide ((3000 : Int) < (s.size : Int)) = true := by simp; omega
    go_enter Try.func4, Try.ntmps4
    go_wp2_with fail
    refine (shown_calls _).mono ?_
    rintro e w1 ⟨rfl, hb1⟩
    go_wp2_with fail
    go_ret
    exact ⟨rfl, hb1⟩
set_option maxHeartbeats 1000000 in
theorem turns_long (s : ByteArray) (i : Int) (x : UInt8) (w : World) (h1 : s.size ≤ 2000) (h12 : 12 ≤ s.size) (_hi : (Lit.int .i64 i).wf = true) :
    Calls Try.prog 6 #[.string s, .int .i64 i, .int .u8 ((x.toNat : Nat) : Int)] w fun e w' => e = .returned (.bool true) ∧ Below w.heap.size w w' := by
  have hs : s.size ≤ maxLen := by unfold maxLen; omega
  have q1 : decide ((2000 : Int) < (s.size : Int)) = false := by simp; omega
  have q2 : decide ((s.size : Int) < 12) = false := by simp; omega
  have hlen : s.data.toList.length = s.size := by simp
  have hm := sealed_length (l := s.data.toList) (by omega)
  have hms : (ByteArray.mk (sealed s.data.toList).toArray).size = s.size := by show (List.toArray _).size = _; rw [List.size_toArray, hm, hlen]
  have k1 : Hid (∀ W, Calls Try.prog 14 #[.string s] W fun e w' => e = .returned (.tuple #[.string ⟨(sealed s.data.toList).toArray⟩, .int .i64 0]) ∧ Below W.heap.size W w') := Lib.hid fun W => seal_long s W h12 hs
  have k2 : Hid (∀ W, Calls Try.prog 14 #[.string ⟨(sealed s.data.toList).toArray⟩] W fun e w' => e = .returned (.tuple #[.string ⟨(sealed s.data.toList).toArray⟩, .int .i64 0]) ∧ Below W.heap.size W w') := Lib.hid fun W => by
    have := seal_long ⟨(sealed s.data.toList).toArray⟩ W (by rw [hms]; exact h12) (by rw [hms]; exact hs)
    simp only [] at this
    rw [sealed_sealed (by omega)] at this
    exact this
  have k3 : Hid (∀ W, Calls Try.prog 16 #[.string ⟨(sealed s.data.toList).toArray⟩] W fun e w' => e = .returned (.int .i64 0) ∧ Below W.heap.size W w') := Lib.hid fun W => by
    have := check_long ⟨(sealed s.data.toList).toArray⟩ W (by rw [hms]; exact h12) (by rw [hms]; exact hs)
    simp only [] at this
    rw [checkNo, if_pos (sealed_sealed (by omega))] at this
    exact this
  have t1 := Lib.hid (sealed_take (l := s.data.toList) (by omega))
  have t2 := Lib.hid (sealed_drop (l := s.data.toList) (by omega))
  have t3 := Lib.hid (sealed_sealed (l := s.data.toList) (by omega))
  have q3 : (((ByteArray.mk (sealed s.data.toList).toArray).extract 0 8).toList == (s.extract 0 8).toList) = true := by
    rw [extract_head, extract_head, t1.out]; simp
  have q4 : (((ByteArray.mk (sealed s.data.toList).toArray).extract 12 s.size).toList == (s.extract 12 s.size).toList) = true := by
    have := extract_tail (ByteArray.mk (sealed s.data.toList).toArray) 12
    rw [hms] at this
    rw [this, extract_tail, t2.out]; simp
  generalize sealed s.data.toList = m at *
  go_enter Try.func6, Try.ntmps6
  go_wp2_with fail
  refine (shown_calls _).mono ?_
  rintro e w1 ⟨rfl, hb1⟩
  go_wp2_with fail
  refine (k1.out _).mono ?_
  rintro e w2 ⟨rfl, hb2⟩
  go_wp2_with fail
  refine (k2.out _).mono ?_
  rintro e w3 ⟨rfl, hb3⟩
  go_wp2_with fail
  refine wp_region_later (by kernel_rfl) (by kernel_rfl) ?_
  repeat (go_big_quiet_step ((go_at_call 16; exact later_of (k3.out _))))
  refine wpQuiet_nil ?_
  rintro _ ⟨y, rfl⟩
  have HB := Lib.hid (ext_trans hb1 (ext_trans hb2 (ext_trans hb3 y.ext)))
  clear hb1 hb2 hb3 k1 k2 k3 q3 q4
  by_cases hx : x = 0
  · have q5 : (((x.toNat : Nat) : Int) == 0) = true := by rw [hx]; rfl
    clear hx
    go_wp2_with fail
    go_ret
    exact ⟨rfl, HB.out⟩
  have q5 : (((x.toNat : Nat) : Int) == 0) = false := by
    have : x.toNat ≠ 0 := fun h => hx (UInt8.toNat_inj.1 h)
    simp; omega
  by_cases h2 : 0 ≤ i
  case neg =>
    have q6 : decide (i < 0) = true := by simp; omega
    go_wp2_with fail
    go_ret
    exact ⟨rfl, HB.out⟩
  have q6 : decide (i < 0) = false := by simp; omega
  obtain ⟨k, rfl⟩ := Int.eq_ofNat_of_zero_le h2
  by_cases h3 : k < s.size
  case neg =>
    have q7 : decide ((s.size : Int) ≤ (k : Int)) = true := by simp; omega
    go_wp2_with fail
    go_ret
    exact ⟨rfl, HB.out⟩
  have q7 : decide ((s.size : Int) ≤ (k : Int)) = false := by simp; omega
  have hk' : k < m.length := by rw [hm, hlen]; exact h3
  have hm2 := Lib.hid hm
  have hlen2 := Lib.hid hlen
  have hms2 := Lib.hid hms
  clear hm hlen hms
  obtain ⟨m2, hmd⟩ : ∃ m2, m2 = m.set k (m.getD k 0 ^^^ x) := ⟨_, rfl⟩
  have hz : m2.length = m.length := by rw [hmd, List.length_set]
  have c1 : Hid (∀ W, Calls Try.prog 16 #[.string ⟨m2.toArray⟩] W fun e w' => e = .returned (.int .i64 5) ∧ Below W.heap.size W w') := Lib.hid fun W => by
    have hz' : (ByteArray.mk m2.toArray).size = s.size := by rw [size_mk, hz, hm2.out, hlen2.out]
    have := check_long ⟨m2.toArray⟩ W (by rw [hz']; exact h12) (by rw [hz']; exact hs)
    simp only [] at this
    rw [checkNo, if_neg (by rw [hmd]; exact turned (by rw [hm2.out, hlen2.out]; exact h12) t3.out hk' (fun e => xor_ne _ x hx e.symm))] at this
    exact this
  have HMD := Lib.hid hmd
  have HZ := Lib.hid hz
  clear hmd hz
  clear hx
  go_wp2_with (first | (with_reducible refine wpList_bytesOf Try.underlying9 Try.underlying32 Try.underlying5 rfl ?_; intro cap w4 hle hb4 hz4 hB4; have f1 := hB4.out.cell hk'; have f2 := hB4.out.free hk') | (with_reducible refine wpList_stringOf Try.underlying32 Try.underlying5 Try.underlying9 rfl (l := m2) ?c1 ?c2 ?_) | (go_at_call 16; (with_reducible refine (c1.out _).mono ?_); rintro e w5 ⟨rfl, hb5⟩))
  case c1 =>
    rw [HMD.out]
    refine Lib.hid (hB4.out.set_val k (m.getD k 0 ^^^ x) ?_)
    rw [UInt8.toNat_xor]
    simp [hk']
  case c2 => exact HZ.out.symm
  go_ret
  exact ⟨rfl, ext_trans HB.out (ext_trans (hb4.setCell (Nat.le_refl _) _) hb5)⟩
theorem turns_walk (s : ByteArray) (i : Int) (x : UInt8) (w : World) (_hs : s.size ≤ maxLen) (hi : (Lit.int .i64 i).wf = true) :
    Calls Try.prog 6 #[.string s, .int .i64 i, .int .u8 ((x.toNat : Nat) : Int)] w fun e w' => e = .returned (.bool true) ∧ Below w.heap.size w w' := by
  by_cases h1 : s.size ≤ 2000
  · by_cases h12 : 12 ≤ s.size
    · exact turns_long s i x w h1 h12 hi
    · have q2 : decide ((s.size : Int) < 12) = true := by simp; omega
      go_enter Try.func6, Try.ntmps6
      go_wp2_with fail
      refine (shown_calls _).mono ?_
      rintro e w1 ⟨rfl, hb1⟩
      go_wp2_with fail
      go_ret
      exact ⟨rfl, hb1⟩
  · have q1 : decide ((2000 : Int) < (s.size : Int)) = true := by simp; omega
    have q2 : decide ((s.size : Int) < 12) = false := by simp; omega
    go_enter Try.func6, Try.ntmps6
    go_wp2_with fail
    refine (shown_calls _).mono ?_
    rintro e w1 ⟨rfl, hb1⟩
    go_wp2_with fail
    go_ret
    exact ⟨rfl, hb1⟩
set_option maxHeartbeats 1000000 in
theorem heads_long (s r : ByteArray) (w : World) (h1 : s.size ≤ 2000) (h12 : 12 ≤ s.size) (h4 : r.size = 4) :
    Calls Try.prog 8 #[.string s, .string r] w fun e w' => e = .returned (.bool true) ∧ Below w.heap.size w w' := by
  have hs : s.size ≤ maxLen := by unfold maxLen; omega
  have q1 : decide ((2000 : Int) < (s.size : Int)) = false := by simp; omega
  have q2 : decide ((s.size : Int) < 12) = false := by simp; omega
  have q3 : (((r.size : Nat) : Int) != 4) = false := by rw [h4]; rfl
  have hr4 : (r.size : Int) ≤ 4 := by omega
  have hlen : s.data.toList.length = s.size := by simp
  have hm := sealed_length (l := s.data.toList) (by omega)
  have hms : (ByteArray.mk (sealed s.data.toList).toArray).size = s.size := by rw [size_mk, hm, hlen]
  have g1 : (8 : Int) ≤ (s.size : Int) := by omega
  have g2 : (12 : Int) ≤ (s.size : Int) := by omega
  have a1 := fun (w : World) => run_string_add_sum (P := Try.prog) w (s.extract 0 8) r (by rw [ByteArray.size_extract]; omega)
  have a2 := fun (w : World) => run_string_add_sum (P := Try.prog) w (s.extract 0 8 ++ r) (s.extract 12 s.size) (by rw [ByteArray.size_append, ByteArray.size_extract, ByteArray.size_extract]; omega)
  have a3 := fun (w : World) => run_string_add_sum (P := Try.prog) w (s.extract 0 8) (s.extract 12 s.size) (by rw [ByteArray.size_extract, ByteArray.size_extract]; omega)
  have a4 := fun (w : World) => run_string_add_sum (P := Try.prog) w ((ByteArray.mk (sealed s.data.toList).toArray).extract 0 8) ((ByteArray.mk (sealed s.data.toList).toArray).extract 12 s.size) (by rw [ByteArray.size_extract, ByteArray.size_extract, hms]; omega)
  have k1 : Hid (∀ W, Calls Try.prog 14 #[.string s] W fun e w' => e = .returned (.tuple #[.string ⟨(sealed s.data.toList).toArray⟩, .int .i64 0]) ∧ Below W.heap.size W w') := Lib.hid fun W => seal_long s W h12 hs
  have k2 : Hid (∀ W, Calls Try.prog 14 #[.string (s.extract 0 8 ++ r ++ s.extract 12 s.size)] W fun e w' => e = .returned (.tuple #[.string ⟨(sealed s.data.toList).toArray⟩, .int .i64 0]) ∧ Below W.heap.size W w') := Lib.hid fun W => by
    have hz : (s.extract 0 8 ++ r ++ s.extract 12 s.size).size = s.size := by
      rw [ByteArray.size_append, ByteArray.size_append, ByteArray.size_extract, ByteArray.size_extract]; omega
    have := seal_long (s.extract 0 8 ++ r ++ s.extract 12 s.size) W (by rw [hz]; exact h12) (by rw [hz]; exact hs)
    have hd : (s.extract 0 8 ++ r ++ s.extract 12 s.size).data.toList = s.data.toList.take 8 ++ r.data.toList ++ s.data.toList.drop 12 := by
      have e := seal_cat s r.data.toList
      have e2 : (ByteArray.mk r.data.toList.toArray) = r := by cases r; simp
      rw [e2] at e
      rw [e]
    have hr : r.data.toList.length = 4 := by simpa using h4
    rw [hd, sealed_congr (m := s.data.toList)] at this
    · exact this
    · rw [List.append_assoc, List.take_append_of_le_length (by simp; omega), List.take_take]; rfl
    · rw [List.drop_append, List.drop_of_length_le (by simp; omega), List.nil_append, show 12 - (s.data.toList.take 8 ++ r.data.toList).length = 0 from by simp; omega]; rfl
  have t1 := Lib.hid (sealed_take (l := s.data.toList) (by omega))
  have t2 := Lib.hid (sealed_drop (l := s.data.toList) (by omega))
  have q4 : (((ByteArray.mk (sealed s.data.toList).toArray).extract 0 8 ++ (ByteArray.mk (sealed s.data.toList).toArray).extract 12 s.size).toList == (s.extract 0 8 ++ s.extract 12 s.size).toList) = true := by
    have := extract_tail (ByteArray.mk (sealed s.data.toList).toArray) 12
    rw [hms] at this
    have e := fun a b : ByteArray => (ByteArray.toList_eq (a ++ b)).trans ((by rw [ByteArray.data_append, Array.toList_append, ByteArray.toList_eq, ByteArray.toList_eq] : (a ++ b).data.toList = a.toList ++ b.toList))
    rw [e, e, extract_head, extract_head, this, extract_tail, t1.out, t2.out]; simp
  generalize sealed s.data.toList = m at *
  go_enter Try.func8, Try.ntmps8
  go_wp2_with fail
  refine (shown_calls _).mono ?_
  rintro e w1 ⟨rfl, hb1⟩
  go_wp2_with fail
  refine (k1.out _).mono ?_
  rintro e w2 ⟨rfl, hb2⟩
  go_wp2_with fail
  refine wp_region_later (by kernel_rfl) (by kernel_rfl) ?_
  repeat (go_big_quiet_step ((go_at_call 14; exact later_of (k2.out _))))
  refine wpQuiet_nil ?_
  rintro _ ⟨y, rfl⟩
  go_wp2_with fail
  refine wp_region_later (by kernel_rfl) (by kernel_rfl) ?_
  repeat (go_big_quiet_step (fail))
  refine wpQuiet_nil ?_
  rintro _ ⟨z, rfl⟩
  go_wp2_with fail
  go_ret
  exact ⟨rfl, ext_trans hb1 (ext_trans hb2 (ext_trans y.ext z.ext))⟩
theorem heads_walk (s r : ByteArray) (w : World) (_hs : s.size ≤ maxLen) (_hr : r.size ≤ maxLen) :
    Calls Try.prog 8 #[.string s, .string r] w fun e w' => e = .returned (.bool true) ∧ Below w.heap.size w w' := by
  by_cases h1 : s.size ≤ 2000
  · by_cases h12 : 12 ≤ s.size
    · by_cases h4 : r.size = 4
      · exact heads_long s r w h1 h12 h4
      · have q1 : decide ((2000 : Int) < (s.size : Int)) = false := by simp; omega
        have q2 : decide ((s.size : Int) < 12) = false := by simp; omega
        have q3 : (((r.size : Nat) : Int) != 4) = true := by rw [bne_iff_ne]; omega
        go_enter Try.func8, Try.ntmps8
        go_wp2_with fail
        refine (shown_calls _).mono ?_
        rintro e w1 ⟨rfl, hb1⟩
        go_wp2_with fail
        go_ret
        exact ⟨rfl, hb1⟩
    · have q1 : decide ((2000 : Int) < (s.size : Int)) = false := by simp; omega
      have q2 : decide ((s.size : Int) < 12) = true := by simp; omega
      go_enter Try.func8, Try.ntmps8
      go_wp2_with fail
      refine (shown_calls _).mono ?_
      rintro e w1 ⟨rfl, hb1⟩
      go_wp2_with fail
      go_ret
      exact ⟨rfl, hb1⟩
  · have q1 : decide ((2000 : Int) < (s.size : Int)) = true := by simp; omega
    go_enter Try.func8, Try.ntmps8
    go_wp2_with fail
    refine (shown_calls _).mono ?_
    rintro e w1 ⟨rfl, hb1⟩
    go_wp2_with fail
    go_ret
    exact ⟨rfl, hb1⟩
end Go.Proofs.Ytpefdnmpachjeaa.Crc
