/- The walk of the statement CrcJoins: a sum goes on; the sum of three texts of one length, xored. -/
import Derived.Test.YtpefdnmpachjeaaCrcLaws
import Derived.Deep.RegionHeld3
namespace Go.Proofs.Ytpefdnmpachjeaa.Crc
open Go.RowKit Towline Towline.Crc
set_option linter.unusedVariables false
set_option maxRecDepth 100000

theorem info5 : (Try.prog.info? 5).map (fun i => (i.zero, i.size, i.bytes)) = some (some (.int .u8 0), 1, 1) := by kernel_rfl
attribute [local go_sem] xorB
attribute [local go_sem high] run_min_nat
theorem xor3_append : ∀ (a b c a' b' c' : List UInt8), a.length = b.length → a.length = c.length → xor3 (a ++ a') (b ++ b') (c ++ c') = xor3 a b c ++ xor3 a' b' c'
  | [], b, c, _, _, _, h1, h2 => by
    obtain rfl : b = [] := List.length_eq_zero_iff.1 h1.symm
    obtain rfl : c = [] := List.length_eq_zero_iff.1 h2.symm
    rfl
  | x :: a, [], _, _, _, _, h1, _ => by simp at h1
  | x :: a, y :: b, [], _, _, _, _, h2 => by simp at h2
  | x :: a, y :: b, z :: c, a', b', c', h1, h2 => by
    simp only [List.length_cons, Nat.add_right_cancel_iff] at h1 h2
    simp only [List.cons_append, xor3, xor3_append a b c a' b' c' h1 h2]
theorem xor3_length : ∀ (a b c : List UInt8), a.length = b.length → a.length = c.length → (xor3 a b c).length = a.length
  | [], b, c, h1, h2 => by
    obtain rfl : b = [] := List.length_eq_zero_iff.1 h1.symm
    rfl
  | x :: a, [], _, h1, _ => by simp at h1
  | x :: a, y :: b, [], _, h2 => by simp at h2
  | x :: a, y :: b, z :: c, h1, h2 => by
    simp only [List.length_cons, Nat.add_right_cancel_iff] at h1 h2
    simp only [xor3, List.length_cons, xor3_length a b c h1 h2]
theorem xor3_snoc (s t u : ByteArray) (k : Nat) (i1 : k < s.size) (i2 : k < t.size) (i3 : k < u.size) :
    byteCells (xor3 (s.data.toList.take (k + 1)) (t.data.toList.take (k + 1)) (u.data.toList.take (k + 1))) =
      byteCells (xor3 (s.data.toList.take k) (t.data.toList.take k) (u.data.toList.take k)) ++ [.int .u8 (bits .xor .u8 (((s[k].toNat ^^^ t[k].toNat) : Nat) : Int) ((u[k].toNat : Nat) : Int))] := by
  rw [take_snoc s k i1, take_snoc t k i2, take_snoc u k i3, xor3_append _ _ _ _ _ _ (by simp; omega) (by simp; omega), byteCells_append, ← UInt8.toNat_xor, xorB]
  rfl
set_option maxHeartbeats 1000000 in
theorem joins_long (c : Nat) (s t u : ByteArray) (w : World) (hc : c < 4294967296) (h1 : s.size ≤ 2000) (h2 : t.size ≤ 2000) (h3 : u.size ≤ 2000) :
    Calls Try.prog 5 #[.int .u32 (c : Int), .string s, .string t, .string u] w fun e w' => e = .returned (.bool true) ∧ Below w.heap.size w w' := by
  have q1 : decide ((2000 : Int) < (s.size : Int)) = false := by simp; omega
  have q2 : decide ((2000 : Int) < (t.size : Int)) = false := by simp; omega
  have q3 : decide ((2000 : Int) < (u.size : Int)) = false := by simp; omega
  go_enter Try.func5, Try.ntmps5
  go_wp2_with fail
  refine (shown_calls _).mono ?_
  rintro e w1 ⟨rfl, hb1⟩
  go_wp2_with fail
  have hns : min s.size (min t.size u.size) ≤ s.size := by omega
  have hnt : min s.size (min t.size u.size) ≤ t.size := by omega
  have hnu : min s.size (min t.size u.size) ≤ u.size := by omega
  generalize min s.size (min t.size u.size) = n at *
  have HB1 := Lib.hid hb1
  go_loopw [11, 12] (fun v i wr => ∃ k : Nat, k ≤ n ∧ i = .int .i64 k ∧ Below w.heap.size w wr ∧ Hid (wr.ownsRow w.heap.size 5 1 v k (byteCells (xor3 (s.data.toList.take k) (t.data.toList.take k) (u.data.toList.take k))))) (fun _ i _ => n - (intOf i).toNat)
  case atStart => exact ⟨0, Nat.zero_le _, rfl, HB1.out, Lib.hid (ownsRow_nil _ _ _ _)⟩
  case round =>
    obtain ⟨k, hk, rfl, hb, ho⟩ := hrel
    by_cases hlt : k < n
    · have i1 : k < s.size := by omega
      have i2 : k < t.size := by omega
      have i3 : k < u.size := by omega
      go_wp2_with fail
      go_region_held3 (fun _ => True) (trivial)
        ((refine step_append_cell (n := k) rfl _ _ 32 rfl Try.underlying32 info5 rfl rfl ho.out hb.size (by first | exact ((Below.refl _ _).drew.alloc (Nat.le_refl _) _) | exact ((Below.refl _ _).alloc (Nat.le_refl _) _).drew) rfl (heap_alloc_new wr _) rfl (by unfold maxLen; omega) (by omega) ?_; intro v' w' hown1 hgrow))
      all_goals
        have hb' : Below w.heap.size w w' := below_grown hb hgrow (Nat.le_refl _) hb.size ho.out
        go_wp2_with fail
        go_roundw
        case rel =>
          refine ⟨k + 1, by omega, by go_num, hb', ?_⟩
          rw [xor3_snoc _ _ _ k i1 i2 i3]
          exact hown1
        case measure => simp [intOf]; omega
    · have hkn : k = n := by omega
      subst hkn
      have hX : (xor3 (s.data.toList.take k) (t.data.toList.take k) (u.data.toList.take k)).length = k := by
        rw [xor3_length _ _ _ (by simp; omega) (by simp; omega)]; simp; omega
      obtain ⟨X, hXd⟩ : ∃ X, X = xor3 (s.data.toList.take k) (t.data.toList.take k) (u.data.toList.take k) := ⟨_, rfl⟩
      have ho' := ho.out
      rw [← hXd] at hX ho'
      have ho2 : wr.ownsRow w.heap.size 5 1 u11 X.length (byteCells X) := by rw [hX]; exact ho'
      have hcv : ∀ y : Later wr, (convert 32 9 u11).run Try.prog y.at = .ok (.string ⟨X.toArray⟩) y.at := fun y =>
        ownsRow_bytes_run (ownsRow_later ho2 y.ext) Try.underlying32 Try.underlying5 Try.underlying9
      have hs : s.size ≤ maxLen := by unfold maxLen; omega
      have ht : t.size ≤ maxLen := by unfold maxLen; omega
      have hst : (s ++ t).size ≤ maxLen := by rw [ByteArray.size_append]; unfold maxLen; omega
      have a1 := fun (w : World) => run_string_add_sum (P := Try.prog) w s t (by omega)
      have c1 : Hid (∀ W, Calls Try.prog 10 #[.int .u32 (c : Int), .string s] W fun e w' => e = .returned (.int .u32 ((upd c s.data.toList : Nat) : Int)) ∧ Below W.heap.size W w') := Lib.hid fun W => update c s W hc hs
      have c2 : Hid (∀ W, Calls Try.prog 10 #[.int .u32 ((upd c s.data.toList : Nat) : Int), .string t] W fun e w' => e = .returned (.int .u32 ((upd (upd c s.data.toList) t.data.toList : Nat) : Int)) ∧ Below W.heap.size W w') := Lib.hid fun W => update _ t W (upd_lt _ _) ht
      have c3 : Hid (∀ W, Calls Try.prog 10 #[.int .u32 (c : Int), .string (s ++ t)] W fun e w' => e = .returned (.int .u32 ((upd (upd c s.data.toList) t.data.toList : Nat) : Int)) ∧ Below W.heap.size W w') := Lib.hid fun W => by
        have := update c (s ++ t) W hc hst
        rw [show (s ++ t).data.toList = s.data.toList ++ t.data.toList from by simp, upd_append] at this
        exact this
      have c4 : Hid (∀ W, Calls Try.prog 10 #[.int .u32 (c : Int), .string ⟨#[]⟩] W fun e w' => e = .returned (.int .u32 (c : Int)) ∧ Below W.heap.size W w') := Lib.hid fun W => by
        have := update c ⟨#[]⟩ W hc (by decide)
        rw [show (⟨#[]⟩ : ByteArray).data.toList = [] from rfl, upd_nil hc] at this
        exact this
      have hxs : ∀ z : ByteArray, (z.extract 0 k).data.toList = z.data.toList.take k := fun z => by rw [← ByteArray.toList_eq, extract_head]
      have hsz : ∀ z : ByteArray, k ≤ z.size → z.size ≤ 2000 → (z.extract 0 k).size ≤ maxLen := fun z h1 h2 => by rw [ByteArray.size_extract]; unfold maxLen; omega
      have d1 : Hid (∀ W, Calls Try.prog 12 #[.string (s.extract 0 k)] W fun e w' => e = .returned (.int .u32 ((upd 0 (s.data.toList.take k) : Nat) : Int)) ∧ Below W.heap.size W w') := Lib.hid fun W => by
        rw [← hxs]; exact sum _ W (hsz s hns h1)
      have d2 : Hid (∀ W, Calls Try.prog 12 #[.string (t.extract 0 k)] W fun e w' => e = .returned (.int .u32 ((upd 0 (t.data.toList.take k) : Nat) : Int)) ∧ Below W.heap.size W w') := Lib.hid fun W => by
        rw [← hxs]; exact sum _ W (hsz t hnt h2)
      have d3 : Hid (∀ W, Calls Try.prog 12 #[.string (u.extract 0 k)] W fun e w' => e = .returned (.int .u32 ((upd 0 (u.data.toList.take k) : Nat) : Int)) ∧ Below W.heap.size W w') := Lib.hid fun W => by
        rw [← hxs]; exact sum _ W (hsz u hnu h3)
      have d4 : Hid (∀ W, Calls Try.prog 12 #[.string ⟨X.toArray⟩] W fun e w' => e = .returned (.int .u32 ((upd 0 (s.data.toList.take k) ^^^ upd 0 (t.data.toList.take k) ^^^ upd 0 (u.data.toList.take k) : Nat) : Int)) ∧ Below W.heap.size W w') := Lib.hid fun W => by
        rw [← upd_xor3 _ _ _ (by simp; omega) (by simp; omega), ← hXd]
        exact sum ⟨X.toArray⟩ W (by rw [size_mk, hX]; unfold maxLen; omega)
      have l1 := upd_lt 0 (s.data.toList.take k)
      have l2 := upd_lt 0 (t.data.toList.take k)
      have l3 := upd_lt 0 (u.data.toList.take k)
      have l4 := xor_lt l1 l2
      have n1 : (0 : Int) ≤ (k : Int) := by omega
      have n2 : (k : Int) ≤ (s.size : Int) := by omega
      have n3 : (k : Int) ≤ (t.size : Int) := by omega
      have n4 : (k : Int) ≤ (u.size : Int) := by omega
      clear hxs hsz ho ho' ho2 hst hs ht hX hXd
      generalize upd 0 (s.data.toList.take k) = D1 at *
      generalize upd 0 (t.data.toList.take k) = D2 at *
      generalize upd 0 (u.data.toList.take k) = D3 at *
      generalize upd (upd c s.data.toList) t.data.toList = B at *
      generalize upd c s.data.toList = A at *
      have x1 : bits .xor .u32 (D1 : Int) (D2 : Int) = ((D1 ^^^ D2 : Nat) : Int) := xor32 l1 l2
      have x2 : bits .xor .u32 ((D1 ^^^ D2 : Nat) : Int) (D3 : Int) = ((D1 ^^^ D2 ^^^ D3 : Nat) : Int) := xor32 l4 l3
      go_wp2_with fail
      refine wp_region_later (by kernel_rfl) (by kernel_rfl) ?_
      repeat (go_big_quiet_step (first | (go_at_call 10; with_reducible first | exact later_of (c1.out _) | exact later_of (c2.out _) | exact later_of (c3.out _) | exact later_of (c4.out _)) | (go_at_call 12; with_reducible first | exact later_of (d1.out _) | exact later_of (d2.out _) | exact later_of (d3.out _) | exact later_of (d4.out _))))
      refine wpQuiet_nil ?_
      rintro _ ⟨y, rfl⟩
      go_wp2_with fail
      go_ret
      exact ⟨rfl, hb.trans (y.ext.mono hb.size)⟩
theorem joins_walk (c : Nat) (s t u : ByteArray) (w : World) (hc : c < 4294967296) (_hs : s.size ≤ maxLen) (_ht : t.size ≤ maxLen) (_hu : u.size ≤ maxLen) :
    Calls Try.prog 5 #[.int .u32 (c : Int), .string s, .string t, .string u] w fun e w' => e = .returned (.bool true) ∧ Below w.heap.size w w' := by
  by_cases h1 : s.size ≤ 2000
  · have q1 : decide ((2000 : Int) < (s.size : Int)) = false := by simp; omega
    by_cases h2 : t.size ≤ 2000
    · have q2 : decide ((2000 : Int) < (t.size : Int)) = false := by simp; omega
      by_cases h3 : u.size ≤ 2000
      · exact joins_long c s t u w hc h1 h2 h3
      · have q3 : decide ((2000 : Int) < (u.size : Int)) = true := by simp; omega
        go_enter Try.func5, Try.ntmps5
        go_wp2_with fail
        refine (shown_calls _).mono ?_
        rintro e w1 ⟨rfl, hb1⟩
        go_wp2_with fail
        go_ret
        exact ⟨rfl, hb1⟩
    · have q2 : decide ((2000 : Int) < (t.size : Int)) = true := by simp; omega
      go_enter Try.func5, Try.ntmps5
      go_wp2_with fail
      refine (shown_calls _).mono ?_
      rintro e w1 ⟨rfl, hb1⟩
      go_wp2_with fail
      go_ret
      exact ⟨rfl, hb1⟩
  · have q1 : decide ((2000 : Int) < (s.size : Int)) = true := by simp; omega
    go_enter Try.func5, Try.ntmps5
    go_wp2_with fail
    refine (shown_calls _).mono ?_
    rintro e w1 ⟨rfl, hb1⟩
    go_wp2_with fail
    go_ret
    exact ⟨rfl, hb1⟩
end Go.Proofs.Ytpefdnmpachjeaa.Crc
