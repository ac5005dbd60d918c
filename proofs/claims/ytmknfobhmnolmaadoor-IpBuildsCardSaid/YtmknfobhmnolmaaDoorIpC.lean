/- Chapter 5: the reader, and sums: contracts. -/
import Derived.Test.YtmknfobhmnolmaaDoorIpA
namespace Go.Proofs.YtmknfobhmnolmaaDoor
open Go Go.RowKit Towline Towline.Ip
set_option linter.unusedVariables false
set_option linter.unusedSimpArgs false
set_option maxRecDepth 20000
set_option maxHeartbeats 4000000
abbrev E0 : Nat := 1000000000
abbrev E1 : Nat := 1000000001
/-- The number that bytes say. -/
def beN (l : List UInt8) : Nat := l.foldl (fun n c => n * 256 + c.toNat) 0
theorem beN_lt (l : List UInt8) : beN l < 256 ^ l.length := by
  have : ∀ (l : List UInt8) (n : Nat), l.foldl (fun n c => n * 256 + c.toNat) n < (n + 1) * 256 ^ l.length := by
    intro l
    induction l with
    | nil => intro n; simp
    | cons c r ih =>
      intro n
      have h := ih (n * 256 + c.toNat)
      have hc := UInt8.toNat_lt c
      rw [List.length_cons, Nat.pow_succ]
      simp only [List.foldl_cons]
      refine Nat.lt_of_lt_of_le h ?_
      rw [Nat.mul_comm (256 ^ r.length), ← Nat.mul_assoc]
      exact Nat.mul_le_mul_right _ (by omega)
  have := this l 0
  simpa [beN] using this
theorem or256 (n : Nat) (c : UInt8) (h : n < 16777216) : bitsOp .or .i64 (shlOp .i64 (n : Int) 8) (c.toNat : Int) = ((n * 256 + c.toNat : Nat) : Int) := by
  have hc := UInt8.toNat_lt c
  have w : ∀ m : Nat, m < 4294967296 → IntKind.i64.wrap (m : Int) = m := fun m hm => by
    simp [IntKind.wrap, IntKind.signed, IntKind.bits]
    omega
  have e0 : shlOp .i64 (n : Int) 8 = ((n * 256 : Nat) : Int) := by
    show IntKind.i64.wrap ((n : Int) * 2 ^ min (Int.toNat 8) IntKind.i64.bits) = _
    rw [show ((2 : Int) ^ min (Int.toNat 8) IntKind.i64.bits) = 256 from by decide, show ((n : Int) * 256) = ((n * 256 : Nat) : Int) from by omega, w _ (by omega)]
  rw [e0]
  unfold bitsOp
  simp only
  have h1 : (BitVec.ofInt IntKind.i64.bits ((n * 256 : Nat) : Int) ||| BitVec.ofInt IntKind.i64.bits (c.toNat : Int)).toNat = n * 256 + c.toNat := by
    rw [BitVec.toNat_or, BitVec.toNat_ofInt, BitVec.toNat_ofInt]
    have e4 : ((2 ^ IntKind.i64.bits : Nat) : Int) = 18446744073709551616 := by decide
    rw [e4]
    have e5 : (((n * 256 : Nat) : Int) % 18446744073709551616).toNat = n * 256 := by omega
    have e6 : (((c.toNat : Nat) : Int) % 18446744073709551616).toNat = c.toNat := by omega
    rw [e5, e6]
    have := Nat.shiftLeft_add_eq_or_of_lt (i := 8) (show c.toNat < 2 ^ 8 from hc) n
    rw [Nat.shiftLeft_eq] at this
    exact this.symm
  rw [h1]
  exact w _ (by omega)
theorem beN_take (l : List UInt8) (k : Nat) (h : k < l.length) : beN (l.take (k + 1)) = beN (l.take k) * 256 + (l.getD k 0).toNat := by
  unfold beN
  rw [List.take_add_one, List.foldl_append, List.getElem?_eq_getElem h, List.getD_eq_getElem?_getD, List.getElem?_eq_getElem h]
  rfl
theorem sum_take (s : List UInt8) (j : Nat) (h : j < s.length) : sumB true (s.take (j + 1)) = sumB true (s.take j) + (if j % 2 = 0 then (s.getD j 0).toNat * 256 else (s.getD j 0).toNat) := by
  rw [List.take_add_one, List.getElem?_eq_getElem h, List.getD_eq_getElem?_getD, List.getElem?_eq_getElem h]
  show sumB true (s.take j ++ [s[j]]) = _
  rw [sumB_append, List.length_take, Nat.min_eq_left (by omega)]
  split <;> simp [sumB]
theorem shlc0 (c : UInt8) : shlOp .i64 (c.toNat : Int) (8 * (1 - ((0 : Nat) : Int))) = ((c.toNat * 256 : Nat) : Int) := by
  have hc := UInt8.toNat_lt c
  show IntKind.i64.wrap ((c.toNat : Int) * 2 ^ min (Int.toNat (8 * (1 - ((0 : Nat) : Int)))) IntKind.i64.bits) = _
  rw [show ((2 : Int) ^ min (Int.toNat (8 * (1 - ((0 : Nat) : Int)))) IntKind.i64.bits) = 256 from by decide]
  simp [IntKind.wrap, IntKind.signed, IntKind.bits]
  omega
theorem shlc1 (c : UInt8) : shlOp .i64 (c.toNat : Int) (8 * (1 - ((1 : Nat) : Int))) = ((c.toNat : Nat) : Int) := by
  have hc := UInt8.toNat_lt c
  show IntKind.i64.wrap ((c.toNat : Int) * 2 ^ min (Int.toNat (8 * (1 - ((1 : Nat) : Int)))) IntKind.i64.bits) = _
  rw [show ((2 : Int) ^ min (Int.toNat (8 * (1 - ((1 : Nat) : Int)))) IntKind.i64.bits) = 1 from by decide]
  simp [IntKind.wrap, IntKind.signed, IntKind.bits]
  omega
theorem shr16 (n : Nat) : shrOp .i64 (n : Int) 16 = ((n / 65536 : Nat) : Int) := by
  unfold shrOp
  simp
  rw [show ((2 : Int) ^ min 16 IntKind.i64.bits) = 65536 from by decide, Int.fdiv_eq_ediv_of_nonneg _ (by decide)]
theorem and16 (n : Nat) (h : n < 2 ^ 62) : bitsOp .and .i64 (n : Int) 65535 = ((n % 65536 : Nat) : Int) := by
  unfold bitsOp
  simp only
  have h1 : (BitVec.ofInt IntKind.i64.bits (n : Int) &&& BitVec.ofInt IntKind.i64.bits 65535).toNat = n % 65536 := by
    rw [BitVec.toNat_and, BitVec.toNat_ofInt, BitVec.toNat_ofInt]
    have e4 : ((2 ^ IntKind.i64.bits : Nat) : Int) = 18446744073709551616 := by decide
    rw [e4]
    have e5 : ((n : Int) % 18446744073709551616).toNat = n := by omega
    rw [e5]
    exact Nat.and_two_pow_sub_one_eq_mod n 16
  rw [h1]
  simp [IntKind.wrap, IntKind.signed, IntKind.bits]
  omega
theorem not16 (n : Nat) (h : n < 65536) : bitsOp .xor .u16 (if IntKind.u16.signed = true then -1 else IntKind.u16.max) (IntKind.u16.wrap (n : Int)) = ((65535 - n : Nat) : Int) := by
  have w : ∀ m : Nat, m < 65536 → IntKind.u16.wrap (m : Int) = m := fun m hm => by
    simp [IntKind.wrap, IntKind.signed, IntKind.bits]
    omega
  rw [w n h, show (if IntKind.u16.signed = true then -1 else IntKind.u16.max : Int) = 65535 from by decide]
  unfold bitsOp
  simp only
  have h1 : (BitVec.ofInt IntKind.u16.bits 65535 ^^^ BitVec.ofInt IntKind.u16.bits (n : Int)).toNat = 65535 - n := by
    rw [show BitVec.ofInt IntKind.u16.bits 65535 = BitVec.allOnes 16 from rfl]
    show (BitVec.allOnes 16 ^^^ BitVec.ofInt 16 (n : Int)).toNat = 65535 - n
    rw [BitVec.allOnes_xor, BitVec.toNat_not, BitVec.toNat_ofInt]
    omega
  rw [h1]
  exact w _ (by omega)
theorem reader_spec (d : List UInt8) : LSpec Tryd.prog 23 [tvs d] [] (fun r hl => r = .fn 28 [.ptr 1 0, .ptr 3 0] ∧ hl = [(1, .box [tvs d]), (3, .box [tvi 0])]) := by
  refine LSpec.run (tysOk) followsB Tryd.func23 (by decide) rfl Tryd.ntmps23 (Nat.le_of_ble_eq_true rfl) rfl rfl fun w0 R0 Lo hG => ?_
  conv => whnf
  exact ⟨_, [(1, .box [tvs d]), (3, .box [tvi 0])], .refl _, ⟨OLe.refl _, OLe.refl _, trivial⟩, rfl, rfl⟩
theorem take_spec (d : List UInt8) (o k : Nat) (hk : k ≤ 4) (hd : d.length ≤ 2 ^ 40) (ho : o + k ≤ d.length) :
    LSpec Tryd.prog 28 [tvi k, .ptr E0 0, .ptr E1 0] [(E0, .box [tvs d]), (E1, .box [tvi o])] (fun r hl => r = tvi (beN ((d.drop o).take k)) ∧ hl = [(E0, .box [tvs d]), (E1, .box [tvi (o + k : Nat)])]) := by
  have hcut : cutS d (some (o : Int)) (some ((o : Int) + (k : Int))) = (d.drop o).take k := by
    simp only [cutS, Int.toNat_natCast]
    rw [List.drop_take]
    congr 1
    omega
  have hsl : ((d.drop o).take k).length = k := by rw [List.length_take, List.length_drop]; omega
  refine LSpec.run (tysOk) followsB Tryd.func28 (by decide) rfl Tryd.ntmps28 (Nat.le_of_ble_eq_true rfl) rfl rfl fun w0 R0 Lo hG => ?_
  conv => whnf
  refine ⟨by first | omega | (simp only [Int.toNat_natCast]; omega) | (simp; done) | (simp; omega), ?_⟩
  conv => whnf
  refine ⟨by first | omega | (simp only [Int.toNat_natCast]; omega) | (simp; done) | (simp; omega), ?_⟩
  conv => whnf
  rw [hcut]
  generalize (d.drop o).take k = g at *
  refine ⟨by first | omega | (simp only [Int.toNat_natCast]; omega) | (simp; done) | (simp; omega), ?_⟩
  conv => whnf
  refine ALoop.introR tysOk followsB (fun j : {j // j ≤ k} => ([(0, tvi k), (1, .ptr E0 0), (2, .ptr E1 0), (5, tvi (beN (g.take j.1) : Nat)), (14, .d (.sl 1 g.length (bytesF g))), (15, tvi g.length), (16, tvi j.1)], [(E0, .box [tvs d]), (E1, .box [tvi o])])) (fun j => k - j.1) ⟨0, by omega⟩ ?_ ?_
  · exact ⟨.refl _, .refl _, .refl _, .refl _, .refl _, .refl _, .refl _, OLe.refl _, OLe.refl _, trivial⟩
  rintro ⟨j, hj⟩
  dsimp only
  conv => whnf
  split <;> rename_i h1
  · have hlt : j < g.length := by simpa using h1
    have hb := beN_lt (g.take j)
    have hjl : (g.take j).length = j := by rw [List.length_take]; omega
    rw [hjl] at hb
    have hb2 : beN (g.take j) < 16777216 := by
      have h3 : 256 ^ j ≤ 256 ^ 3 := Nat.pow_le_pow_right (by decide) (by omega)
      have h4 : (256 : Nat) ^ 3 = 16777216 := by decide
      omega
    have hc := UInt8.toNat_lt (g.getD j 0)
    conv => whnf
    refine ⟨by first | omega | (simp only [Int.toNat_natCast]; omega) | (simp; done) | (simp; omega), ?_⟩
    conv => whnf
    refine ⟨by first | omega | (simp only [Int.toNat_natCast]; omega) | (simp; done) | (simp; omega), ?_⟩
    conv => whnf
    refine ⟨by first | omega | (simp only [Int.toNat_natCast]; omega) | (simp; done) | (simp; omega), ?_⟩
    conv => whnf
    rw [show (g.getD ((j : Int)).toNat 0) = g.getD j 0 from by rw [Int.toNat_natCast], or256 _ _ hb2]
    refine ⟨by first | omega | (simp only [Int.toNat_natCast]; omega) | (simp; done) | (simp; omega), ?_⟩
    conv => whnf
    refine ⟨⟨j + 1, by omega⟩, [], by dsimp only; omega, .refl _, .refl _, .refl _, .of_eq ?_, .refl _, .refl _, .refl _, OLe.refl _, OLe.refl _, trivial⟩
    dsimp only
    rw [beN_take _ j hlt]
  · have hlt : ¬ j < g.length := by simpa using h1
    obtain rfl : j = k := by omega
    conv => whnf
    refine ⟨by first | omega | (simp only [Int.toNat_natCast]; omega) | (simp; done) | (simp; omega), ?_⟩
    conv => whnf
    rw [List.take_of_length_le (show g.length ≤ j from by omega)]
    refine ⟨_, _, .refl _, ?_, rfl, rfl⟩
    exact ⟨OLe.refl _, OLe.refl _, trivial⟩
theorem check16_spec (s : List UInt8) (hs : s.length ≤ 2 ^ 30) : PSpec Tryd.prog 8 [tvs s] (· = .d (.i .u16 (c16 s))) := by
  refine PSpec.run (tysOk) followsB Tryd.func8 (by decide) rfl Tryd.ntmps8 (Nat.le_of_ble_eq_true rfl) rfl fun w0 R0 hG => ?_
  conv => whnf
  refine ⟨by first | omega | (simp only [Int.toNat_natCast]; omega) | (simp; done) | (simp; omega), ?_⟩
  conv => whnf
  refine ALoop.intro tysOk followsB (fun j : {j // j ≤ s.length} => ([(0, tvs s), (3, tvi (sumB true (s.take j.1) : Nat)), (7, .d (.sl 1 s.length (bytesF s))), (8, tvi s.length), (9, tvi j.1)], [])) (fun j => s.length - j.1) ⟨0, by omega⟩ ?_ ?_
  · exact ⟨.refl _, .refl _, .refl _, .refl _, .refl _, trivial⟩
  rintro ⟨j, hj⟩
  dsimp only
  conv => whnf
  split <;> rename_i h1
  · have hlt : j < s.length := by simpa using h1
    conv => whnf
    have hb := sumB_le (s.take j) true
    rw [List.length_take] at hb
    have hc := UInt8.toNat_lt (s.getD j 0)
    have hsum := sum_take s j hlt
    conv => whnf
    refine ⟨by first | omega | (simp only [Int.toNat_natCast]; omega) | (simp; done) | (simp; omega), ?_⟩
    conv => whnf
    rw [show s.getD ((j : Int)).toNat 0 = s.getD j 0 from by rw [Int.toNat_natCast]]
    refine ⟨by first | omega | (simp only [Int.toNat_natCast]; omega) | (simp; done) | (simp; omega), ?_⟩
    conv => whnf
    rw [show ((j : Int)).tmod 2 = ((j % 2 : Nat) : Int) from by rw [Int.tmod_eq_emod_of_nonneg (by omega)]; omega]
    rcases Nat.mod_two_eq_zero_or_one j with hp | hp
    · rw [hp] at hsum ⊢
      rw [if_pos rfl] at hsum
      refine ⟨by first | omega | (simp only [Int.toNat_natCast]; omega) | (simp; done) | (simp; omega), ?_⟩
      conv => whnf
      refine ⟨by first | omega | (simp only [Int.toNat_natCast]; omega) | (simp; done) | (simp; omega), ?_⟩
      conv => whnf
      refine ⟨by first | omega | (simp only [Int.toNat_natCast]; omega) | (simp; done) | (simp; omega), ?_⟩
      conv => whnf
      rw [shlc0]
      refine ⟨by first | omega | (simp only [Int.toNat_natCast]; omega) | (simp; done) | (simp; omega), ?_⟩
      conv => whnf
      refine ⟨by first | omega | (simp only [Int.toNat_natCast]; omega) | (simp; done) | (simp; omega), ?_⟩
      conv => whnf
      refine ⟨by first | omega | (simp only [Int.toNat_natCast]; omega) | (simp; done) | (simp; omega), ?_⟩
      conv => whnf
      refine ⟨⟨j + 1, by omega⟩, by dsimp only; omega, .refl _, .of_eq ?_, .refl _, .refl _, .refl _, trivial⟩
      dsimp only
      rw [hsum, Int.natCast_add]
    · rw [hp] at hsum ⊢
      rw [if_neg (by decide)] at hsum
      refine ⟨by first | omega | (simp only [Int.toNat_natCast]; omega) | (simp; done) | (simp; omega), ?_⟩
      conv => whnf
      refine ⟨by first | omega | (simp only [Int.toNat_natCast]; omega) | (simp; done) | (simp; omega), ?_⟩
      conv => whnf
      refine ⟨by first | omega | (simp only [Int.toNat_natCast]; omega) | (simp; done) | (simp; omega), ?_⟩
      conv => whnf
      rw [shlc1]
      refine ⟨by first | omega | (simp only [Int.toNat_natCast]; omega) | (simp; done) | (simp; omega), ?_⟩
      conv => whnf
      refine ⟨by first | omega | (simp only [Int.toNat_natCast]; omega) | (simp; done) | (simp; omega), ?_⟩
      conv => whnf
      refine ⟨by first | omega | (simp only [Int.toNat_natCast]; omega) | (simp; done) | (simp; omega), ?_⟩
      conv => whnf
      refine ⟨⟨j + 1, by omega⟩, by dsimp only; omega, .refl _, .of_eq ?_, .refl _, .refl _, .refl _, trivial⟩
      dsimp only
      rw [hsum, Int.natCast_add]
  · obtain rfl : j = s.length := by
      have : ¬ j < s.length := by simpa using h1
      omega
    rw [List.take_length]
    have hS := sumB_le s true
    conv => whnf
    refine ALoop.intro tysOk followsB (fun n : {n : Nat // n ≤ 2 ^ 50 ∧ fold16 n = fold16 (sumB true s)} => ([(3, tvi n.1)], [])) (fun n => n.1) ⟨sumB true s, by omega, rfl⟩ ?_ ?_
    · exact ⟨.refl _, trivial⟩
    rintro ⟨n, hn, hf⟩
    dsimp only
    conv => whnf
    refine ⟨by first | omega | (simp only [Int.toNat_natCast]; omega) | (simp; done) | (simp; omega), ?_⟩
    conv => whnf
    rw [shr16 n]
    split <;> rename_i h1
    · have hlt : 65536 ≤ n := by
        have : (0 : Int) < ((n / 65536 : Nat) : Int) := by simpa using h1
        omega
      conv => whnf
      rw [and16 n (by omega)]
      refine ⟨by first | omega | (simp only [Int.toNat_natCast]; omega) | (simp; done) | (simp; omega), ?_⟩
      conv => whnf
      rw [shr16 n]
      refine ⟨by first | omega | (simp only [Int.toNat_natCast]; omega) | (simp; done) | (simp; omega), ?_⟩
      conv => whnf
      refine ⟨⟨n % 65536 + n / 65536, by omega, (fold16_step hlt).trans hf⟩, by dsimp only; omega, .of_eq ?_, trivial⟩
      dsimp only
      rw [Int.natCast_add]
    · have hlt : n < 65536 := by
        have : ¬ (0 : Int) < ((n / 65536 : Nat) : Int) := by simpa using h1
        omega
      rw [fold16_small hlt] at hf
      subst hf
      conv => whnf
      refine ⟨_, .refl _, ?_, rfl⟩
      rw [not16 _ hlt]
      rfl
end Go.Proofs.YtmknfobhmnolmaaDoor
