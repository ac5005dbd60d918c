/- The plain arithmetic of the CRC-32C register: linearity, the byte table, injectivity. No program in sight. -/
import Derived.Laws.BitsAllLaws
namespace Towline.Crc

def poly : Nat := 2197175160
def bitStep (r : Nat) : Nat := if r % 2 = 1 then (r >>> 1) ^^^ 2197175160 else r >>> 1
def bits (r : Nat) : Nat → Nat
  | 0 => r
  | k + 1 => bitStep (bits r k)
def tab (i : Nat) : Nat := bits i 8
def byteStep (r : Nat) (c : Nat) : Nat := bits (r ^^^ c) 8
def reg (r : Nat) (l : List UInt8) : Nat := l.foldl (fun r c => byteStep r c.toNat) r
def compl (x : Nat) : Nat := 4294967295 - x
def upd (c : Nat) (l : List UInt8) : Nat := compl (reg (compl c) l)

theorem xor_lt {a b : Nat} (ha : a < 4294967296) (hb : b < 4294967296) : a ^^^ b < 4294967296 := Nat.xor_lt_two_pow (n := 32) ha hb
theorem bitStep_lt {r : Nat} (h : r < 4294967296) : bitStep r < 4294967296 := by
  unfold bitStep
  have : r >>> 1 < 4294967296 := by rw [Nat.shiftRight_eq_div_pow]; omega
  split
  · exact xor_lt this (by omega)
  · exact this
theorem bits_lt {r : Nat} (h : r < 4294967296) (k : Nat) : bits r k < 4294967296 := by
  induction k with
  | zero => exact h
  | succ k ih => exact bitStep_lt ih
theorem tab_lt {i : Nat} (h : i < 256) : tab i < 4294967296 := bits_lt (by omega) _
theorem byteStep_lt {r c : Nat} (h : r < 4294967296) (hc : c < 256) : byteStep r c < 4294967296 := bits_lt (xor_lt h (by omega)) _
theorem reg_lt {r : Nat} (h : r < 4294967296) (l : List UInt8) : reg r l < 4294967296 := by
  unfold reg
  induction l generalizing r with
  | nil => exact h
  | cons c l ih => exact ih (byteStep_lt h (by have := c.toNat_lt; omega))
theorem compl_lt (x : Nat) : compl x < 4294967296 := by unfold compl; omega
theorem compl_compl {x : Nat} (h : x < 4294967296) : compl (compl x) = x := by unfold compl; omega
theorem upd_lt (c : Nat) (l : List UInt8) : upd c l < 4294967296 := compl_lt _

theorem xor_mod2 (a b : Nat) : (a ^^^ b) % 2 = (a % 2 + b % 2) % 2 := by
  have h := Nat.xor_mod_two_pow (a := a) (b := b) (n := 1)
  have ha : a % 2 = 0 ∨ a % 2 = 1 := by omega
  have hb : b % 2 = 0 ∨ b % 2 = 1 := by omega
  rw [Nat.pow_one] at h
  rw [h]
  rcases ha with ha | ha <;> rcases hb with hb | hb <;> rw [ha, hb] <;> rfl
theorem bitStep_xor (a b : Nat) : bitStep (a ^^^ b) = bitStep a ^^^ bitStep b := by
  unfold bitStep
  rw [xor_mod2, Nat.shiftRight_xor_distrib]
  have ha : a % 2 = 0 ∨ a % 2 = 1 := by omega
  have hb : b % 2 = 0 ∨ b % 2 = 1 := by omega
  rcases ha with ha | ha <;> rcases hb with hb | hb <;> simp [ha, hb]
  · rw [Nat.xor_assoc]
  · rw [Nat.xor_assoc, Nat.xor_assoc, Nat.xor_comm (b >>> 1)]
  · have h : ∀ x y p : Nat, (x ^^^ p) ^^^ (y ^^^ p) = x ^^^ y := by
      intro x y p
      rw [Nat.xor_comm y p, Nat.xor_assoc, ← Nat.xor_assoc p p y, Nat.xor_self, Nat.zero_xor]
    rw [h]
theorem bits_xor (a b k : Nat) : bits (a ^^^ b) k = bits a k ^^^ bits b k := by
  induction k with
  | zero => rfl
  | succ k ih => simp only [bits, ih, bitStep_xor]
theorem bits_shift (x k : Nat) : bits (x <<< k) k = x := by
  suffices h : ∀ j, j ≤ k → bits (x <<< k) j = x <<< (k - j) by
    have := h k (Nat.le_refl _); simpa using this
  intro j
  induction j with
  | zero => intro _; rfl
  | succ j ih =>
    intro hj
    have e : k - j = (k - (j + 1)) + 1 := by omega
    simp only [bits]
    rw [ih (by omega), e]
    unfold bitStep
    have h2 : x <<< (k - (j + 1) + 1) = 2 * x <<< (k - (j + 1)) := by
      rw [Nat.shiftLeft_succ]
    rw [h2, if_neg (by omega), Nat.shiftRight_eq_div_pow]
    omega
/-- The table's way of one byte is the bits' way. -/
theorem byteStep_tab {r c : Nat} (_hc : c < 256) : byteStep r c = tab ((r % 256) ^^^ c) ^^^ (r >>> 8) := by
  have hr : r = (r % 256) ^^^ ((r >>> 8) <<< 8) := by
    apply Nat.eq_of_testBit_eq
    intro i
    rw [Nat.testBit_xor, Nat.testBit_shiftLeft, Nat.testBit_shiftRight, show (256 : Nat) = 2 ^ 8 from rfl, Nat.testBit_mod_two_pow]
    by_cases h : i < 8
    · simp [h, show ¬ 8 ≤ i from by omega]
    · simp [h, show 8 ≤ i from by omega, show 8 + (i - 8) = i from by omega]
  unfold byteStep tab
  conv => lhs; rw [hr]
  rw [Nat.xor_assoc, Nat.xor_comm (_ <<< 8), ← Nat.xor_assoc, bits_xor, bits_shift]

theorem bitStep_inj {a b : Nat} (ha : a < 4294967296) (hb : b < 4294967296) (h : bitStep a = bitStep b) : a = b := by
  unfold bitStep at h
  have sa : a >>> 1 < 2147483648 := by rw [Nat.shiftRight_eq_div_pow]; omega
  have sb : b >>> 1 < 2147483648 := by rw [Nat.shiftRight_eq_div_pow]; omega
  have hi : ∀ x : Nat, x < 2147483648 → (x ^^^ 2197175160).testBit 31 = true := by
    intro x hx
    rw [Nat.testBit_xor, Nat.testBit_lt_two_pow (show x < 2 ^ 31 from hx)]
    decide
  have lo : ∀ x : Nat, x < 2147483648 → x.testBit 31 = false := fun x hx => Nat.testBit_lt_two_pow (show x < 2 ^ 31 from hx)
  have da : a >>> 1 = a / 2 := by rw [Nat.shiftRight_eq_div_pow]
  have db : b >>> 1 = b / 2 := by rw [Nat.shiftRight_eq_div_pow]
  have can : ∀ x y p : Nat, x ^^^ p = y ^^^ p → x = y := by
    intro x y p h
    have h2 := congrArg (· ^^^ p) h
    simpa [Nat.xor_assoc] using h2
  by_cases pa : a % 2 = 1 <;> by_cases pb : b % 2 = 1
  · rw [if_pos pa, if_pos pb] at h
    have := can _ _ _ h
    omega
  · rw [if_pos pa, if_neg pb] at h
    have h1 := hi _ sa
    rw [h, lo _ sb] at h1
    cases h1
  · rw [if_neg pa, if_pos pb] at h
    have h1 := hi _ sb
    rw [← h, lo _ sa] at h1
    cases h1
  · rw [if_neg pa, if_neg pb] at h
    omega
theorem bits_inj {a b : Nat} (ha : a < 4294967296) (hb : b < 4294967296) (k : Nat) (h : bits a k = bits b k) : a = b := by
  induction k with
  | zero => exact h
  | succ k ih => exact ih (bitStep_inj (bits_lt ha k) (bits_lt hb k) h)
theorem xor_cancel {x y p : Nat} (h : x ^^^ p = y ^^^ p) : x = y := by
  have h2 := congrArg (· ^^^ p) h
  simpa [Nat.xor_assoc] using h2
theorem byteStep_inj {a b c : Nat} (ha : a < 4294967296) (hb : b < 4294967296) (hc : c < 256) (h : byteStep a c = byteStep b c) : a = b :=
  xor_cancel (bits_inj (xor_lt ha (by omega)) (xor_lt hb (by omega)) 8 h)
theorem byteStep_inj_byte {r c d : Nat} (hr : r < 4294967296) (hc : c < 256) (hd : d < 256) (h : byteStep r c = byteStep r d) : c = d := by
  have h1 := bits_inj (xor_lt hr (by omega)) (xor_lt hr (by omega)) 8 h
  rw [Nat.xor_comm r c, Nat.xor_comm r d] at h1
  exact xor_cancel h1
theorem reg_inj {a b : Nat} (ha : a < 4294967296) (hb : b < 4294967296) (l : List UInt8) (h : reg a l = reg b l) : a = b := by
  induction l generalizing a b with
  | nil => exact h
  | cons c l ih =>
    have hc : c.toNat < 256 := c.toNat_lt
    exact byteStep_inj ha hb hc (ih (byteStep_lt ha hc) (byteStep_lt hb hc) h)
theorem compl_inj {a b : Nat} (ha : a < 4294967296) (hb : b < 4294967296) (h : compl a = compl b) : a = b := by
  unfold compl at h; omega
theorem reg_append (r : Nat) (a b : List UInt8) : reg r (a ++ b) = reg (reg r a) b := by
  unfold reg; rw [List.foldl_append]
/-- C3: a sum goes on. -/
theorem upd_append (c : Nat) (a b : List UInt8) : upd c (a ++ b) = upd (upd c a) b := by
  unfold upd
  rw [compl_compl (reg_lt (compl_lt _) _), reg_append]
theorem upd_nil {c : Nat} (h : c < 4294967296) : upd c [] = c := compl_compl h
/-- C3: unlike in one byte alone: unlike sums. -/
theorem upd_one (c : Nat) (a b : List UInt8) (x y : UInt8) (h : x ≠ y) : upd c (a ++ x :: b) ≠ upd c (a ++ y :: b) := by
  intro e
  have h1 := compl_inj (reg_lt (compl_lt _) _) (reg_lt (compl_lt _) _) e
  rw [reg_append, reg_append] at h1
  have hx : x.toNat < 256 := x.toNat_lt
  have hy : y.toNat < 256 := y.toNat_lt
  have hr := reg_lt (compl_lt c) a
  have h2 := reg_inj (byteStep_lt hr hx) (byteStep_lt hr hy) b h1
  exact h (UInt8.toNat_inj.1 (byteStep_inj_byte hr hx hy h2))

theorem byteStep_xor (r s c d : Nat) : byteStep (r ^^^ s) (c ^^^ d) = byteStep r c ^^^ byteStep s d := by
  unfold byteStep
  rw [← bits_xor]
  congr 1
  rw [Nat.xor_assoc, Nat.xor_assoc, ← Nat.xor_assoc s, Nat.xor_comm s c, Nat.xor_assoc]
/-- Three texts of one length, xored. -/
def xor3 : List UInt8 → List UInt8 → List UInt8 → List UInt8
  | a :: l, b :: m, c :: n => (a ^^^ b ^^^ c) :: xor3 l m n
  | _, _, _ => []
theorem reg_xor3 (l m n : List UInt8) (r s t : Nat) (h1 : l.length = m.length) (h2 : l.length = n.length) :
    reg (r ^^^ s ^^^ t) (xor3 l m n) = reg r l ^^^ reg s m ^^^ reg t n := by
  induction l generalizing m n r s t with
  | nil =>
    obtain rfl : m = [] := List.length_eq_zero_iff.1 h1.symm
    obtain rfl : n = [] := List.length_eq_zero_iff.1 h2.symm
    rfl
  | cons a l ih =>
    match m, n, h1, h2 with
    | b :: m, c :: n, h1, h2 =>
      simp only [List.length_cons, Nat.add_right_cancel_iff] at h1 h2
      have := ih m n (byteStep r a.toNat) (byteStep s b.toNat) (byteStep t c.toNat) h1 h2
      simp only [reg, xor3, List.foldl_cons] at this ⊢
      rw [← this, UInt8.toNat_xor, UInt8.toNat_xor, byteStep_xor, byteStep_xor]
theorem compl_xor {x : Nat} (h : x < 4294967296) : compl x = x ^^^ 4294967295 := by
  have h1 := BitVec.toNat_not (x := BitVec.ofNat 32 x)
  have h2 : (~~~ BitVec.ofNat 32 x) = BitVec.ofNat 32 x ^^^ BitVec.allOnes 32 := by rw [BitVec.xor_allOnes]
  rw [h2, BitVec.toNat_xor, BitVec.toNat_ofNat, BitVec.toNat_allOnes, Nat.mod_eq_of_lt h] at h1
  unfold compl
  simpa using h1.symm
theorem upd_xor3 (l m n : List UInt8) (h1 : l.length = m.length) (h2 : l.length = n.length) : upd 0 (xor3 l m n) = upd 0 l ^^^ upd 0 m ^^^ upd 0 n := by
  have e : compl 0 = compl 0 ^^^ compl 0 ^^^ compl 0 := by decide
  have h := reg_xor3 l m n (compl 0) (compl 0) (compl 0) h1 h2
  rw [← e] at h
  unfold upd
  have b1 := reg_lt (compl_lt 0) l
  have b2 := reg_lt (compl_lt 0) m
  have b3 := reg_lt (compl_lt 0) n
  have b4 := reg_lt (compl_lt 0) (xor3 l m n)
  rw [compl_xor b1, compl_xor b2, compl_xor b3, compl_xor b4, h]
  generalize reg (compl 0) l = x
  generalize reg (compl 0) m = y
  generalize reg (compl 0) n = z
  have k : ∀ x y z p : Nat, x ^^^ y ^^^ z ^^^ p = (x ^^^ p) ^^^ (y ^^^ p) ^^^ (z ^^^ p) := by
    intro x y z p
    apply Nat.eq_of_testBit_eq
    intro i
    simp only [Nat.testBit_xor]
    cases x.testBit i <;> cases y.testBit i <;> cases z.testBit i <;> cases p.testBit i <;> rfl
  exact k x y z _
/-- The four bytes of a number, the lowest first. -/
def le4 (c : Nat) : List UInt8 := [UInt8.ofNat c, UInt8.ofNat (c >>> 8), UInt8.ofNat (c >>> 16), UInt8.ofNat (c >>> 24)]
def zeroed (l : List UInt8) : List UInt8 := l.take 8 ++ [0, 0, 0, 0] ++ l.drop 12
def sealed (l : List UInt8) : List UInt8 := l.take 8 ++ le4 (upd 0 (zeroed l)) ++ l.drop 12
/-- The noughts' places filled with the bytes of c, one by one. -/
def filled (l : List UInt8) (c : Nat) : Nat → List UInt8
  | 0 => zeroed l
  | k + 1 => (filled l c k).set (8 + k) (UInt8.ofNat (c >>> (8 * k)))
theorem zeroed_length {l : List UInt8} (h : 12 ≤ l.length) : (zeroed l).length = l.length := by unfold zeroed; simp; omega
theorem filled_length {l : List UInt8} (h : 12 ≤ l.length) (c k : Nat) : (filled l c k).length = l.length := by
  induction k with
  | zero => exact zeroed_length h
  | succ k ih => simp [filled, ih]
theorem split12 {l : List UInt8} (h : 12 ≤ l.length) : ∃ a0 a1 a2 a3 a4 a5 a6 a7 b0 b1 b2 b3 t, l = a0 :: a1 :: a2 :: a3 :: a4 :: a5 :: a6 :: a7 :: b0 :: b1 :: b2 :: b3 :: t := by
  match l, h with
  | a0 :: a1 :: a2 :: a3 :: a4 :: a5 :: a6 :: a7 :: b0 :: b1 :: b2 :: b3 :: t, _ => exact ⟨_, _, _, _, _, _, _, _, _, _, _, _, _, rfl⟩
theorem filled_four {l : List UInt8} (h : 12 ≤ l.length) : filled l (upd 0 (zeroed l)) 4 = sealed l := by
  unfold sealed
  generalize upd 0 (zeroed l) = c
  obtain ⟨a0, a1, a2, a3, a4, a5, a6, a7, b0, b1, b2, b3, t, rfl⟩ := split12 h
  rfl
theorem sealed_length {l : List UInt8} (h : 12 ≤ l.length) : (sealed l).length = l.length := by unfold sealed le4; simp; omega
theorem zeroed_congr {l m : List UInt8} (h1 : l.take 8 = m.take 8) (h2 : l.drop 12 = m.drop 12) : zeroed l = zeroed m := by unfold zeroed; rw [h1, h2]
theorem sealed_congr {l m : List UInt8} (h1 : l.take 8 = m.take 8) (h2 : l.drop 12 = m.drop 12) : sealed l = sealed m := by unfold sealed; rw [h1, h2, zeroed_congr h1 h2]
theorem sealed_take {l : List UInt8} (h : 12 ≤ l.length) : (sealed l).take 8 = l.take 8 := by
  obtain ⟨a0, a1, a2, a3, a4, a5, a6, a7, b0, b1, b2, b3, t, rfl⟩ := split12 h
  rfl
theorem sealed_drop {l : List UInt8} (h : 12 ≤ l.length) : (sealed l).drop 12 = l.drop 12 := by
  obtain ⟨a0, a1, a2, a3, a4, a5, a6, a7, b0, b1, b2, b3, t, rfl⟩ := split12 h
  rfl
theorem sealed_sealed {l : List UInt8} (h : 12 ≤ l.length) : sealed (sealed l) = sealed l := sealed_congr (sealed_take h) (sealed_drop h)
theorem le4_inj {a b : Nat} (ha : a < 4294967296) (hb : b < 4294967296) (h : le4 a = le4 b) : a = b := by
  unfold le4 at h
  simp only [List.cons.injEq, and_true] at h
  obtain ⟨h0, h1, h2, h3⟩ := h
  have g0 := congrArg UInt8.toNat h0
  have g1 := congrArg UInt8.toNat h1
  have g2 := congrArg UInt8.toNat h2
  have g3 := congrArg UInt8.toNat h3
  simp only [UInt8.toNat_ofNat', Nat.shiftRight_eq_div_pow] at g0 g1 g2 g3
  omega
theorem xor_ne {a x : UInt8} (h : x ≠ 0) : a ^^^ x ≠ a := by
  intro e
  have := congrArg (a ^^^ ·) e
  simp only [UInt8.xor_self, ← UInt8.xor_assoc, UInt8.zero_xor] at this
  exact h this
theorem sealed_mid {l : List UInt8} (h : 12 ≤ l.length) : ((sealed l).drop 8).take 4 = le4 (upd 0 (zeroed l)) := by
  unfold sealed
  generalize upd 0 (zeroed l) = c
  obtain ⟨a0, a1, a2, a3, a4, a5, a6, a7, b0, b1, b2, b3, t, rfl⟩ := split12 h
  rfl
/-- C3: a sealed packet with one byte turned is not sealed. -/
theorem turned {l : List UInt8} (h : 12 ≤ l.length) (hl : sealed l = l) {k : Nat} (hk : k < l.length) {y : UInt8} (hy : y ≠ l.getD k 0) : sealed (l.set k y) ≠ l.set k y := by
  intro e
  have h12' : 12 ≤ (l.set k y).length := by simpa using h
  by_cases hmid : 8 ≤ k ∧ k < 12
  · have h1 : l.take 8 = (l.set k y).take 8 := by
      rw [List.take_set]
      rw [List.set_eq_of_length_le (by simp; omega)]
    have h2 : l.drop 12 = (l.set k y).drop 12 := by
      rw [List.drop_set, if_pos (by omega)]
    rw [← sealed_congr h1 h2, hl] at e
    have := congrArg (fun m => m.getD k 0) e
    simp [hk] at this
    simp [hk] at hy
    exact hy this.symm
  · -- the noughts' places hold the same; the text under the sum differs in one byte
    have hz : zeroed (l.set k y) = (zeroed l).set k y := by
      unfold zeroed
      by_cases h8 : k < 8
      · rw [List.take_set, List.drop_set, if_pos (by omega), List.append_assoc, List.append_assoc, List.set_append_left _ _ (by simp; omega)]
      · rw [List.take_set, List.set_eq_of_length_le (by simp; omega), List.drop_set, if_neg (by omega), List.append_assoc, List.append_assoc, List.set_append_right _ _ (by simp; omega), List.set_append_right _ _ (by simp; omega)]
        congr 3
        simp; omega
    have hg : (zeroed l).getD k 0 = l.getD k 0 := by
      obtain ⟨a0, a1, a2, a3, a4, a5, a6, a7, b0, b1, b2, b3, t, rfl⟩ := split12 h
      match k, hmid with
      | 0, _ | 1, _ | 2, _ | 3, _ | 4, _ | 5, _ | 6, _ | 7, _ => rfl
      | 8, hm | 9, hm | 10, hm | 11, hm => omega
      | k + 12, _ => rfl
    have hzl : k < (zeroed l).length := by rw [zeroed_length h]; exact hk
    have hne : upd 0 (zeroed l) ≠ upd 0 (zeroed (l.set k y)) := by
      rw [hz, List.set_eq_take_append_cons_drop, if_pos hzl]
      have e1 : zeroed l = (zeroed l).take k ++ (zeroed l).getD k 0 :: (zeroed l).drop (k + 1) := by
        rw [List.getD_eq_getElem?_getD, List.getElem?_eq_getElem hzl]; simp
      conv => lhs; rw [e1]
      exact upd_one 0 _ _ _ _ (by rw [hg]; exact fun e => hy e.symm)
    -- both carry the four bytes of their sums at 8
    have p1 : (l.drop 8).take 4 = le4 (upd 0 (zeroed l)) := by
      conv => lhs; rw [← hl]
      exact sealed_mid h
    have p2 : ((l.set k y).drop 8).take 4 = le4 (upd 0 (zeroed (l.set k y))) := by
      conv => lhs; rw [← e]
      exact sealed_mid h12'
    have p3 : ((l.set k y).drop 8).take 4 = (l.drop 8).take 4 := by
      rw [List.drop_set]
      by_cases h8 : k < 8
      · rw [if_pos h8]
      · rw [if_neg h8, List.take_set, List.set_eq_of_length_le (by simp; omega)]
    rw [p2, p1] at p3
    exact hne (le4_inj (upd_lt _ _) (upd_lt _ _) p3.symm)
end Towline.Crc
