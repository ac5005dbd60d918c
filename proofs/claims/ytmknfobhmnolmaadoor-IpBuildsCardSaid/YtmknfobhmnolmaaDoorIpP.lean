/- Chapter 5: sums of headers, headers, datagrams: plain laws. -/
import Derived.Calls
namespace Towline.Ip
set_option linter.unusedVariables false
set_option linter.unusedSimpArgs false
set_option maxRecDepth 20000
set_option maxHeartbeats 1000000
/-- The sum of a text's pairs of bytes (true: the next one is the first of its pair). -/
def sumB : Bool → List UInt8 → Nat
  | _, [] => 0
  | true, x :: r => x.toNat * 256 + sumB false r
  | false, x :: r => x.toNat + sumB true r
def fold16 (n : Nat) : Nat := if n = 0 then 0 else (n - 1) % 65535 + 1
def c16 (l : List UInt8) : Nat := 65535 - fold16 (sumB true l)
theorem fold16_step {n : Nat} (h : 65536 ≤ n) : fold16 (n % 65536 + n / 65536) = fold16 n := by
  unfold fold16
  rw [if_neg (by omega), if_neg (by omega)]
  omega
theorem fold16_small {n : Nat} (h : n < 65536) : fold16 n = n := by
  unfold fold16
  split <;> omega
theorem fold16_le (n : Nat) : fold16 n ≤ 65535 := by
  unfold fold16
  split <;> omega
theorem c16_le (l : List UInt8) : c16 l ≤ 65535 := by unfold c16; omega
theorem sumB_le : ∀ (l : List UInt8) (b : Bool), sumB b l ≤ 65280 * l.length
  | [], b => by simp [sumB]
  | x :: r, true => by
    have := sumB_le r false
    have := UInt8.toNat_lt x
    simp only [sumB, List.length_cons]
    omega
  | x :: r, false => by
    have := sumB_le r true
    have := UInt8.toNat_lt x
    simp only [sumB, List.length_cons]
    omega
theorem sumB_append : ∀ (l m : List UInt8) (b : Bool), sumB b (l ++ m) = sumB b l + sumB (if l.length % 2 = 0 then b else !b) m
  | [], m, b => by simp [sumB]
  | x :: r, m, b => by
    have ih := sumB_append r m (!b)
    have e : (if (x :: r).length % 2 = 0 then b else !b) = (if r.length % 2 = 0 then !b else !!b) := by
      rw [List.length_cons, Bool.not_not]
      by_cases h : r.length % 2 = 0
      · rw [if_neg (by omega), if_pos h]
      · rw [if_pos (by omega), if_neg h]
    rw [e]
    cases b <;> simp only [List.cons_append, sumB, Bool.not_true, Bool.not_false] at ih ⊢ <;> rw [ih] <;> omega
theorem sum_even (l m : List UInt8) (h : l.length % 2 = 0) : sumB true (l ++ m) = sumB true l + sumB true m := by
  rw [sumB_append, if_pos h]
/-- Two bytes of a number. -/
def b2 (n : Nat) : List UInt8 := [UInt8.ofNat (n / 256), UInt8.ofNat n]
theorem b8_toNat (n : Nat) : (UInt8.ofNat n).toNat = n % 256 := by simp
theorem sum_b2 {n : Nat} (h : n ≤ 65535) : sumB true (b2 n) = n := by
  simp only [b2, sumB, b8_toNat]
  omega
theorem fold16_own (n : Nat) : fold16 (n + (65535 - fold16 n)) = 65535 := by
  unfold fold16
  by_cases h : n = 0
  · simp [h]
  · rw [if_neg h, if_neg (by omega)]
    omega
/-- I4: with its own sum behind it a text of whole pairs has the sum 0. -/
theorem c16_own (l : List UInt8) (h : l.length % 2 = 0) : c16 (l ++ b2 (c16 l)) = 0 := by
  have h1 : sumB true (l ++ b2 (c16 l)) = sumB true l + c16 l := by rw [sum_even _ _ h, sum_b2 (c16_le l)]
  unfold c16 at h1 ⊢
  rw [h1, fold16_own]
theorem c16_comm (l m : List UInt8) (hl : l.length % 2 = 0) (hm : m.length % 2 = 0) : c16 (l ++ m) = c16 (m ++ l) := by
  unfold c16
  rw [sum_even _ _ hl, sum_even _ _ hm, Nat.add_comm]
structure Hd where
  ver : Int
  hops : Int
  mark : Int
  from_ : List UInt8
  to_ : List UInt8
def nilHd : Hd := ⟨0, 0, 0, [], []⟩
def OkH (h : Hd) : Prop := ((h.ver = 4 ∧ h.from_.length = 4 ∧ h.to_.length = 4 ∧ h.mark ≤ 65535) ∨ (h.ver = 6 ∧ h.from_.length = 16 ∧ h.to_.length = 16 ∧ h.mark ≤ 0)) ∧ 0 ≤ h.hops ∧ h.hops < 256 ∧ 0 ≤ h.mark
instance (h : Hd) : Decidable (OkH h) := by unfold OkH; infer_instance
def rightH (h : Hd) : Bool := decide (OkH h)
def raw4 (h : Hd) (n c : Nat) : List UInt8 := [69, 0] ++ b2 (20 + n) ++ b2 h.mark.toNat ++ [64, 0, UInt8.ofNat h.hops.toNat, 132] ++ b2 c ++ h.from_ ++ h.to_
def raw6 (h : Hd) (n : Nat) : List UInt8 := [96, 0, 0, 0] ++ b2 n ++ [132, UInt8.ofNat h.hops.toNat] ++ h.from_ ++ h.to_
def buildH (h : Hd) (p : List UInt8) : List UInt8 × Int :=
  if rightH h = false then ([], 1) else if 1500 < p.length then ([], 4) else
  if h.ver = 6 then (raw6 h p.length ++ p, 0) else (raw4 h p.length (c16 (raw4 h p.length 0)) ++ p, 0)
def at8 (d : List UInt8) (i : Nat) : Nat := (d.getD i 0).toNat
def at16 (d : List UInt8) (i : Nat) : Nat := at8 d i * 256 + at8 d (i + 1)
theorem at16_is {d : List UInt8} {i a b : Nat} (h1 : at8 d i = a) (h2 : at8 d (i + 1) = b) : at16 d i = a * 256 + b := by
  unfold at16
  rw [h1, h2]
def zeroed (d : List UInt8) : List UInt8 := d.take 10 ++ [0, 0] ++ (d.drop 12).take 8
def restH (h : Hd) (d : List UInt8) (head : Nat) (size : Int) : Hd × List UInt8 × Int :=
  if (d.length : Int) - head < size then (nilHd, [], 3) else if size < (d.length : Int) - head ∨ 1500 < size then (nilHd, [], 4) else (h, d.drop head, 0)
def parse4 (d : List UInt8) : Hd × List UInt8 × Int :=
  if d.length < 20 then (nilHd, [], 3)
  else if at8 d 10 ≠ c16 (zeroed d) / 256 ∨ at8 d 11 ≠ c16 (zeroed d) % 256 then (nilHd, [], 5)
  else if at16 d 0 ≠ 17664 ∨ at16 d 6 ≠ 16384 ∨ at8 d 9 ≠ 132 ∨ at16 d 2 < 20 then (nilHd, [], 2)
  else restH ⟨4, at8 d 8, at16 d 4, (d.drop 12).take 4, (d.drop 16).take 4⟩ d 20 ((at16 d 2 : Int) - 20)
def parse6 (d : List UInt8) : Hd × List UInt8 × Int :=
  if d.length < 40 then (nilHd, [], 3)
  else if at16 d 0 * 65536 + at16 d 2 ≠ 1610612736 ∨ at8 d 6 ≠ 132 then (nilHd, [], 2)
  else restH ⟨6, at8 d 7, 0, (d.drop 8).take 16, (d.drop 24).take 16⟩ d 40 (at16 d 4)
def parseH (d : List UInt8) : Hd × List UInt8 × Int :=
  if d.length = 0 then (nilHd, [], 3)
  else if at8 d 0 / 16 = 4 then parse4 d
  else if at8 d 0 / 16 = 6 then parse6 d
  else (nilHd, [], 2)
theorem len4 {l : List UInt8} (h : l.length = 4) : ∃ a b c d, l = [a, b, c, d] := by
  match l, h with
  | [a, b, c, d], _ => exact ⟨a, b, c, d, rfl⟩
theorem build_bad {h : Hd} {p : List UInt8} (he : (buildH h p).2 ≠ 0) : (buildH h p).1 = [] ∧ (rightH h = false ∨ 1500 < p.length) := by
  unfold buildH at he ⊢
  split
  · exact ⟨rfl, .inl ‹_›⟩
  · split
    · exact ⟨rfl, .inr ‹_›⟩
    · rw [if_neg ‹_›, if_neg ‹_›] at he
      split at he <;> exact absurd rfl he
theorem build_ok {h : Hd} {p : List UInt8} (he : (buildH h p).2 = 0) : OkH h ∧ p.length ≤ 1500 := by
  unfold buildH at he
  split at he
  · cases he
  · split at he
    · cases he
    · rename_i h1 h2
      refine ⟨of_decide_eq_true (by unfold rightH at h1; simpa using h1), by omega⟩
theorem build4 {h : Hd} {p : List UInt8} (hok : OkH h) (hp : p.length ≤ 1500) (hv : h.ver = 4) : buildH h p = (raw4 h p.length (c16 (raw4 h p.length 0)) ++ p, 0) := by
  unfold buildH
  rw [if_neg (by simp [rightH, hok]), if_neg (by omega), if_neg (by omega)]
theorem build6 {h : Hd} {p : List UInt8} (hok : OkH h) (hp : p.length ≤ 1500) (hv : h.ver = 6) : buildH h p = (raw6 h p.length ++ p, 0) := by
  unfold buildH
  rw [if_neg (by simp [rightH, hok]), if_neg (by omega), if_pos hv]
theorem zeroed_raw (h : Hd) (n c : Nat) (p : List UInt8) (h1 : h.from_.length = 4) (h2 : h.to_.length = 4) : zeroed (raw4 h n c ++ p) = raw4 h n 0 := by
  obtain ⟨v, o, m, f, t⟩ := h
  obtain ⟨a1, a2, a3, a4, rfl⟩ := len4 h1
  obtain ⟨b1, b2, b3, b4, rfl⟩ := len4 h2
  rfl
/-- I2: what is built is parsed as what was handed in. -/
theorem parse_build4 {h : Hd} {p : List UInt8} (hok : OkH h) (hp : p.length ≤ 1500) (hv : h.ver = 4) : parseH (raw4 h p.length (c16 (raw4 h p.length 0)) ++ p) = (h, p, 0) := by
  have hc := c16_le (raw4 h p.length 0)
  generalize hcc : c16 (raw4 h p.length 0) = c at hc
  obtain ⟨hk, h0, h0', hm⟩ := hok
  rcases hk with ⟨_, hf, ht, hmm⟩ | ⟨h6, _⟩
  rotate_left
  · omega
  have hz := zeroed_raw h p.length c p hf ht
  obtain ⟨v, o, m, f, t⟩ := h
  simp only at hv h0 h0' hm hmm hf ht
  subst hv
  obtain ⟨a1, a2, a3, a4, rfl⟩ := len4 hf
  obtain ⟨b1, b2, b3, b4, rfl⟩ := len4 ht
  generalize hd : raw4 ⟨4, o, m, [a1, a2, a3, a4], [b1, b2, b3, b4]⟩ p.length c ++ p = d at *
  have hlen : d.length = 20 + p.length := by rw [← hd]; simp [raw4, Ip.b2]; omega
  have e0 : at8 d 0 = 69 := by rw [← hd]; rfl
  have e00 : at16 d 0 = 69 * 256 + 0 := at16_is e0 (by rw [← hd]; rfl)
  have e10 : at8 d 10 = c / 256 % 256 := by rw [← hd, ← b8_toNat]; rfl
  have e11 : at8 d 11 = c % 256 := by rw [← hd, ← b8_toNat]; rfl
  have e6 : at16 d 6 = 64 * 256 + 0 := at16_is (by rw [← hd]; rfl) (by rw [← hd]; rfl)
  have e9 : at8 d 9 = 132 := by rw [← hd]; rfl
  have e2 : at16 d 2 = (20 + p.length) / 256 % 256 * 256 + (20 + p.length) % 256 := at16_is (by rw [← hd, ← b8_toNat]; rfl) (by rw [← hd, ← b8_toNat]; rfl)
  have e4 : at16 d 4 = m.toNat / 256 % 256 * 256 + m.toNat % 256 := at16_is (by rw [← hd, ← b8_toNat]; rfl) (by rw [← hd, ← b8_toNat]; rfl)
  have e8 : at8 d 8 = o.toNat % 256 := by rw [← hd, ← b8_toNat]; rfl
  have d12 : (d.drop 12).take 4 = [a1, a2, a3, a4] := by rw [← hd]; rfl
  have d16 : (d.drop 16).take 4 = [b1, b2, b3, b4] := by rw [← hd]; rfl
  have d20 : d.drop 20 = p := by rw [← hd]; rfl
  unfold parseH
  rw [if_neg (by omega), if_pos (by omega)]
  unfold parse4
  rw [if_neg (by omega), hz, hcc, if_neg (by omega), if_neg (by omega)]
  unfold restH
  rw [hlen, e2, if_neg (by omega), if_neg (by omega), e8, e4, d12, d16, d20]
  have g1 : ((o.toNat % 256 : Nat) : Int) = o := by omega
  have g2 : ((m.toNat / 256 % 256 * 256 + m.toNat % 256 : Nat) : Int) = m := by omega
  rw [g1, g2]
theorem len16 {l : List UInt8} (h : l.length = 16) : ∃ a b c d e f g i a' b' c' d' e' f' g' i', l = [a, b, c, d, e, f, g, i, a', b', c', d', e', f', g', i'] := by
  match l, h with
  | [a, b, c, d, e, f, g, i, a', b', c', d', e', f', g', i'], _ => exact ⟨a, b, c, d, e, f, g, i, a', b', c', d', e', f', g', i', rfl⟩
theorem parse_build6 {h : Hd} {p : List UInt8} (hok : OkH h) (hp : p.length ≤ 1500) (hv : h.ver = 6) : parseH (raw6 h p.length ++ p) = (h, p, 0) := by
  obtain ⟨hk, h0, h0', hm⟩ := hok
  rcases hk with ⟨h4, _⟩ | ⟨_, hf, ht, hmm⟩
  · omega
  obtain ⟨v, o, m, f, t⟩ := h
  simp only at hv h0 h0' hm hmm hf ht
  subst hv
  obtain rfl : m = 0 := by omega
  obtain ⟨a1, a2, a3, a4, a5, a6, a7, a8, a9, a10, a11, a12, a13, a14, a15, a16, rfl⟩ := len16 hf
  obtain ⟨b1, b2, b3, b4, b5, b6, b7, b8, b9, b10, b11, b12, b13, b14, b15, b16, rfl⟩ := len16 ht
  generalize hd : raw6 ⟨6, o, 0, [a1, a2, a3, a4, a5, a6, a7, a8, a9, a10, a11, a12, a13, a14, a15, a16], [b1, b2, b3, b4, b5, b6, b7, b8, b9, b10, b11, b12, b13, b14, b15, b16]⟩ p.length ++ p = d
  have hlen : d.length = 40 + p.length := by rw [← hd]; simp [raw6, Ip.b2]; omega
  have e0 : at8 d 0 = 96 := by rw [← hd]; rfl
  have e00 : at16 d 0 = 96 * 256 + 0 := at16_is e0 (by rw [← hd]; rfl)
  have e2 : at16 d 2 = 0 * 256 + 0 := at16_is (by rw [← hd]; rfl) (by rw [← hd]; rfl)
  have e6 : at8 d 6 = 132 := by rw [← hd]; rfl
  have e7 : at8 d 7 = o.toNat % 256 := by rw [← hd, ← b8_toNat]; rfl
  have e4 : at16 d 4 = p.length / 256 % 256 * 256 + p.length % 256 := at16_is (by rw [← hd, ← b8_toNat]; rfl) (by rw [← hd, ← b8_toNat]; rfl)
  have d8 : (d.drop 8).take 16 = [a1, a2, a3, a4, a5, a6, a7, a8, a9, a10, a11, a12, a13, a14, a15, a16] := by rw [← hd]; rfl
  have d24 : (d.drop 24).take 16 = [b1, b2, b3, b4, b5, b6, b7, b8, b9, b10, b11, b12, b13, b14, b15, b16] := by rw [← hd]; rfl
  have d40 : d.drop 40 = p := by rw [← hd]; rfl
  unfold parseH
  rw [if_neg (by omega), if_neg (by omega), if_pos (by omega)]
  unfold parse6
  rw [if_neg (by omega), if_neg (by omega)]
  unfold restH
  rw [if_neg (by omega), if_neg (by omega), e7, d8, d24, d40]
  have g1 : ((o.toNat % 256 : Nat) : Int) = o := by omega
  rw [g1]
theorem parse_build {h : Hd} {p : List UInt8} (he : (buildH h p).2 = 0) : parseH (buildH h p).1 = (h, p, 0) := by
  obtain ⟨hok, hp⟩ := build_ok he
  rcases hok.1 with h4 | h6
  · rw [build4 hok hp h4.1]; exact parse_build4 hok hp h4.1
  · rw [build6 hok hp h6.1]; exact parse_build6 hok hp h6.1
theorem raw4_len (h : Hd) (n c : Nat) (h1 : h.from_.length = 4) (h2 : h.to_.length = 4) : (raw4 h n c).length = 20 := by simp [raw4, b2, h1, h2]
theorem sum_raw4 (h : Hd) (n : Nat) {c : Nat} (hc : c ≤ 65535) : sumB true (raw4 h n c) = sumB true (raw4 h n 0) + c := by
  have key : ∀ c, c ≤ 65535 → sumB true (raw4 h n c) = sumB true ([69, 0] ++ b2 (20 + n) ++ b2 h.mark.toNat ++ [64, 0, UInt8.ofNat h.hops.toNat, 132]) + (c + sumB true (h.from_ ++ h.to_)) := by
    intro c hc
    have e : raw4 h n c = ([69, 0] ++ b2 (20 + n) ++ b2 h.mark.toNat ++ [64, 0, UInt8.ofNat h.hops.toNat, 132]) ++ (b2 c ++ (h.from_ ++ h.to_)) := by simp [raw4, b2]
    rw [e, sum_even _ _ (by simp [b2]), sum_even (b2 c) _ (by simp [b2]), sum_b2 hc]
  rw [key c hc, key 0 (by omega)]
  omega
/-- I4: the sum of a header with its sum in it is 0. -/
theorem head_sum {h : Hd} {p : List UInt8} (he : (buildH h p).2 = 0) (hv : h.ver = 4) : c16 ((buildH h p).1.take 20) = 0 := by
  obtain ⟨hok, hp⟩ := build_ok he
  rcases hok.1 with h4 | h6
  · rw [build4 hok hp hv]
    have e : (raw4 h p.length (c16 (raw4 h p.length 0)) ++ p).take 20 = raw4 h p.length (c16 (raw4 h p.length 0)) := by
      rw [List.take_append_of_le_length (Nat.le_of_eq (raw4_len _ _ _ h4.2.1 h4.2.2.1).symm), List.take_of_length_le (Nat.le_of_eq (raw4_len _ _ _ h4.2.1 h4.2.2.1))]
    show c16 (List.take 20 (raw4 h p.length (c16 (raw4 h p.length 0)) ++ p)) = 0
    rw [e]
    unfold c16 at *
    rw [sum_raw4 _ _ (by omega), fold16_own]
  · omega
def wgt (b : Bool) (k : Nat) : Nat := if (k % 2 = 0) = (b = true) then 256 else 1
theorem sum_set : ∀ (l : List UInt8) (b : Bool) (k : Nat) (y : UInt8), k < l.length → sumB b (l.set k y) + wgt b k * (l.getD k 0).toNat = sumB b l + wgt b k * y.toNat
  | [], b, k, y, h => by cases h
  | x :: r, b, 0, y, h => by
    cases b <;> simp [sumB, wgt] <;> omega
  | x :: r, b, k + 1, y, h => by
    have ih := sum_set r (!b) k y (by simpa using h)
    have e : wgt b (k + 1) = wgt (!b) k := by
      unfold wgt
      by_cases hk : k % 2 = 0
      · have : ¬ (k + 1) % 2 = 0 := by omega
        cases b <;> simp [hk, this]
      · have : (k + 1) % 2 = 0 := by omega
        cases b <;> simp [hk, this]
    rw [e]
    cases b <;> simp [sumB] at ih ⊢ <;> omega
theorem fold_ne {S S' w a b : Nat} (hw : w = 1 ∨ w = 256) (ha : a < 256) (hb : b < 256) (hab : a ≠ b) (h : S' + w * a = S + w * b) (h0 : 0 < S) (h1 : 0 < S') : fold16 S' ≠ fold16 S := by
  unfold fold16
  rw [if_neg (by omega), if_neg (by omega)]
  rcases hw with rfl | rfl <;> omega
theorem wgt_is (b : Bool) (k : Nat) : wgt b k = 1 ∨ wgt b k = 256 := by
  unfold wgt
  split <;> simp
theorem sum_pos {x : UInt8} {r : List UInt8} (h : 0 < x.toNat) : 0 < sumB true (x :: r) := by
  simp only [sumB]
  omega
theorem ex_cons {n : Nat} {d : List UInt8} (h : n + 1 ≤ d.length) : ∃ x r, d = x :: r ∧ n ≤ r.length := by
  match d, h with
  | x :: r, h => exact ⟨x, r, rfl, by simpa using h⟩
theorem list20 {d : List UInt8} (h : 20 ≤ d.length) : ∃ x0 x1 x2 x3 x4 x5 x6 x7 x8 x9 x10 x11 x12 x13 x14 x15 x16 x17 x18 x19 p, d = x0 :: x1 :: x2 :: x3 :: x4 :: x5 :: x6 :: x7 :: x8 :: x9 :: x10 :: x11 :: x12 :: x13 :: x14 :: x15 :: x16 :: x17 :: x18 :: x19 :: p := by
  obtain ⟨x0, r0, e0, h0⟩ := ex_cons (n := 19) h
  obtain ⟨x1, r1, e1, h1⟩ := ex_cons (n := 18) h0
  obtain ⟨x2, r2, e2, h2⟩ := ex_cons (n := 17) h1
  obtain ⟨x3, r3, e3, h3⟩ := ex_cons (n := 16) h2
  obtain ⟨x4, r4, e4, h4⟩ := ex_cons (n := 15) h3
  obtain ⟨x5, r5, e5, h5⟩ := ex_cons (n := 14) h4
  obtain ⟨x6, r6, e6, h6⟩ := ex_cons (n := 13) h5
  obtain ⟨x7, r7, e7, h7⟩ := ex_cons (n := 12) h6
  obtain ⟨x8, r8, e8, h8⟩ := ex_cons (n := 11) h7
  obtain ⟨x9, r9, e9, h9⟩ := ex_cons (n := 10) h8
  obtain ⟨x10, r10, e10, h10⟩ := ex_cons (n := 9) h9
  obtain ⟨x11, r11, e11, h11⟩ := ex_cons (n := 8) h10
  obtain ⟨x12, r12, e12, h12⟩ := ex_cons (n := 7) h11
  obtain ⟨x13, r13, e13, h13⟩ := ex_cons (n := 6) h12
  obtain ⟨x14, r14, e14, h14⟩ := ex_cons (n := 5) h13
  obtain ⟨x15, r15, e15, h15⟩ := ex_cons (n := 4) h14
  obtain ⟨x16, r16, e16, h16⟩ := ex_cons (n := 3) h15
  obtain ⟨x17, r17, e17, h17⟩ := ex_cons (n := 2) h16
  obtain ⟨x18, r18, e18, h18⟩ := ex_cons (n := 1) h17
  obtain ⟨x19, r19, e19, h19⟩ := ex_cons (n := 0) h18
  exact ⟨x0, x1, x2, x3, x4, x5, x6, x7, x8, x9, x10, x11, x12, x13, x14, x15, x16, x17, x18, x19, r19, by rw [e0, e1, e2, e3, e4, e5, e6, e7, e8, e9, e10, e11, e12, e13, e14, e15, e16, e17, e18, e19]⟩
theorem zeroed_set {d : List UInt8} (h : 20 ≤ d.length) {k : Nat} (hk : k < 20) (hk2 : k ≠ 10 ∧ k ≠ 11) (y : UInt8) : zeroed (d.set k y) = (zeroed d).set k y ∧ (zeroed d).getD k 0 = d.getD k 0 ∧ at8 (d.set k y) 10 = at8 d 10 ∧ at8 (d.set k y) 11 = at8 d 11 := by
  obtain ⟨x0, x1, x2, x3, x4, x5, x6, x7, x8, x9, x10, x11, x12, x13, x14, x15, x16, x17, x18, x19, p, rfl⟩ := list20 h
  match k, hk, hk2 with
  | 0, _, _ | 1, _, _ | 2, _, _ | 3, _, _ | 4, _, _ | 5, _, _ | 6, _, _ | 7, _, _ | 8, _, _ | 9, _, _ | 12, _, _ | 13, _, _ | 14, _, _ | 15, _, _ | 16, _, _ | 17, _, _ | 18, _, _ | 19, _, _ => exact ⟨rfl, rfl, rfl, rfl⟩
  | 10, _, h => exact absurd rfl h.1
  | 11, _, h => exact absurd rfl h.2
  | n + 20, h, _ => omega
theorem zeroed_same {d : List UInt8} (h : 20 ≤ d.length) {k : Nat} (hk : k = 10 ∨ k = 11) (y : UInt8) : zeroed (d.set k y) = zeroed d := by
  obtain ⟨x0, x1, x2, x3, x4, x5, x6, x7, x8, x9, x10, x11, x12, x13, x14, x15, x16, x17, x18, x19, p, rfl⟩ := list20 h
  rcases hk with rfl | rfl <;> rfl
theorem zeroed_head {d : List UInt8} (h : 20 ≤ d.length) : ∃ r, zeroed d = d.getD 0 0 :: r := by
  obtain ⟨x0, x1, x2, x3, x4, x5, x6, x7, x8, x9, x10, x11, x12, x13, x14, x15, x16, x17, x18, x19, p, rfl⟩ := list20 h
  exact ⟨_, rfl⟩
theorem zeroed_len {d : List UInt8} (h : 20 ≤ d.length) : (zeroed d).length = 20 := by
  obtain ⟨x0, x1, x2, x3, x4, x5, x6, x7, x8, x9, x10, x11, x12, x13, x14, x15, x16, x17, x18, x19, p, rfl⟩ := list20 h
  rfl
theorem at8_set_self {d : List UInt8} {k : Nat} (hk : k < d.length) (y : UInt8) : at8 (d.set k y) k = y.toNat := by
  unfold at8
  rw [List.getD_eq_getElem?_getD, List.getElem?_set_self hk]
  rfl
theorem at8_set_ne {d : List UInt8} {k j : Nat} (h : k ≠ j) (y : UInt8) : at8 (d.set k y) j = at8 d j := by
  unfold at8
  rw [List.getD_eq_getElem?_getD, List.getElem?_set_ne h, List.getD_eq_getElem?_getD]
/-- What is refused has no payload. -/
theorem rest_bad {h : Hd} {d : List UInt8} {n : Nat} {s : Int} (he : (restH h d n s).2.2 ≠ 0) : (restH h d n s).2.1 = [] := by
  unfold restH at he ⊢
  split
  · rfl
  · split
    · rfl
    · rw [if_neg ‹_›, if_neg ‹_›] at he
      exact absurd rfl he
theorem parse_bad {d : List UInt8} (he : (parseH d).2.2 ≠ 0) : (parseH d).2.1 = [] := by
  unfold parseH at he ⊢
  by_cases h0 : d.length = 0
  · rw [if_pos h0]
  · rw [if_neg h0] at he ⊢
    by_cases h4 : at8 d 0 / 16 = 4
    · rw [if_pos h4] at he ⊢
      unfold parse4 at he ⊢
      by_cases c1 : d.length < 20
      · rw [if_pos c1]
      · rw [if_neg c1] at he ⊢
        split
        · rfl
        · rw [if_neg ‹_›] at he
          split
          · rfl
          · rw [if_neg ‹_›] at he
            exact rest_bad he
    · rw [if_neg h4] at he ⊢
      by_cases h6 : at8 d 0 / 16 = 6
      · rw [if_pos h6] at he ⊢
        unfold parse6 at he ⊢
        split
        · rfl
        · rw [if_neg ‹_›] at he
          split
          · rfl
          · rw [if_neg ‹_›] at he
            exact rest_bad he
      · rw [if_neg h6]
/-- I2, I4: a datagram of version 4 with one byte of its header turned is refused. -/
theorem parse_turned {h : Hd} {p : List UInt8} (he : (buildH h p).2 = 0) (hv : h.ver = 4) {k : Nat} (hk : k < 20) {y : UInt8} (hy : y ≠ (buildH h p).1.getD k 0) : (parseH ((buildH h p).1.set k y)).2.2 ≠ 0 := by
  obtain ⟨hok, hp⟩ := build_ok he
  have hk4 := hok.1
  rcases hk4 with ⟨_, hf, ht, hm⟩ | h6
  rotate_left
  · omega
  rw [build4 hok hp hv] at hy ⊢
  show (parseH ((raw4 h p.length (c16 (raw4 h p.length 0)) ++ p).set k y)).2.2 ≠ 0
  have hy : y ≠ (raw4 h p.length (c16 (raw4 h p.length 0)) ++ p).getD k 0 := hy
  have hz := zeroed_raw h p.length (c16 (raw4 h p.length 0)) p hf ht
  have hc := c16_le (raw4 h p.length 0)
  have hlen : (raw4 h p.length (c16 (raw4 h p.length 0)) ++ p).length = 20 + p.length := by rw [List.length_append, raw4_len _ _ _ hf ht]
  have e0 : at8 (raw4 h p.length (c16 (raw4 h p.length 0)) ++ p) 0 = 69 := rfl
  have e1 : at8 (raw4 h p.length (c16 (raw4 h p.length 0)) ++ p) 1 = 0 := rfl
  have e2 : at16 (raw4 h p.length (c16 (raw4 h p.length 0)) ++ p) 2 = (20 + p.length) / 256 % 256 * 256 + (20 + p.length) % 256 := at16_is (by rw [← b8_toNat]; rfl) (by rw [← b8_toNat]; rfl)
  have e10 : at8 (raw4 h p.length (c16 (raw4 h p.length 0)) ++ p) 10 = c16 (raw4 h p.length 0) / 256 % 256 := by rw [← b8_toNat]; rfl
  have e11 : at8 (raw4 h p.length (c16 (raw4 h p.length 0)) ++ p) 11 = c16 (raw4 h p.length 0) % 256 := by rw [← b8_toNat]; rfl
  have hzz : c16 (zeroed (raw4 h p.length (c16 (raw4 h p.length 0)) ++ p)) = c16 (raw4 h p.length 0) := by rw [hz]
  generalize raw4 h p.length (c16 (raw4 h p.length 0)) ++ p = d at *
  rw [← hzz] at hc e10 e11
  have h20 : 20 ≤ d.length := by omega
  have hkl : k < d.length := by omega
  have hyn : y.toNat ≠ (d.getD k 0).toNat := fun e => hy (UInt8.toNat_inj.1 e)
  unfold parseH
  rw [List.length_set, if_neg (by omega)]
  by_cases h4 : at8 (d.set k y) 0 / 16 = 4
  · rw [if_pos h4]
    unfold parse4
    rw [List.length_set, if_neg (by omega), if_pos]
    · decide
    by_cases hkk : k = 10 ∨ k = 11
    · rw [zeroed_same h20 hkk]
      rcases hkk with rfl | rfl
      · left
        rw [at8_set_self hkl]
        unfold at8 at e10
        omega
      · right
        rw [at8_set_self hkl]
        unfold at8 at e11
        omega
    · obtain ⟨z1, z2, z3, z4⟩ := zeroed_set h20 hk ⟨fun e => hkk (.inl e), fun e => hkk (.inr e)⟩ y
      have hs := sum_set (zeroed d) true k y (by rw [zeroed_len h20]; omega)
      rw [z2] at hs
      have hpos : 0 < sumB true (zeroed d) := by
        obtain ⟨r, hr⟩ := zeroed_head h20
        rw [hr]
        exact sum_pos (by unfold at8 at e0; omega)
      have hpos' : 0 < sumB true ((zeroed d).set k y) := by
        rw [← z1]
        obtain ⟨r, hr⟩ := zeroed_head (d := d.set k y) (by rw [List.length_set]; exact h20)
        rw [hr]
        exact sum_pos (by unfold at8 at h4; omega)
      have hne := fold_ne (wgt_is true k) (UInt8.toNat_lt (d.getD k 0)) (UInt8.toNat_lt y) (fun e => hyn e.symm) hs hpos hpos'
      rw [z1, z3, z4, e10, e11]
      have f1 := fold16_le (sumB true (zeroed d))
      have f2 := fold16_le (sumB true ((zeroed d).set k y))
      unfold c16
      omega
  · rw [if_neg h4]
    by_cases h6 : at8 (d.set k y) 0 / 16 = 6
    · rw [if_pos h6]
      have k0 : k = 0 := by
        by_cases hk0 : k = 0
        · exact hk0
        · rw [at8_set_ne hk0] at h6
          omega
      subst k0
      unfold parse6
      split
      · decide
      · rw [if_pos]
        · decide
        left
        have g2 : at16 (d.set 0 y) 2 = at16 d 2 := by unfold at16; rw [at8_set_ne (by omega), at8_set_ne (by omega)]
        rw [g2]
        omega
    · rw [if_neg h6]
      decide
end Towline.Ip
