/- Chapter 6: items and their bytes, in plain words. -/
import Derived.Test.YtbghocipmlobnaaGreatBld
namespace Towline.Tlv
open Go
set_option linter.unusedVariables false
set_option linter.unusedSimpArgs false
structure It where
  ty : Int
  v : List UInt8
  deriving DecidableEq, Inhabited
def u8 (n : Int) : UInt8 := UInt8.ofNat (n % 256).toNat
theorem u8_wrap (n : Int) : ((u8 n).toNat : Int) = IntKind.u8.wrap n := by
  have h1 : (n % 256).toNat < 256 := by omega
  have h2 : (u8 n).toNat = (n % 256).toNat := by
    unfold u8
    rw [UInt8.toNat_ofNat']
    exact Nat.mod_eq_of_lt h1
  rw [h2]
  have h3 : IntKind.u8.wrap n = n % 256 := by simp [IntKind.wrap, IntKind.signed, IntKind.bits]
  rw [h3]
  omega
def padN (n : Nat) : Nat := (4 - n % 4) % 4
theorem and3 (n : Nat) (h : n ≤ 2 ^ 62) : bitsOp .and .i64 (0 - n) 3 = padN n := by
  unfold bitsOp
  simp only
  have h1 : (BitVec.ofInt IntKind.i64.bits (0 - (n : Int)) &&& BitVec.ofInt IntKind.i64.bits 3).toNat = padN n := by
    rw [BitVec.toNat_and]
    have e3 : (BitVec.ofInt IntKind.i64.bits 3).toNat = 2 ^ 2 - 1 := by decide
    rw [e3, Nat.and_two_pow_sub_one_eq_mod]
    rw [BitVec.toNat_ofInt]
    have e4 : ((2 ^ IntKind.i64.bits : Nat) : Int) = 18446744073709551616 := by decide
    rw [e4]
    unfold padN
    omega
  rw [h1]
  have : padN n < 4 := Nat.mod_lt _ (by decide)
  exact IntWalk.i64_in _ (by omega)
def badTy (x : It) : Bool := decide (x.ty < 0) || decide (65535 < x.ty)
def hdr (x : It) : List UInt8 := [u8 (x.ty.fdiv 256), u8 x.ty, u8 (((x.v.length + 4 : Nat) : Int).fdiv 256), u8 ((x.v.length + 4 : Nat) : Int)]
def tailB (x : It) : List UInt8 := x.v ++ List.replicate (padN (x.v.length + 4)) 0
def enc (x : It) : List UInt8 := hdr x ++ tailB x
def bytes (l : List It) : List UInt8 := l.flatMap enc
def longV (x : It) : Bool := decide (1400 < x.v.length)
def buildL (l : List It) : List UInt8 × Int := if l.any badTy = true then ([], 1) else if l.any longV = true then ([], 4) else if 4000 < (bytes l).length then ([], 4) else (bytes l, 0)
theorem enc_len (x : It) (h : longV x = false) : (enc x).length ≤ 1407 := by
  have h : ¬ 1400 < x.v.length := by simpa [longV] using h
  have : padN (x.v.length + 4) < 4 := Nat.mod_lt _ (by decide)
  simp only [enc, hdr, tailB, List.length_append, List.length_cons, List.length_nil, List.length_replicate]
  omega
theorem bytes_take (l : List It) (k : Nat) (hk : k < l.length) : bytes (l.take (k + 1)) = bytes (l.take k) ++ enc (l.getD k default) := by
  unfold bytes
  rw [List.take_add_one, List.flatMap_append, List.getD_eq_getElem?_getD, List.getElem?_eq_getElem hk]
  simp
theorem bytes_len (l : List It) : ∀ k, k ≤ l.length → (∀ j, j < k → longV (l.getD j default) = false) → (bytes (l.take k)).length ≤ 1407 * k
  | 0, _, _ => by simp [bytes]
  | k + 1, hk, h => by
    rw [bytes_take l k (by omega), List.length_append]
    have := bytes_len l k (by omega) (fun j hj => h j (by omega))
    have := enc_len _ (h k (by omega))
    omega
theorem fcat_bytes (s t : List UInt8) (k : Nat) (hk : k < s.length + t.length) : fcat (bytesF s) s.length (bytesF t) k = bytesF (s ++ t) k := by
  unfold fcat bytesF
  split
  · rename_i h
    rw [List.getD_eq_getElem?_getD, List.getD_eq_getElem?_getD, List.getElem?_append_left h]
  · rename_i h
    rw [List.getD_eq_getElem?_getD, List.getD_eq_getElem?_getD, List.getElem?_append_right (by omega)]
theorem fcat_congr {f f' g g' : Nat → List D} {n m : Nat} (h1 : ∀ k, k < n → f k = f' k) (h2 : ∀ k, k < m → g k = g' k) (k : Nat) (hk : k < n + m) : fcat f n g k = fcat f' n g' k := by
  unfold fcat
  split
  · exact h1 k (by omega)
  · exact h2 _ (by omega)
theorem any_false {α : Type} [Inhabited α] {p : α → Bool} {l : List α} (h : ∀ j, j < l.length → p (l.getD j default) = false) : l.any p = false := by
  rw [List.any_eq_false]
  intro x hx
  obtain ⟨j, hj, rfl⟩ := List.mem_iff_getElem.1 hx
  have := h j hj
  rw [List.getD_eq_getElem?_getD, List.getElem?_eq_getElem hj] at this
  simpa using this
theorem any_true {α : Type} [Inhabited α] {p : α → Bool} {l : List α} {j : Nat} (hj : j < l.length) (h : p (l.getD j default) = true) : l.any p = true := by
  rw [List.any_eq_true]
  refine ⟨l[j], List.getElem_mem hj, ?_⟩
  rw [List.getD_eq_getElem?_getD, List.getElem?_eq_getElem hj] at h
  exact h
theorem findIdx_is {α : Type} [Inhabited α] {p : α → Bool} {l : List α} {k : Nat} (hk : k < l.length) (h1 : p (l.getD k default) = true) (h2 : ∀ j, j < k → p (l.getD j default) = false) : l.findIdx p = k := by
  rw [List.findIdx_eq hk]
  refine ⟨by simpa [List.getD_eq_getElem?_getD, hk] using h1, fun j hj => ?_⟩
  have := h2 j hj
  simpa [List.getD_eq_getElem?_getD, show j < l.length from by omega] using this
theorem findIdx_no {α : Type} [Inhabited α] {p : α → Bool} {l : List α} (h2 : ∀ j, j < l.length → p (l.getD j default) = false) : ¬ l.findIdx p < l.length := by
  intro h
  have := List.findIdx_getElem (w := h)
  have h3 := h2 _ h
  rw [List.getD_eq_getElem?_getD, List.getElem?_eq_getElem h] at h3
  rw [show (some (l[List.findIdx p l])).getD default = l[List.findIdx p l] from rfl, this] at h3
  cases h3
end Towline.Tlv
