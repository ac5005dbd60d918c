/- Chapter 3: a digest, as a function of plain data. -/
import Derived.Test.YtjdmnfjgmbnlbaaGreatDoorBldG
import Derived.Test.YtjdmnfjgmbnlbaaGreatDoorTys
namespace Towline.Sha
open Go Towline
set_option linter.unusedVariables false
set_option maxRecDepth 20000
abbrev w32 (n : Int) : Int := IntKind.u32.wrap n
abbrev xo (a b : Int) : Int := bitsOp .xor .u32 a b
abbrev an (a b : Int) : Int := bitsOp .and .u32 a b
abbrev no (a : Int) : Int := bitsOp .xor .u32 4294967295 a
/-- A word, turned to the right. -/
def right (x n : Int) : Int := bitsOp .or .u32 (shrOp .u32 x n) (shlOp .u32 x (32 - n))
def g0 (x : Int) : Int := xo (xo (right x 7) (right x 18)) (shrOp .u32 x 3)
def g1 (x : Int) : Int := xo (xo (right x 17) (right x 19)) (shrOp .u32 x 10)
/-- A block's bytes as a word. -/
def word (b : List UInt8) (i : Nat) : Int := (((b.getD (4 * i) 0).toNat * 16777216 + (b.getD (4 * i + 1) 0).toNat * 65536 + (b.getD (4 * i + 2) 0).toNat * 256 + (b.getD (4 * i + 3) 0).toNat : Nat) : Int)
/-- The words of a block. -/
def wd (b : List UInt8) (t : Nat) : Int :=
  if h : t < 16 then word b t
  else w32 (w32 (w32 (g1 (wd b (t - 2)) + wd b (t - 7)) + g0 (wd b (t - 15))) + wd b (t - 16))
termination_by t
theorem wd_lo (b : List UInt8) {t : Nat} (h : t < 16) : wd b t = word b t := by rw [wd, dif_pos h]
theorem wd_hi (b : List UInt8) {t : Nat} (h : ¬ t < 16) : wd b t = w32 (w32 (w32 (g1 (wd b (t - 2)) + wd b (t - 7)) + g0 (wd b (t - 15))) + wd b (t - 16)) := by rw [wd, dif_neg h]
/-- The registers. -/
structure Rg where
  a : Int
  b : Int
  c : Int
  d : Int
  e : Int
  f : Int
  g : Int
  h : Int
def Rg.l (r : Rg) : List Int := [r.a, r.b, r.c, r.d, r.e, r.f, r.g, r.h]
def ks : List Int := [0x428a2f98, 0x71374491, 0xb5c0fbcf, 0xe9b5dba5, 0x3956c25b, 0x59f111f1, 0x923f82a4, 0xab1c5ed5, 0xd807aa98, 0x12835b01, 0x243185be, 0x550c7dc3, 0x72be5d74, 0x80deb1fe, 0x9bdc06a7, 0xc19bf174, 0xe49b69c1, 0xefbe4786, 0x0fc19dc6, 0x240ca1cc, 0x2de92c6f, 0x4a7484aa, 0x5cb0a9dc, 0x76f988da, 0x983e5152, 0xa831c66d, 0xb00327c8, 0xbf597fc7, 0xc6e00bf3, 0xd5a79147, 0x06ca6351, 0x14292967, 0x27b70a85, 0x2e1b2138, 0x4d2c6dfc, 0x53380d13, 0x650a7354, 0x766a0abb, 0x81c2c92e, 0x92722c85, 0xa2bfe8a1, 0xa81a664b, 0xc24b8b70, 0xc76c51a3, 0xd192e819, 0xd6990624, 0xf40e3585, 0x106aa070, 0x19a4c116, 0x1e376c08, 0x2748774c, 0x34b0bcb5, 0x391c0cb3, 0x4ed8aa4a, 0x5b9cca4f, 0x682e6ff3, 0x748f82ee, 0x78a5636f, 0x84c87814, 0x8cc70208, 0x90befffa, 0xa4506ceb, 0xbef9a3f7, 0xc67178f2]
def one (s : Rg) (k w : Int) : Int := w32 (w32 (w32 (w32 (s.h + xo (xo (right s.e 6) (right s.e 11)) (right s.e 25)) + xo (an s.e s.f) (an (no s.e) s.g)) + k) + w)
def two (s : Rg) : Int := w32 (xo (xo (right s.a 2) (right s.a 13)) (right s.a 22) + xo (xo (an s.a s.b) (an s.a s.c)) (an s.b s.c))
def Rg.step (s : Rg) (k w : Int) : Rg := ⟨w32 (one s k w + two s), s.a, s.b, s.c, w32 (s.d + one s k w), s.e, s.f, s.g⟩
/-- So many rounds. -/
def rounds (b : List UInt8) (r : Rg) : Nat → Rg
  | 0 => r
  | t + 1 => (rounds b r t).step (ks.getD t 0) (wd b t)
def Rg.plus (r s : Rg) : Rg := ⟨w32 (s.a + r.a), w32 (s.b + r.b), w32 (s.c + r.c), w32 (s.d + r.d), w32 (s.e + r.e), w32 (s.f + r.f), w32 (s.g + r.g), w32 (s.h + r.h)⟩
def block (r : Rg) (b : List UInt8) : Rg := r.plus (rounds b r 64)
def first : Rg := ⟨0x6a09e667, 0xbb67ae85, 0x3c6ef372, 0xa54ff53a, 0x510e527f, 0x9b05688c, 0x1f83d9ab, 0x5be0cd19⟩
/-- All blocks of a text. -/
def blocks : Nat → Rg → List UInt8 → Rg
  | 0, r, _ => r
  | n + 1, r, b => blocks n (block r (b.take 64)) (b.drop 64)
theorem blocks_succ : ∀ (n : Nat) (r : Rg) (b : List UInt8), blocks (n + 1) r b = block (blocks n r b) ((b.drop (64 * n)).take 64)
  | 0, r, b => by simp [blocks]
  | n + 1, r, b => by
    rw [blocks, blocks_succ n, blocks, List.drop_drop]
    rw [show 64 + 64 * n = 64 * (n + 1) from by omega]
/-- A number's byte. -/
def by8 (n : Int) : UInt8 := UInt8.ofNat (IntKind.u8.wrap n).toNat
def be4 (x : Int) : List UInt8 := [by8 (shrOp .u32 x 24), by8 (shrOp .u32 x 16), by8 (shrOp .u32 x 8), by8 x]
def Rg.out (r : Rg) : List UInt8 := be4 r.a ++ be4 r.b ++ be4 r.c ++ be4 r.d ++ be4 r.e ++ be4 r.f ++ be4 r.g ++ be4 r.h
/-- How many noughts stand behind a text of so many bytes. -/
def gapN (n : Nat) : Nat := (64 - (n + 9) % 64) % 64
def be8 (n : Nat) : List UInt8 := (List.range 8).map fun i => UInt8.ofNat (n * 8 / 2 ^ (8 * (7 - i)) % 256)
def pad (n : Nat) : List UInt8 := 128 :: (List.replicate (gapN n) 0 ++ be8 n)
theorem pad_len (n : Nat) : (n + (pad n).length) % 64 = 0 := by
  simp only [pad, List.length_cons, List.length_append, List.length_replicate, be8, List.length_map, List.length_range, gapN]
  omega
/-- The digest of a text. -/
def sum (s : List UInt8) : List UInt8 := (blocks ((s ++ pad s.length).length / 64) first (s ++ pad s.length)).out
theorem sum_len (s : List UInt8) : (sum s).length = 32 := rfl
end Towline.Sha
