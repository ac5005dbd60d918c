/- Chapter 3: the program's digest: contracts. -/
import Derived.Test.YtjdmnfjgmbnlbaaGreatDoorShC
namespace Go.Proofs.YtjdmnfjgmbnlbaaGreatDoor
open Go Go.RowKit Towline
set_option linter.unusedVariables false
set_option linter.unusedSimpArgs false
set_option maxRecDepth 20000
set_option maxHeartbeats 4000000
abbrev lentS : List (Nat × List Bool) := [(68, [])]
abbrev TS : Tys := tysX false [] lentS [5000000000 + 224, 5000000000 + 131]
theorem tysSOk : TysOk Tryz.prog TS := tysXOk _ _ _ _
theorem or_comm32 (a b : Int) : bitsOp .or .u32 a b = bitsOp .or .u32 b a := by
  unfold bitsOp
  simp only [BitVec.or_comm]
theorem rotate_spec (x n : Int) (hn : n = -2 ∨ n = -6 ∨ n = -7 ∨ n = -11 ∨ n = -13 ∨ n = -17 ∨ n = -18 ∨ n = -19 ∨ n = -22 ∨ n = -25) : PSpec Tryz.prog 180 [s32 x, si n] (· = s32 (Sha.right x (-n))) := by
  refine PSpec.run (tysOk) followsB Tryz.func180 (by decide) rfl Tryz.ntmps180 (Nat.le_of_ble_eq_true rfl) rfl fun w0 R0 hGw => ?_
  conv => whnf
  have hk : bitsOp .and .u64 (IntKind.u64.wrap n) 31 = 32 + n := by
    rcases hn with rfl | rfl | rfl | rfl | rfl | rfl | rfl | rfl | rfl | rfl <;> decide
  have hk2 : IntKind.u64.wrap (32 - (32 + n)) = -n := by
    rcases hn with rfl | rfl | rfl | rfl | rfl | rfl | rfl | rfl | rfl | rfl <;> decide
  rw [hk]
  refine ⟨by first | omega | (simp only [Int.toNat_natCast]; omega) | (simp; done) | (simp; omega), ?_⟩
  conv => whnf
  rw [hk2]
  refine ⟨by first | omega | (simp only [Int.toNat_natCast]; omega) | (simp; done) | (simp; omega), ?_⟩
  conv => whnf
  exact ⟨_, .refl _, by rw [or_comm32]; unfold Sha.right; rw [show 32 - -n = 32 + n from by omega], rfl⟩
theorem turn_spec (x n : Int) (hn : n = 2 ∨ n = 6 ∨ n = 7 ∨ n = 11 ∨ n = 13 ∨ n = 17 ∨ n = 18 ∨ n = 19 ∨ n = 22 ∨ n = 25) : PSpec Tryz.prog 118 [s32 x, si n] (· = s32 (Sha.right x n)) := by
  refine PSpec.run (tysOk) followsB Tryz.func118 (by decide) rfl Tryz.ntmps118 (Nat.le_of_ble_eq_true rfl) rfl fun w0 R0 hGw => ?_
  conv => whnf
  refine ⟨by first | omega | (simp only [Int.toNat_natCast]; omega) | (simp; done) | (simp; omega), ?_⟩
  conv => whnf
  refine ⟨_, (rotate_spec x (0 - n) (by omega)), ?_⟩
  rintro q rfl
  conv => whnf
  exact ⟨_, .refl _, by rw [show -(0 - n) = n from by omega], rfl⟩
theorem constants_spec : PSpec Tryz.prog 117 [] (· = .agg (Sha.ks.map fun n => .d (.i .u32 n))) := by
  refine PSpec.run (tysSOk) followsB Tryz.func117 (by decide) rfl Tryz.ntmps117 (Nat.le_of_ble_eq_true rfl) rfl fun w0 R0 hGw => ?_
  conv => whnf
  exact ⟨_, .refl _, rfl, rfl⟩
theorem first_spec : PSpec Tryz.prog 64 [] (· = .agg (Sha.first.l.map fun n => .d (.i .u32 n))) := by
  refine PSpec.run (tysSOk) followsB Tryz.func64 (by decide) rfl Tryz.ntmps64 (Nat.le_of_ble_eq_true rfl) rfl fun w0 R0 hGw => ?_
  conv => whnf
  exact ⟨_, .refl _, rfl, rfl⟩
/-- The first k bytes of a word. -/
def pw (b : List UInt8) (i : Nat) : Nat → Nat
  | 0 => 0
  | k + 1 => pw b i k * 256 + (b.getD (4 * i + k) 0).toNat
theorem pw_lt (b : List UInt8) (i : Nat) : ∀ k, pw b i k < 256 ^ k
  | 0 => by simp [pw]
  | k + 1 => by
    have := pw_lt b i k
    have h := UInt8.toNat_lt (b.getD (4 * i + k) 0)
    rw [pw, Nat.pow_succ]
    omega
theorem pw_word (b : List UInt8) (i : Nat) : ((pw b i 4 : Nat) : Int) = Sha.word b i := by
  simp only [pw, Sha.word, Nat.add_zero]
  omega
theorem shl8or (q : Nat) (a : UInt8) (hq : q < 16777216) : bitsOp .or .u32 (shlOp .u32 (q : Int) 8) (IntKind.u32.wrap (a.toNat : Int)) = ((q * 256 + a.toNat : Nat) : Int) := by
  have ha := UInt8.toNat_lt a
  rw [wrap32n a.toNat (by omega)]
  have h1 : shlOp .u32 (q : Int) 8 = ((q * 2 ^ 8 : Nat) : Int) := by
    show IntKind.u32.wrap ((q : Int) * 2 ^ min (Int.toNat 8) IntKind.u32.bits) = _
    rw [show min (Int.toNat 8) IntKind.u32.bits = 8 from by decide]
    rw [show ((q : Int) * 2 ^ 8) = ((q * 2 ^ 8 : Nat) : Int) from by simp, wrap32n _ (by omega)]
  rw [h1, or_add32 q a.toNat 8 (by omega) (by omega)]
theorem flatG_congr {f g : Nat → List D} : ∀ (n k0 : Nat), (∀ k, k0 ≤ k → k < k0 + n → f k = g k) → flatG f n k0 = flatG g n k0
  | 0, _, _ => rfl
  | n + 1, k0, h => by rw [flatG, flatG, h k0 (by omega) (by omega), flatG_congr n (k0 + 1) fun k h1 h2 => h k (by omega) (by omega)]
theorem schedule_spec (b : List UInt8) : PSpec Tryz.prog 116 [.d (.sl 1 64 (bytesF b))] (· = .agg ((flatF 64 (wdF b)).map .d)) := by
  refine PSpec.run (tysSOk) followsB Tryz.func116 (by decide) rfl Tryz.ntmps116 (Nat.le_of_ble_eq_true rfl) rfl fun w0 R0 hGw => ?_
  conv => whnf
  refine ALoop.introR tysSOk followsB (fun i : {i : Nat // i ≤ 16} => ([(0, .d (.sl 1 64 (bytesF b))), (2, .rptr 2 1 0 0), (3, .rptr 3 1 0 0), (9, si i.1)], [(2, .row (arT + 64) 1 64 (fun _ => [.i .u32 0])), (3, .row (arT + 64) 1 64 (fun k => [.i .u32 (if k < i.1 then Sha.wd b k else 0)]))])) (fun i => 16 - i.1) ⟨0, by omega⟩ ?_ ?_
  · have hz : ∀ k, k < 64 → ((List.replicate 64 (D.i .u32 0)).drop (k * 1)).take 1 = [D.i .u32 0] := by
      intro k hk
      rw [List.drop_replicate, List.take_replicate, show min 1 (64 - k * 1) = 1 from by omega]
      rfl
    exact ⟨.refl _, .refl _, .refl _, .refl _, ⟨rfl, rfl, rfl, fun k hk => hz k hk⟩, ⟨rfl, rfl, rfl, fun k hk => by rw [show (fun k => [D.i .u32 (if k < (0 : Nat) then Sha.wd b k else 0)]) k = [D.i .u32 0] from by simp]; exact hz k hk⟩, trivial⟩
  rintro ⟨i, hi⟩
  dsimp only
  conv => whnf
  split <;> rename_i h1
  · have hlt : i < 16 := by have := of_decide_eq_true h1; omega
    conv => whnf
    refine ALoop.introR tysSOk followsB (fun k : {k : Nat // k ≤ 4} => ([(0, .d (.sl 1 64 (bytesF b))), (2, .rptr 2 1 0 0), (3, .rptr 3 1 0 0), (4, si i), (9, si i), (12, si k.1)], [(2, .row (arT + 64) 1 64 (fun _ => [.i .u32 0])), (3, .row (arT + 64) 1 64 (fun j => [.i .u32 (if j < i then Sha.wd b j else if j = i then ((pw b i k.1 : Nat) : Int) else 0)]))])) (fun k => 4 - k.1) ⟨0, by omega⟩ ?_ ?_
    · refine ⟨.refl _, .refl _, .refl _, .refl _, .refl _, .refl _, OLe.refl _, ⟨rfl, rfl, rfl, fun j hj => ?_⟩, trivial⟩
      simp [pw]
    rintro ⟨k, hk⟩
    dsimp only
    conv => whnf
    split <;> rename_i h2
    · have hk4 : k < 4 := by have := of_decide_eq_true h2; omega
      conv => whnf
      refine ⟨by first | omega | (simp only [Int.toNat_natCast]; omega) | (simp; done) | (simp; omega), ?_⟩
      conv => whnf
      refine ⟨by first | omega | (simp only [Int.toNat_natCast]; omega) | (simp; done) | (simp; omega), ?_⟩
      conv => whnf
      refine ⟨by first | omega | (simp only [Int.toNat_natCast]; omega) | (simp; done) | (simp; omega), ?_⟩
      conv => whnf
      refine ⟨by first | omega | (simp only [Int.toNat_natCast]; omega) | (simp; done) | (simp; omega), ?_⟩
      conv => whnf
      refine ⟨by first | omega | (simp only [Int.toNat_natCast]; omega) | (simp; done) | (simp; omega), ?_⟩
      conv => whnf
      refine ⟨by first | omega | (simp only [Int.toNat_natCast]; omega) | (simp; done) | (simp; omega), ?_⟩
      conv => whnf
      refine ⟨by first | omega | (simp only [Int.toNat_natCast]; omega) | (simp; done) | (simp; omega), ?_⟩
      conv => whnf
      refine ⟨by first | omega | (simp only [Int.toNat_natCast]; omega) | (simp; done) | (simp; omega), ?_⟩
      conv => whnf
      refine ⟨by kernel_rfl, ?_⟩
      conv => whnf
      refine ⟨by first | omega | (simp only [Int.toNat_natCast]; omega) | (simp; done) | (simp; omega), ?_⟩
      conv => whnf
      refine ⟨⟨k + 1, by omega⟩, [], by dsimp only; omega, .refl _, .refl _, .refl _, .refl _, .refl _, .refl _, OLe.refl _, ⟨rfl, rfl, rfl, fun j hj => ?_⟩, trivial⟩
      have hq : pw b i k < 16777216 := by
        have h3 := pw_lt b i k
        have h4 : 256 ^ k ≤ 256 ^ 3 := Nat.pow_le_pow_right (by decide) (by omega)
        omega
      rw [show (4 * (i : Int) + (k : Int)).toNat = 4 * i + k from by omega]
      simp only [Nat.zero_add, Int.toNat_natCast, Nat.lt_irrefl, if_false, if_true]
      rw [shl8or _ _ hq]
      simp only [fupd]
      by_cases h4 : j = i
      · subst h4
        rw [if_pos rfl, if_neg (Nat.lt_irrefl _), if_pos rfl]
        rfl
      · rw [if_neg h4]
        by_cases h3 : j < i
        · rw [if_pos h3, if_pos h3]
        · rw [if_neg h3, if_neg h4, if_neg h3, if_neg h4]
    · obtain rfl : k = 4 := by have := of_decide_eq_false h2; omega
      conv => whnf
      refine ⟨by first | omega | (simp only [Int.toNat_natCast]; omega) | (simp; done) | (simp; omega), ?_⟩
      conv => whnf
      refine ⟨⟨i + 1, by omega⟩, [], by dsimp only; omega, .refl _, .refl _, .refl _, .refl _, OLe.refl _, ⟨rfl, rfl, rfl, fun j hj => ?_⟩, trivial⟩
      dsimp only
      by_cases h3 : j < i
      · rw [if_pos h3, if_pos (by omega)]
      · by_cases h4 : j = i
        · subst h4
          rw [if_neg h3, if_pos rfl, if_pos (by omega), pw_word, Sha.wd_lo b hlt]
        · rw [if_neg h3, if_neg h4, if_neg (by omega)]
  · obtain rfl : i = 16 := by have := of_decide_eq_false h1; omega
    conv => whnf
    refine ALoop.introR tysSOk followsB (fun t : {t : Nat // 16 ≤ t ∧ t ≤ 64} => ([(2, .rptr 2 1 0 0), (3, .rptr 3 1 0 0), (6, si t.1)], [(2, .row (arT + 64) 1 64 (fun _ => [.i .u32 0])), (3, .row (arT + 64) 1 64 (fun k => [.i .u32 (if k < t.1 then Sha.wd b k else 0)]))])) (fun t => 64 - t.1) ⟨16, by omega⟩ ?_ ?_
    · exact ⟨.refl _, .refl _, .refl _, OLe.refl _, OLe.refl _, trivial⟩
    rintro ⟨t, ht⟩
    dsimp only
    conv => whnf
    split <;> rename_i h2
    · have hlt : t < 64 := by have := of_decide_eq_true h2; omega
      conv => whnf
      refine ⟨by first | omega | (simp only [Int.toNat_natCast]; omega) | (simp; done) | (simp; omega), ?_⟩
      conv => whnf
      refine ⟨by first | omega | (simp only [Int.toNat_natCast]; omega) | (simp; done) | (simp; omega), ?_⟩
      conv => whnf
      refine ⟨by first | omega | (simp only [Int.toNat_natCast]; omega) | (simp; done) | (simp; omega), ?_⟩
      conv => whnf
      refine ⟨by first | omega | (simp only [Int.toNat_natCast]; omega) | (simp; done) | (simp; omega), ?_⟩
      conv => whnf
      refine ⟨by first | omega | (simp only [Int.toNat_natCast]; omega) | (simp; done) | (simp; omega), ?_⟩
      conv => whnf
      refine ⟨by first | omega | (simp only [Int.toNat_natCast]; omega) | (simp; done) | (simp; omega), ?_⟩
      conv => whnf
      refine ⟨by kernel_rfl, ?_⟩
      conv => whnf
      refine ⟨_, (turn_spec _ 17 (by decide)), ?_⟩
      conv => whnf
      refine ⟨_, (turn_spec _ 19 (by decide)), ?_⟩
      conv => whnf
      refine ⟨by first | omega | (simp only [Int.toNat_natCast]; omega) | (simp; done) | (simp; omega), ?_⟩
      conv => whnf
      refine ⟨by first | omega | (simp only [Int.toNat_natCast]; omega) | (simp; done) | (simp; omega), ?_⟩
      conv => whnf
      refine ⟨by first | omega | (simp only [Int.toNat_natCast]; omega) | (simp; done) | (simp; omega), ?_⟩
      conv => whnf
      refine ⟨by first | omega | (simp only [Int.toNat_natCast]; omega) | (simp; done) | (simp; omega), ?_⟩
      conv => whnf
      refine ⟨_, (turn_spec _ 7 (by decide)), ?_⟩
      conv => whnf
      refine ⟨_, (turn_spec _ 18 (by decide)), ?_⟩
      conv => whnf
      refine ⟨by first | omega | (simp only [Int.toNat_natCast]; omega) | (simp; done) | (simp; omega), ?_⟩
      conv => whnf
      refine ⟨by first | omega | (simp only [Int.toNat_natCast]; omega) | (simp; done) | (simp; omega), ?_⟩
      conv => whnf
      refine ⟨by first | omega | (simp only [Int.toNat_natCast]; omega) | (simp; done) | (simp; omega), ?_⟩
      conv => whnf
      refine ⟨by first | omega | (simp only [Int.toNat_natCast]; omega) | (simp; done) | (simp; omega), ?_⟩
      conv => whnf
      refine ⟨by first | omega | (simp only [Int.toNat_natCast]; omega) | (simp; done) | (simp; omega), ?_⟩
      conv => whnf
      refine ⟨by first | omega | (simp only [Int.toNat_natCast]; omega) | (simp; done) | (simp; omega), ?_⟩
      conv => whnf
      refine ⟨by kernel_rfl, ?_⟩
      conv => whnf
      refine ⟨by first | omega | (simp only [Int.toNat_natCast]; omega) | (simp; done) | (simp; omega), ?_⟩
      conv => whnf
      refine ⟨⟨t + 1, by omega⟩, [], by dsimp only; omega, .refl _, .refl _, .refl _, OLe.refl _, ⟨rfl, rfl, rfl, fun j hj => ?_⟩, trivial⟩
      have e2 : (if 0 + ((t : Int) - 2).toNat < t then Sha.wd b (0 + ((t : Int) - 2).toNat) else 0) = Sha.wd b (t - 2) := by rw [if_pos (by omega), show 0 + ((t : Int) - 2).toNat = t - 2 from by omega]
      have e7 : (if 0 + ((t : Int) - 7).toNat < t then Sha.wd b (0 + ((t : Int) - 7).toNat) else 0) = Sha.wd b (t - 7) := by rw [if_pos (by omega), show 0 + ((t : Int) - 7).toNat = t - 7 from by omega]
      have e15 : (if 0 + ((t : Int) - 15).toNat < t then Sha.wd b (0 + ((t : Int) - 15).toNat) else 0) = Sha.wd b (t - 15) := by rw [if_pos (by omega), show 0 + ((t : Int) - 15).toNat = t - 15 from by omega]
      have e16 : (if 0 + ((t : Int) - 16).toNat < t then Sha.wd b (0 + ((t : Int) - 16).toNat) else 0) = Sha.wd b (t - 16) := by rw [if_pos (by omega), show 0 + ((t : Int) - 16).toNat = t - 16 from by omega]
      rw [e2, e7, e15, e16]
      simp only [fupd, Nat.zero_add, Int.toNat_natCast]
      by_cases h4 : j = t
      · subst h4
        rw [if_pos rfl, if_pos (by omega), show Sha.wd b j = _ from Sha.wd_hi b (t := j) (by omega)]
        rfl
      · rw [if_neg h4]
        by_cases h3 : j < t
        · rw [if_pos h3, if_pos (by omega)]
        · rw [if_neg h3, if_neg (by omega)]
    · obtain rfl : t = 64 := by have := of_decide_eq_false h2; omega
      conv => whnf
      refine ⟨_, .of_eq ?_, rfl, rfl⟩
      show AVal.agg ((flatF 64 (fun k => [D.i .u32 (if k < 64 then Sha.wd b k else 0)])).map .d) = _
      rw [show flatF 64 (fun k => [D.i .u32 (if k < 64 then Sha.wd b k else 0)]) = flatF 64 (wdF b) from flatG_congr 64 0 fun k _ hk => by rw [if_pos (by omega)]]
end Go.Proofs.YtjdmnfjgmbnlbaaGreatDoor
