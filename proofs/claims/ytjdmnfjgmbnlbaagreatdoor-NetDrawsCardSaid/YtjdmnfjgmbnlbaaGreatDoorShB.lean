/- Chapter 3: the document's digest: contracts. -/
import Derived.Test.YtjdmnfjgmbnlbaaGreatDoorShA
namespace Go.Proofs.YtjdmnfjgmbnlbaaGreatDoor
open Go Go.RowKit Towline
set_option linter.unusedVariables false
set_option linter.unusedSimpArgs false
set_option maxRecDepth 20000
set_option maxHeartbeats 4000000
abbrev si (n : Int) : AVal := .d (.i .i64 n)
abbrev s32 (n : Int) : AVal := .d (.i .u32 n)
abbrev stx (l : List UInt8) : AVal := .d (.s l)
abbrev wdF (b : List UInt8) : Nat → List D := fun k => [.i .u32 (Sha.wd b k)]
theorem map_getD {α β : Type} (l : List α) (f : α → β) (x : α) (y : β) {k : Nat} (h : k < l.length) : (l.map f).getD k y = f (l.getD k x) := by
  simp [List.getD_eq_getElem?_getD, List.getElem?_map, List.getElem?_eq_getElem h]
theorem rright_spec (x n : Int) (hn : 0 ≤ n ∧ n ≤ 32) : PSpec Tryz.prog 72 [s32 x, si n] (· = s32 (Sha.right x n)) := by
  refine PSpec.run (tysOk) followsB Tryz.func72 (by decide) rfl Tryz.ntmps72 (Nat.le_of_ble_eq_true rfl) rfl fun w0 R0 hGw => ?_
  conv => whnf
  refine ⟨by first | omega | decide +kernel, ?_⟩
  conv => whnf
  refine ⟨by first | omega | decide +kernel, ?_⟩
  conv => whnf
  refine ⟨by first | omega | decide +kernel, ?_⟩
  conv => whnf
  refine ⟨by kernel_rfl, ?_⟩
  conv => whnf
  exact ⟨_, .refl _, rfl, rfl⟩
theorem rconstants_spec : PSpec Tryz.prog 71 [] (· = .d (.sl 1 64 fun k => [.i .u32 (Sha.ks.getD k 0)])) := by
  refine PSpec.run (tysOk) followsB Tryz.func71 (by decide) rfl Tryz.ntmps71 (Nat.le_of_ble_eq_true rfl) rfl fun w0 R0 hGw => ?_
  conv => whnf
  refine ⟨by first | omega | decide +kernel, ?_⟩
  conv => whnf
  exact ⟨_, .sl rfl fun k hk => (show ((Sha.ks.map fun n => [D.i .u32 n]).getD k []) = _ from map_getD Sha.ks (fun n => [D.i .u32 n]) 0 [] hk), rfl, rfl⟩
theorem wrap32n (n : Nat) (h : n < 4294967296) : IntKind.u32.wrap (n : Int) = n := by
  simp [IntKind.wrap, IntKind.signed, IntKind.bits]; omega
theorem or_add32 (q b k : Nat) (hb : b < 2 ^ k) (h : q * 2 ^ k + b < 4294967296) : bitsOp .or .u32 ((q * 2 ^ k : Nat) : Int) (b : Int) = ((q * 2 ^ k + b : Nat) : Int) := by
  unfold bitsOp
  simp only
  have h1 : (BitVec.ofInt IntKind.u32.bits ((q * 2 ^ k : Nat) : Int) ||| BitVec.ofInt IntKind.u32.bits (b : Int)).toNat = q * 2 ^ k + b := by
    rw [BitVec.toNat_or, BitVec.toNat_ofInt, BitVec.toNat_ofInt]
    have e4 : ((2 ^ IntKind.u32.bits : Nat) : Int) = 4294967296 := by decide
    rw [e4]
    have e5 : (((q * 2 ^ k : Nat) : Int) % 4294967296).toNat = q * 2 ^ k := by
      generalize q * 2 ^ k = m at *
      omega
    have e6 : ((b : Int) % 4294967296).toNat = b := by
      generalize q * 2 ^ k = m at *
      omega
    rw [e5, e6]
    have := Nat.shiftLeft_add_eq_or_of_lt (i := k) hb q
    rw [Nat.shiftLeft_eq] at this
    exact this.symm
  rw [h1]
  exact wrap32n _ h
theorem shl32 (a : UInt8) (k : Nat) (hk : k ≤ 24) : shlOp .u32 (IntKind.u32.wrap (a.toNat : Int)) (k : Int) = ((a.toNat * 2 ^ k : Nat) : Int) := by
  have ha := UInt8.toNat_lt a
  have h2 : a.toNat * 2 ^ k < 4294967296 := by
    have h3 : 2 ^ k ≤ 2 ^ 24 := Nat.pow_le_pow_right (by decide) hk
    have h4 : a.toNat * 2 ^ k ≤ 255 * 2 ^ 24 := Nat.mul_le_mul (by omega) h3
    omega
  rw [wrap32n _ (by omega)]
  show IntKind.u32.wrap ((a.toNat : Int) * 2 ^ min (Int.toNat k) IntKind.u32.bits) = _
  rw [show min (Int.toNat k) IntKind.u32.bits = k from by simp [IntKind.bits]; omega]
  rw [show ((a.toNat : Int) * 2 ^ k) = ((a.toNat * 2 ^ k : Nat) : Int) from by simp, wrap32n _ h2]
theorem or4n (a b c d : UInt8) : bitsOp .or .u32 (bitsOp .or .u32 (bitsOp .or .u32 (shlOp .u32 (IntKind.u32.wrap (a.toNat : Int)) 24) (shlOp .u32 (IntKind.u32.wrap (b.toNat : Int)) 16)) (shlOp .u32 (IntKind.u32.wrap (c.toNat : Int)) 8)) (IntKind.u32.wrap (d.toNat : Int)) = ((a.toNat * 16777216 + b.toNat * 65536 + c.toNat * 256 + d.toNat : Nat) : Int) := by
  have ha := UInt8.toNat_lt a
  have hb := UInt8.toNat_lt b
  have hc := UInt8.toNat_lt c
  have hd := UInt8.toNat_lt d
  rw [show (24 : Int) = ((24 : Nat) : Int) from rfl, show (16 : Int) = ((16 : Nat) : Int) from rfl, show (8 : Int) = ((8 : Nat) : Int) from rfl, shl32 a 24 (by decide), shl32 b 16 (by decide), shl32 c 8 (by decide), wrap32n d.toNat (by omega)]
  rw [or_add32 a.toNat (b.toNat * 2 ^ 16) 24 (by omega) (by omega)]
  rw [show a.toNat * 2 ^ 24 + b.toNat * 2 ^ 16 = (a.toNat * 256 + b.toNat) * 2 ^ 16 from by omega, or_add32 _ (c.toNat * 2 ^ 8) 16 (by omega) (by omega)]
  rw [show (a.toNat * 256 + b.toNat) * 2 ^ 16 + c.toNat * 2 ^ 8 = ((a.toNat * 256 + b.toNat) * 256 + c.toNat) * 2 ^ 8 from by omega, or_add32 _ d.toNat 8 (by omega) (by omega)]
theorem rwords_spec (b : List UInt8) (hb : b.length = 64) : PSpec Tryz.prog 70 [stx b] (· = .d (.sl 1 64 (wdF b))) := by
  refine PSpec.run (tysOk) followsB Tryz.func70 (by decide) rfl Tryz.ntmps70 (Nat.le_of_ble_eq_true rfl) rfl fun w0 R0 hGw => ?_
  conv => whnf
  refine ALoop.adopt 3 1000 1 34 (wdF b) rfl rfl rfl ?_
  refine ALoop.introR tysOk followsB (fun i : {i : Nat // i ≤ 16} => ([(0, stx b), (3, .rsl 1000 1 0 i.1), (4, si i.1)], [(1000, .row 34 1 i.1 (wdF b))])) (fun i => 16 - i.1) ⟨0, by omega⟩ ?_ ?_
  · exact ⟨.refl _, .refl _, .refl _, OLe.refl _, trivial⟩
  rintro ⟨i, hi⟩
  dsimp only
  conv => whnf
  split <;> rename_i h1
  · have hlt : i < 16 := by have := of_decide_eq_true h1; omega
    conv => whnf
    refine ⟨by first | omega | (simp only [Int.toNat_natCast]; omega) | (simp; done) | (simp; omega), ?_⟩
    conv => whnf
    refine ⟨by first | omega | (simp only [Int.toNat_natCast]; omega) | (simp; done) | (simp; omega), ?_⟩
    conv => whnf
    refine ⟨by first | omega | (simp only [Int.toNat_natCast]; omega) | (simp; done) | (simp; omega), ?_⟩
    conv => whnf
    refine ⟨by first | omega | (simp only [Int.toNat_natCast]; omega) | (simp; done) | (simp; omega), ?_⟩
    conv => whnf
    refine ⟨by first | omega | (simp only [Int.toNat_natCast]; omega) | (simp; done) | (simp; omega), ?_⟩
    conv => whnf
    refine ⟨by first | omega | (simp only [Int.toNat_natCast]; omega) | (simp; done) | (simp; omega), ?_⟩
    conv => whnf
    refine ⟨by first | omega | (simp only [Int.toNat_natCast]; omega) | (simp; done) | (simp; omega), ?_⟩
    conv => whnf
    refine ⟨by first | omega | (simp only [Int.toNat_natCast]; omega) | (simp; done) | (simp; omega), ?_⟩
    conv => whnf
    refine ⟨by first | omega | (simp only [Int.toNat_natCast]; omega) | (simp; done) | (simp; omega), ?_⟩
    conv => whnf
    refine ⟨by first | omega | (simp only [Int.toNat_natCast]; omega) | (simp; done) | (simp; omega), ?_⟩
    conv => whnf
    refine ⟨by first | omega | (simp only [Int.toNat_natCast]; omega) | (simp; done) | (simp; omega), ?_⟩
    conv => whnf
    refine ⟨by first | omega | (simp only [Int.toNat_natCast]; omega) | (simp; done) | (simp; omega), ?_⟩
    conv => whnf
    refine ⟨by first | omega | (simp only [Int.toNat_natCast]; omega) | (simp; done) | (simp; omega), ?_⟩
    conv => whnf
    refine ⟨by first | omega | (simp only [Int.toNat_natCast]; omega) | (simp; done) | (simp; omega), ?_⟩
    conv => whnf
    refine ⟨⟨⟨rfl, by omega, by simp only [ty34]; omega⟩, by omega⟩, ?_⟩
    conv => whnf
    refine ⟨by kernel_rfl, ?_⟩
    conv => whnf
    refine ⟨by first | omega | (simp only [Int.toNat_natCast]; omega) | (simp; done) | (simp; omega), ?_⟩
    conv => whnf
    refine ⟨⟨i + 1, by omega⟩, [(45, 1000)], by dsimp only; omega, .refl _, .refl _, .refl _, ⟨rfl, rfl, rfl, ?_⟩, trivial⟩
    intro j hj
    simp only [fcat]
    split
    · rfl
    · have : j = i := by omega
      subst this
      rw [Nat.sub_self]
      show [D.i .u32 _] = [D.i .u32 (Sha.wd b j)]
      rw [or4n, Sha.wd_lo b hlt]
      unfold Sha.word
      rw [show (4 * (j : Int)).toNat = 4 * j from by omega, show (4 * (j : Int) + 1).toNat = 4 * j + 1 from by omega, show (4 * (j : Int) + 2).toNat = 4 * j + 2 from by omega, show (4 * (j : Int) + 3).toNat = 4 * j + 3 from by omega]
  · obtain rfl : i = 16 := by have := of_decide_eq_false h1; omega
    conv => whnf
    refine ALoop.introR tysOk followsB (fun i : {i : Nat // 16 ≤ i ∧ i ≤ 64} => ([(3, .rsl 1000 1 0 i.1), (5, si i.1)], [(1000, .row 34 1 i.1 (wdF b))])) (fun i => 64 - i.1) ⟨16, by omega⟩ ?_ ?_
    · exact ⟨.refl _, .refl _, OLe.refl _, trivial⟩
    rintro ⟨i, hi⟩
    dsimp only
    conv => whnf
    split <;> rename_i h2
    · have hlt : i < 64 := by have := of_decide_eq_true h2; omega
      conv => whnf
      refine ⟨by first | omega | (simp only [Int.toNat_natCast]; omega) | (simp; done) | (simp; omega), ?_⟩
      conv => whnf
      refine ⟨by first | omega | (simp only [Int.toNat_natCast]; omega) | (simp; done) | (simp; omega), ?_⟩
      conv => whnf
      refine ⟨by first | omega | (simp only [Int.toNat_natCast]; omega) | (simp; done) | (simp; omega), ?_⟩
      conv => whnf
      refine ⟨by first | omega | (simp only [Int.toNat_natCast]; omega) | (simp; done) | (simp; omega), ?_⟩
      conv => whnf
      refine ⟨by first | omega | (simp only [Int.toNat_natCast]; omega) | (simp; done) | (simp; omega), ?_⟩
      conv => whnf
      refine ⟨by first | omega | (simp only [Int.toNat_natCast]; omega) | (simp; done) | (simp; omega), ?_⟩
      conv => whnf
      refine ⟨_, (rright_spec _ 7 (by decide)), ?_⟩
      rintro q rfl
      conv => whnf
      refine ⟨_, (rright_spec _ 18 (by decide)), ?_⟩
      rintro q rfl
      conv => whnf
      refine ⟨by first | omega | (simp only [Int.toNat_natCast]; omega) | (simp; done) | (simp; omega), ?_⟩
      conv => whnf
      refine ⟨_, (rright_spec _ 17 (by decide)), ?_⟩
      rintro q rfl
      conv => whnf
      refine ⟨_, (rright_spec _ 19 (by decide)), ?_⟩
      rintro q rfl
      conv => whnf
      refine ⟨by first | omega | (simp only [Int.toNat_natCast]; omega) | (simp; done) | (simp; omega), ?_⟩
      conv => whnf
      refine ⟨by first | omega | (simp only [Int.toNat_natCast]; omega) | (simp; done) | (simp; omega), ?_⟩
      conv => whnf
      refine ⟨by first | omega | (simp only [Int.toNat_natCast]; omega) | (simp; done) | (simp; omega), ?_⟩
      conv => whnf
      refine ⟨by first | omega | (simp only [Int.toNat_natCast]; omega) | (simp; done) | (simp; omega), ?_⟩
      conv => whnf
      refine ⟨by first | omega | (simp only [Int.toNat_natCast]; omega) | (simp; done) | (simp; omega), ?_⟩
      conv => whnf
      refine ⟨by first | omega | (simp only [Int.toNat_natCast]; omega) | (simp; done) | (simp; omega), ?_⟩
      conv => whnf
      refine ⟨by first | omega | (simp only [Int.toNat_natCast]; omega) | (simp; done) | (simp; omega), ?_⟩
      conv => whnf
      refine ⟨⟨⟨rfl, by omega, by simp only [ty34]; omega⟩, by omega⟩, ?_⟩
      conv => whnf
      refine ⟨by kernel_rfl, ?_⟩
      conv => whnf
      refine ⟨by first | omega | (simp only [Int.toNat_natCast]; omega) | (simp; done) | (simp; omega), ?_⟩
      conv => whnf
      refine ⟨⟨i + 1, by omega⟩, [(93, 1000)], by dsimp only; omega, .refl _, .refl _, ⟨rfl, rfl, rfl, ?_⟩, trivial⟩
      intro j hj
      simp only [fcat]
      split
      · rfl
      · have : j = i := by omega
        subst this
        rw [Nat.sub_self]
        show [D.i .u32 _] = [D.i .u32 (Sha.wd b j)]
        rw [show Sha.wd b j = _ from Sha.wd_hi b (t := j) (by omega)]
        rw [show 0 + ((j : Int) - 2).toNat = j - 2 from by omega, show 0 + ((j : Int) - 7).toNat = j - 7 from by omega, show 0 + ((j : Int) - 15).toNat = j - 15 from by omega, show 0 + ((j : Int) - 16).toNat = j - 16 from by omega]
        rfl
    · obtain rfl : i = 64 := by have := of_decide_eq_false h2; omega
      conv => whnf
      refine ⟨by first | omega | (simp only [Int.toNat_natCast]; omega) | (simp; done) | (simp; omega), ?_⟩
      conv => whnf
      exact ⟨_, .refl _, rfl, rfl⟩
abbrev rgF (r : Sha.Rg) : Nat → List D := fun k => [.i .u32 (r.l.getD k 0)]
abbrev rgD (r : Sha.Rg) : AVal := .d (.sl 1 8 (rgF r))
theorem rblock_spec (r : Sha.Rg) (b : List UInt8) (hb : b.length = 64) : PSpec Tryz.prog 45 [rgD r, stx b] (· = rgD (Sha.block r b)) := by
  refine PSpec.run (tysOk) followsB Tryz.func45 (by decide) rfl Tryz.ntmps45 (Nat.le_of_ble_eq_true rfl) rfl fun w0 R0 hGw => ?_
  conv => whnf
  refine ⟨_, (rwords_spec b hb), ?_⟩
  rintro q rfl
  conv => whnf
  refine ⟨_, rconstants_spec, ?_⟩
  rintro q rfl
  conv => whnf
  refine ⟨⟨rfl, by decide, by decide⟩, ?_⟩
  conv => whnf
  refine ALoop.rens [(19, 900)] ?_
  conv => whnf
  refine ALoop.introR tysOk followsB (fun t : {t : Nat // t ≤ 64} => ([(0, rgD r), (5, .d (.sl 1 64 (wdF b))), (6, .d (.sl 1 64 fun k => [.i .u32 (Sha.ks.getD k 0)])), (7, .rsl 900 1 0 8), (8, si t.1)], [(900, .row 34 1 8 (rgF (Sha.rounds b r t.1)))])) (fun t => 64 - t.1) ⟨0, by omega⟩ ?_ ?_
  · exact ⟨.refl _, .refl _, .refl _, .refl _, .refl _, ⟨rfl, rfl, rfl, fun k hk => rfl⟩, trivial⟩
  rintro ⟨t, ht⟩
  dsimp only
  conv => whnf
  split <;> rename_i h1
  · have hlt : t < 64 := by have := of_decide_eq_true h1; omega
    conv => whnf
    refine ⟨by first | omega | (simp only [Int.toNat_natCast]; omega) | (simp; done) | (simp; omega), ?_⟩
    conv => whnf
    refine ⟨by first | omega | (simp only [Int.toNat_natCast]; omega) | (simp; done) | (simp; omega), ?_⟩
    conv => whnf
    refine ⟨by first | omega | (simp only [Int.toNat_natCast]; omega) | (simp; done) | (simp; omega), ?_⟩
    conv => whnf
    refine ⟨by first | omega | (simp only [Int.toNat_natCast]; omega) | (simp; done) | (simp; omega), ?_⟩
    conv => whnf
    refine ⟨by first | omega | (simp only [Int.toNat_natCast]; omega) | (simp; done) | (simp; omega), ?_⟩
    conv => whnf
    refine ⟨by first | omega | (simp only [Int.toNat_natCast]; omega) | (simp; done) | (simp; omega), ?_⟩
    conv => whnf
    refine ⟨_, (rright_spec _ 6 (by decide)), ?_⟩
    conv => whnf
    refine ⟨_, (rright_spec _ 11 (by decide)), ?_⟩
    conv => whnf
    refine ⟨_, (rright_spec _ 25 (by decide)), ?_⟩
    conv => whnf
    refine ⟨by first | omega | (simp only [Int.toNat_natCast]; omega) | (simp; done) | (simp; omega), ?_⟩
    conv => whnf
    refine ⟨by first | omega | (simp only [Int.toNat_natCast]; omega) | (simp; done) | (simp; omega), ?_⟩
    conv => whnf
    refine ⟨by first | omega | (simp only [Int.toNat_natCast]; omega) | (simp; done) | (simp; omega), ?_⟩
    conv => whnf
    refine ⟨by first | omega | (simp only [Int.toNat_natCast]; omega) | (simp; done) | (simp; omega), ?_⟩
    conv => whnf
    refine ⟨by first | omega | (simp only [Int.toNat_natCast]; omega) | (simp; done) | (simp; omega), ?_⟩
    conv => whnf
    refine ⟨by first | omega | (simp only [Int.toNat_natCast]; omega) | (simp; done) | (simp; omega), ?_⟩
    conv => whnf
    refine ⟨by kernel_rfl, ?_⟩
    conv => whnf
    refine ⟨_, (rright_spec _ 2 (by decide)), ?_⟩
    conv => whnf
    refine ⟨_, (rright_spec _ 13 (by decide)), ?_⟩
    conv => whnf
    refine ⟨_, (rright_spec _ 22 (by decide)), ?_⟩
    conv => whnf
    refine ⟨by first | omega | (simp only [Int.toNat_natCast]; omega) | (simp; done) | (simp; omega), ?_⟩
    conv => whnf
    refine ⟨by first | omega | (simp only [Int.toNat_natCast]; omega) | (simp; done) | (simp; omega), ?_⟩
    conv => whnf
    refine ⟨by first | omega | (simp only [Int.toNat_natCast]; omega) | (simp; done) | (simp; omega), ?_⟩
    conv => whnf
    refine ⟨by first | omega | (simp only [Int.toNat_natCast]; omega) | (simp; done) | (simp; omega), ?_⟩
    conv => whnf
    refine ⟨by first | omega | (simp only [Int.toNat_natCast]; omega) | (simp; done) | (simp; omega), ?_⟩
    conv => whnf
    refine ⟨by first | omega | (simp only [Int.toNat_natCast]; omega) | (simp; done) | (simp; omega), ?_⟩
    conv => whnf
    refine ⟨by first | omega | (simp only [Int.toNat_natCast]; omega) | (simp; done) | (simp; omega), ?_⟩
    conv => whnf
    refine ⟨by first | omega | (simp only [Int.toNat_natCast]; omega) | (simp; done) | (simp; omega), ?_⟩
    conv => whnf
    refine ⟨by kernel_rfl, ?_⟩
    conv => whnf
    refine ⟨by first | omega | (simp only [Int.toNat_natCast]; omega) | (simp; done) | (simp; omega), ?_⟩
    conv => whnf
    refine ⟨by first | omega | (simp only [Int.toNat_natCast]; omega) | (simp; done) | (simp; omega), ?_⟩
    conv => whnf
    refine ⟨by first | omega | (simp only [Int.toNat_natCast]; omega) | (simp; done) | (simp; omega), ?_⟩
    conv => whnf
    refine ⟨by first | omega | (simp only [Int.toNat_natCast]; omega) | (simp; done) | (simp; omega), ?_⟩
    conv => whnf
    refine ⟨by first | omega | (simp only [Int.toNat_natCast]; omega) | (simp; done) | (simp; omega), ?_⟩
    conv => whnf
    refine ⟨by first | omega | (simp only [Int.toNat_natCast]; omega) | (simp; done) | (simp; omega), ?_⟩
    conv => whnf
    refine ⟨by first | omega | (simp only [Int.toNat_natCast]; omega) | (simp; done) | (simp; omega), ?_⟩
    conv => whnf
    refine ⟨by first | omega | (simp only [Int.toNat_natCast]; omega) | (simp; done) | (simp; omega), ?_⟩
    conv => whnf
    refine ⟨by first | omega | (simp only [Int.toNat_natCast]; omega) | (simp; done) | (simp; omega), ?_⟩
    conv => whnf
    refine ⟨by first | omega | (simp only [Int.toNat_natCast]; omega) | (simp; done) | (simp; omega), ?_⟩
    conv => whnf
    refine ⟨by first | omega | (simp only [Int.toNat_natCast]; omega) | (simp; done) | (simp; omega), ?_⟩
    conv => whnf
    refine ⟨by first | omega | (simp only [Int.toNat_natCast]; omega) | (simp; done) | (simp; omega), ?_⟩
    conv => whnf
    refine ⟨by first | omega | (simp only [Int.toNat_natCast]; omega) | (simp; done) | (simp; omega), ?_⟩
    conv => whnf
    refine ⟨by first | omega | (simp only [Int.toNat_natCast]; omega) | (simp; done) | (simp; omega), ?_⟩
    conv => whnf
    refine ⟨by kernel_rfl, ?_⟩
    conv => whnf
    refine ⟨by first | omega | (simp only [Int.toNat_natCast]; omega) | (simp; done) | (simp; omega), ?_⟩
    conv => whnf
    refine ⟨⟨t + 1, by omega⟩, [(119, 900)], by dsimp only; omega, .refl _, .refl _, .refl _, .refl _, .refl _, ⟨rfl, rfl, rfl, ?_⟩, trivial⟩
    intro k hk
    match k, hk with
    | 0, _ => rfl
    | 1, _ => rfl
    | 2, _ => rfl
    | 3, _ => rfl
    | 4, _ => rfl
    | 5, _ => rfl
    | 6, _ => rfl
    | 7, _ => rfl
  · obtain rfl : t = 64 := by have := of_decide_eq_false h1; omega
    conv => whnf
    refine ALoop.introR tysOk followsB (fun t : {t : Nat // t ≤ 8} => ([(0, rgD r), (7, .rsl 900 1 0 8), (13, si t.1)], [(900, .row 34 1 8 (fun k => [.i .u32 (if k < t.1 then (Sha.block r b).l.getD k 0 else (Sha.rounds b r 64).l.getD k 0)]))])) (fun t => 8 - t.1) ⟨0, by omega⟩ ?_ ?_
    · exact ⟨.refl _, .refl _, .refl _, ⟨rfl, rfl, rfl, fun k hk => rfl⟩, trivial⟩
    rintro ⟨t, ht⟩
    dsimp only
    conv => whnf
    split <;> rename_i h2
    · have hlt : t < 8 := by have := of_decide_eq_true h2; omega
      conv => whnf
      refine ⟨by first | omega | (simp only [Int.toNat_natCast]; omega) | (simp; done) | (simp; omega), ?_⟩
      conv => whnf
      refine ⟨by first | omega | (simp only [Int.toNat_natCast]; omega) | (simp; done) | (simp; omega), ?_⟩
      conv => whnf
      refine ⟨by first | omega | (simp only [Int.toNat_natCast]; omega) | (simp; done) | (simp; omega), ?_⟩
      conv => whnf
      refine ⟨by first | omega | (simp only [Int.toNat_natCast]; omega) | (simp; done) | (simp; omega), ?_⟩
      conv => whnf
      refine ⟨by first | omega | (simp only [Int.toNat_natCast]; omega) | (simp; done) | (simp; omega), ?_⟩
      conv => whnf
      refine ⟨by kernel_rfl, ?_⟩
      conv => whnf
      refine ⟨by first | omega | (simp only [Int.toNat_natCast]; omega) | (simp; done) | (simp; omega), ?_⟩
      conv => whnf
      refine ⟨⟨t + 1, by omega⟩, [], by dsimp only; omega, .refl _, .refl _, .refl _, ⟨rfl, rfl, rfl, ?_⟩, trivial⟩
      intro k hk
      have hpl : ∀ q, q < 8 → (Sha.block r b).l.getD q 0 = Sha.w32 ((Sha.rounds b r 64).l.getD q 0 + r.l.getD q 0) := by
        intro q hq
        match q, hq with
        | 0, _ => rfl
        | 1, _ => rfl
        | 2, _ => rfl
        | 3, _ => rfl
        | 4, _ => rfl
        | 5, _ => rfl
        | 6, _ => rfl
        | 7, _ => rfl
      generalize (Sha.block r b).l = bl at *
      generalize (Sha.rounds b r 64).l = rl at *
      simp only [fupd, Int.toNat_natCast, Nat.zero_add, Nat.lt_irrefl, if_false]
      by_cases hkt : k = t
      · subst hkt
        rw [if_pos rfl, if_pos (by omega), hpl k hk]
      · rw [if_neg hkt]
        by_cases hk2 : k < t
        · rw [if_pos hk2, if_pos (by omega)]
        · rw [if_neg hk2, if_neg (by omega)]
    · obtain rfl : t = 8 := by have := of_decide_eq_false h2; omega
      conv => whnf
      refine ⟨by first | omega | (simp only [Int.toNat_natCast]; omega) | (simp; done) | (simp; omega), ?_⟩
      conv => whnf
      exact ⟨_, .sl rfl fun k hk => by simp [hk], rfl, rfl⟩
end Go.Proofs.YtjdmnfjgmbnlbaaGreatDoor
