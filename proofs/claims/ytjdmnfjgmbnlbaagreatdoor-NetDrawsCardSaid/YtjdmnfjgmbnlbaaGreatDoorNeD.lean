/- Chapter 21: numbers that are drawn, the time; the statements' own functions. -/
import Derived.Test.YtjdmnfjgmbnlbaaGreatDoorNeC
import Derived.Test.YtjdmnfjgmbnlbaaGreatDoorShG
namespace Go.Proofs.YtjdmnfjgmbnlbaaGreatDoor
open Go Go.RowKit Towline
set_option linter.unusedVariables false
set_option linter.unusedSimpArgs false
set_option maxRecDepth 20000
set_option maxHeartbeats 4000000
theorem itoa_spec (i : Nat) (h : i < 100) : PSpec Tryz.prog 25 [ni i] (· = ns (Lib.decDigits i)) := by
  refine ⟨⟨_, _, Tryz.func25, by decide, rfl⟩, fun w R vs hG hR hz ha => ?_⟩
  have h0 := repA_i (ha 0 _ rfl)
  obtain ⟨v0, rfl⟩ : ∃ v0, vs = #[v0] := by
    obtain ⟨l⟩ := vs
    match l, hz with
    | [x], _ => exact ⟨x, rfl⟩
  have h0 : v0 = .int .i64 i := h0
  subst h0
  refine (Tryz.strconv_Itoa_small i h w).mono ?_
  rintro e w' ⟨rfl, rfl⟩
  exact ⟨_, ns (Lib.decDigits i), rfl, rfl, Below.refl _ _, rfl, .d (.s _)⟩
/-- A text's first four bytes, as a number. -/
def w4 (l : List UInt8) : Nat := (l.getD 0 0).toNat * 16777216 + (l.getD 1 0).toNat * 65536 + (l.getD 2 0).toNat * 256 + (l.getD 3 0).toNat
/-- The k-th number of a seed. -/
def drw (seed : List UInt8) (k : Nat) : Nat := w4 (Sha.sum (seed ++ [47] ++ Lib.decDigits k))
theorem orU (n : Nat) (c : UInt8) (h : n < 16777216) : bitsOp .or .u32 (shlOp .u32 (n : Int) 8) (IntKind.u32.wrap (c.toNat : Int)) = ((n * 256 + c.toNat : Nat) : Int) := by
  have hc := UInt8.toNat_lt c
  have w : ∀ m : Nat, m < 4294967296 → IntKind.u32.wrap (m : Int) = m := fun m hm => by
    simp [IntKind.wrap, IntKind.signed, IntKind.bits]
    omega
  have e0 : shlOp .u32 (n : Int) 8 = ((n * 256 : Nat) : Int) := by
    show IntKind.u32.wrap ((n : Int) * 2 ^ min (Int.toNat 8) IntKind.u32.bits) = _
    rw [show ((2 : Int) ^ min (Int.toNat 8) IntKind.u32.bits) = 256 from by decide, show ((n : Int) * 256) = ((n * 256 : Nat) : Int) from by omega, w _ (by omega)]
  rw [e0, w _ (by omega)]
  unfold bitsOp
  simp only
  have h1 : (BitVec.ofInt IntKind.u32.bits ((n * 256 : Nat) : Int) ||| BitVec.ofInt IntKind.u32.bits (c.toNat : Int)).toNat = n * 256 + c.toNat := by
    rw [BitVec.toNat_or, BitVec.toNat_ofInt, BitVec.toNat_ofInt]
    have e4 : ((2 ^ IntKind.u32.bits : Nat) : Int) = 4294967296 := by decide
    rw [e4]
    have e5 : (((n * 256 : Nat) : Int) % 4294967296).toNat = n * 256 := by omega
    have e6 : (((c.toNat : Nat) : Int) % 4294967296).toNat = c.toNat := by omega
    rw [e5, e6]
    have := Nat.shiftLeft_add_eq_or_of_lt (i := 8) (show c.toNat < 2 ^ 8 from hc) n
    rw [Nat.shiftLeft_eq] at this
    exact this.symm
  rw [h1]
  exact w _ (by omega)
theorem or_four (a b c d : UInt8) : bitsOp .or .u32 (shlOp .u32 (bitsOp .or .u32 (shlOp .u32 (bitsOp .or .u32 (shlOp .u32 (bitsOp .or .u32 (shlOp .u32 0 8) (IntKind.u32.wrap (a.toNat : Int))) 8) (IntKind.u32.wrap (b.toNat : Int))) 8) (IntKind.u32.wrap (c.toNat : Int))) 8) (IntKind.u32.wrap (d.toNat : Int)) = ((a.toNat * 16777216 + b.toNat * 65536 + c.toNat * 256 + d.toNat : Nat) : Int) := by
  have ha := UInt8.toNat_lt a
  have hb := UInt8.toNat_lt b
  have hc := UInt8.toNat_lt c
  rw [show (0 : Int) = ((0 : Nat) : Int) from rfl, orU 0 a (by omega), orU _ b (by omega), orU _ c (by omega), orU _ d (by omega)]
  congr 1
  omega
/-- The first i bytes, as a number. -/
def wi (l : List UInt8) : Nat → Nat
  | 0 => 0
  | i + 1 => wi l i * 256 + (l.getD i 0).toNat
theorem wi_lt (l : List UInt8) : ∀ i, wi l i < 256 ^ i
  | 0 => by simp [wi]
  | i + 1 => by
    have := wi_lt l i
    have hb := UInt8.toNat_lt (l.getD i 0)
    rw [wi, Nat.pow_succ]
    omega
theorem wi4 (l : List UInt8) : wi l 4 = w4 l := by
  simp only [wi, w4]
  omega
theorem dec_len (k : Nat) (h : k < 100) : (Lib.decDigits k).length ≤ 2 := by
  unfold Lib.decDigits
  split
  · simp
  · unfold Lib.decDigits
    split
    · simp
    · omega
abbrev lentD : List (Nat × List Bool) := lentN ++ [(7, []), (8, [false, true]), (9, []), (11, []), (22, []), (14, []), (10, [])]
abbrev TD : Tys := tysX false [] lentD tgN
theorem tysDOk : TysOk Tryz.prog TD := tysXOk _ _ _ _
abbrev TDr : Tys := tysX false [28] lentD tgN
theorem tysDrOk : TysOk Tryz.prog TDr := tysXOk _ _ _ _
theorem draw_spec (seed : List UInt8) (hs : seed.length ≤ 1000) (dr : Nat) (hd : dr < 100) (now : Int) (m : Nat) (ef : Nat → List D) (O : Own) (last : Int) : LSpec Tryz.prog 11 [.ptr Z0 0] (netH seed dr now m ef O last)
    (fun r hl => r = n32 (drw seed dr) ∧ hl = netH seed (dr + 1 : Nat) now m ef O last) := by
  refine LSpec.run (tysDrOk) followsB Tryz.func11 (by decide) rfl Tryz.ntmps11 (Nat.le_of_ble_eq_true rfl) rfl rfl fun w0 R0 Lo hGw => ?_
  conv => whnf
  have hdl := dec_len dr hd
  refine ⟨by simp; omega, ?_⟩
  conv => whnf
  refine ⟨_, (itoa_spec dr hd), ?_⟩
  conv => whnf
  refine ⟨by simp; omega, ?_⟩
  conv => whnf
  refine ⟨_, (shaSum_spec (seed ++ [47] ++ Lib.decDigits dr) (by simp; omega) (by simp; omega)), ?_⟩
  conv => whnf
  refine ⟨by kernel_rfl, ?_⟩
  conv => whnf
  refine ⟨by first | omega | (simp only [Int.toNat_natCast]; omega) | (simp; done) | (simp; omega), ?_⟩
  conv => whnf
  generalize hS : Sha.sum (seed ++ [47] ++ Lib.decDigits dr) = S
  have hSl : S.length = 32 := by rw [← hS]; rfl
  refine ⟨by omega, ?_⟩
  obtain ⟨a, b, c, d, S', rfl⟩ : ∃ a b c d S', S = a :: b :: c :: d :: S' := by
    match S, hSl with
    | a :: b :: c :: d :: S', _ => exact ⟨a, b, c, d, S', rfl⟩
  conv => whnf
  rw [show cutS (a :: b :: c :: d :: S') none (some 4) = [a, b, c, d] from rfl]
  refine ⟨by simp, ?_⟩
  conv => whnf
  refine ALoop.rounds tysDrOk followsB 5 ?_
  conv => whnf
  repeat (refine ⟨by first | omega | (simp; done) | decide +kernel, ?_⟩; conv => whnf)
  have e := or_four a b c d
  refine ⟨n32 (drw seed dr), netH seed (dr + 1 : Nat) now m ef O last, .of_eq ?_, ⟨OLe.refl _, OLe.refl _, OLe.refl _, OLe.refl _, trivial⟩, rfl, rfl⟩
  show n32 _ = n32 _
  refine congrArg n32 (Eq.trans e ?_)
  unfold drw
  rw [hS]
  rfl
theorem number_spec (s : List UInt8) (h : s.length = 32) : PSpec Tryz.prog 26 [ns s] (· = n32 (w4 s)) := by
  refine PSpec.run (tysOk) followsB Tryz.func26 (by decide) rfl Tryz.ntmps26 (Nat.le_of_ble_eq_true rfl) rfl fun w0 R0 hGw => ?_
  conv => whnf
  refine ⟨by first | omega | (simp only [Int.toNat_natCast]; omega) | (simp; done) | (simp; omega), ?_⟩
  conv => whnf
  refine ⟨by first | omega | (simp only [Int.toNat_natCast]; omega) | (simp; done) | (simp; omega), ?_⟩
  conv => whnf
  refine ⟨by first | omega | (simp only [Int.toNat_natCast]; omega) | (simp; done) | (simp; omega), ?_⟩
  conv => whnf
  refine ⟨by first | omega | (simp only [Int.toNat_natCast]; omega) | (simp; done) | (simp; omega), ?_⟩
  conv => whnf
  refine ⟨by first | omega | (simp only [Int.toNat_natCast]; omega) | (simp; done) | (simp; omega), ?_⟩
  conv => whnf
  refine ⟨by first | omega | (simp only [Int.toNat_natCast]; omega) | (simp; done) | (simp; omega), ?_⟩
  conv => whnf
  refine ⟨by first | omega | (simp only [Int.toNat_natCast]; omega) | (simp; done) | (simp; omega), ?_⟩
  conv => whnf
  refine ⟨by kernel_rfl, ?_⟩
  conv => whnf
  refine ⟨_, .refl _, ?_, rfl⟩
  exact congrArg n32 (or4n _ _ _ _)
theorem dec_step (m : Nat) : Lib.decDigits m = (if m / 10 = 0 then [] else Lib.decDigits (m / 10)) ++ [UInt8.ofNat (48 + m % 10)] := by
  rw [Lib.decDigits]
  split
  · rename_i h
    rw [if_pos (by omega), Nat.mod_eq_of_lt h]
    rfl
  · rename_i h
    rw [if_neg (by omega)]
theorem digit_cut : ∀ d : Nat, d < 10 → cutS ({ data := #[48, 49, 50, 51, 52, 53, 54, 55, 56, 57] } : ByteArray).data.toList (some (d : Int)) (some ((d : Int) + 1)) = [UInt8.ofNat (48 + d)]
  | 0, _ => rfl
  | 1, _ => rfl
  | 2, _ => rfl
  | 3, _ => rfl
  | 4, _ => rfl
  | 5, _ => rfl
  | 6, _ => rfl
  | 7, _ => rfl
  | 8, _ => rfl
  | 9, _ => rfl
  | n + 10, h => by omega
theorem decimal_spec (n : Nat) (hn : n ≤ 2 ^ 40) : PSpec Tryz.prog 28 [ni n] (· = ns (Lib.decDigits n)) := by
  refine PSpec.run (tysOk) followsB Tryz.func28 (by decide) rfl Tryz.ntmps28 (Nat.le_of_ble_eq_true rfl) rfl fun w0 R0 hGw => ?_
  conv => whnf
  refine ALoop.intro tysOk followsB (fun p : {p : Nat × List UInt8 // p.2.length + p.1 ≤ n + 1 ∧ ((p.2 = [] ∧ p.1 = n) ∨ (p.2 ≠ [] ∧ Lib.decDigits n = (if p.1 = 0 then [] else Lib.decDigits p.1) ++ p.2))} => ([(0, ni p.1.1), (3, ns p.1.2)], [])) (fun p => p.1.1 + (if p.1.2 = [] then 1 else 0)) ⟨(n, []), by simp, .inl ⟨rfl, rfl⟩⟩ ⟨.refl _, .refl _, trivial⟩ ?_
  rintro ⟨⟨m, s⟩, hb, hinv⟩
  dsimp only at hb hinv ⊢
  conv => whnf
  by_cases hm : 0 < m
  · rw [decide_eq_true (show (0 : Int) < m by omega)]
    conv => whnf
    have hmod : (m : Int).tmod 10 = ((m % 10 : Nat) : Int) := by rw [Int.tmod_eq_emod_of_nonneg (by omega)]; omega
    refine ⟨by decide, ?_⟩
    conv => whnf
    refine ⟨by decide, ?_⟩
    conv => whnf
    rw [hmod]
    refine ⟨by first | omega | (simp only [Int.toNat_natCast]; omega) | (simp; done) | (simp; omega), ?_⟩
    conv => whnf
    refine ⟨by show _ ∧ _ ∧ _ ≤ ((10 : Nat) : Int); omega, ?_⟩
    have hdig : cutS ({ data := #[48, 49, 50, 51, 52, 53, 54, 55, 56, 57] } : ByteArray).data.toList (some ((m % 10 : Nat) : Int)) (some (((m % 10 : Nat) : Int) + 1)) = [UInt8.ofNat (48 + m % 10)] := digit_cut (m % 10) (Nat.mod_lt _ (by decide))
    conv => whnf
    rw [hdig]
    refine ⟨by dsimp only [List.length_cons, List.length_nil] at hb ⊢; omega, ?_⟩
    conv => whnf
    refine ⟨by decide, ?_⟩
    conv => whnf
    have hdiv : (IntKind.i64.wrap ((m : Int).tdiv 10)) = ((m / 10 : Nat) : Int) := by
      rw [Int.tdiv_eq_ediv_of_nonneg (by omega)]
      simp [IntKind.wrap, IntKind.signed, IntKind.bits]
      omega
    refine ⟨⟨(m / 10, UInt8.ofNat (48 + m % 10) :: _), ?_, .inr ⟨by simp, ?_⟩⟩, ?_, .of_eq (by rw [hdiv]), .refl _, trivial⟩
    · simp at hb ⊢
      omega
    · dsimp only
      rcases hinv with ⟨_, h⟩ | ⟨h0, h⟩
      · subst h
        rw [dec_step]
        simp_all
      · rw [h]
        first | (rw [if_neg (by omega), dec_step m, List.append_assoc]; rfl) | (cases h0 rfl)
    · dsimp only
      rw [if_neg (by simp)]
      first | omega | (simp; omega) | (split <;> omega)
  · rw [decide_eq_false (show ¬ (0 : Int) < m by omega)]
    conv => whnf
    cases s with
    | nil =>
      conv => whnf
      have hmod : (m : Int).tmod 10 = ((m % 10 : Nat) : Int) := by rw [Int.tmod_eq_emod_of_nonneg (by omega)]; omega
      refine ⟨by decide, ?_⟩
      conv => whnf
      refine ⟨by decide, ?_⟩
      conv => whnf
      rw [hmod]
      refine ⟨by first | omega | (simp only [Int.toNat_natCast]; omega) | (simp; done) | (simp; omega), ?_⟩
      conv => whnf
      refine ⟨by show _ ∧ _ ∧ _ ≤ ((10 : Nat) : Int); omega, ?_⟩
      have hdig : cutS ({ data := #[48, 49, 50, 51, 52, 53, 54, 55, 56, 57] } : ByteArray).data.toList (some ((m % 10 : Nat) : Int)) (some (((m % 10 : Nat) : Int) + 1)) = [UInt8.ofNat (48 + m % 10)] := digit_cut (m % 10) (Nat.mod_lt _ (by decide))
      conv => whnf
      rw [hdig]
      refine ⟨by dsimp only [List.length_cons, List.length_nil] at hb ⊢; omega, ?_⟩
      conv => whnf
      refine ⟨by decide, ?_⟩
      conv => whnf
      have hdiv : (IntKind.i64.wrap ((m : Int).tdiv 10)) = ((m / 10 : Nat) : Int) := by
        rw [Int.tdiv_eq_ediv_of_nonneg (by omega)]
        simp [IntKind.wrap, IntKind.signed, IntKind.bits]
        omega
      refine ⟨⟨(m / 10, UInt8.ofNat (48 + m % 10) :: _), ?_, .inr ⟨by simp, ?_⟩⟩, ?_, .of_eq (by rw [hdiv]), .refl _, trivial⟩
      · simp at hb ⊢
        omega
      · dsimp only
        rcases hinv with ⟨_, h⟩ | ⟨h0, h⟩
        · subst h
          rw [dec_step]
          simp_all
        · rw [h]
          first | (rw [if_neg (by omega), dec_step m, List.append_assoc]; rfl) | (cases h0 rfl)
      · dsimp only
        rw [if_neg (by simp)]
        first | omega | (simp; omega) | (split <;> omega)
    | cons x r =>
      conv => whnf
      rcases hinv with ⟨h, _⟩ | ⟨_, h⟩
      · cases h
      · exact ⟨_, .refl _, by rw [h, if_pos (by omega)]; rfl, rfl⟩
theorem address_spec (i : Nat) (hi : i < 100) : PSpec Tryz.prog 16 [ni i] (· = ns [10, 0, 0, UInt8.ofNat (i + 1)]) := by
  refine PSpec.run (tysOk) followsB Tryz.func16 (by decide) rfl Tryz.ntmps16 (Nat.le_of_ble_eq_true rfl) rfl fun w0 R0 hGw => ?_
  conv => whnf
  refine ⟨by first | omega | (simp only [Int.toNat_natCast]; omega) | (simp; done) | (simp; omega), ?_⟩
  conv => whnf
  refine ⟨[10, 0, 0, UInt8.ofNat (i + 1)], ⟨rfl, by omega, fun k hk => ?_⟩, ?_⟩
  · match k, hk with
    | 0, _ => rfl
    | 1, _ => rfl
    | 2, _ => rfl
    | 3, _ =>
      show [D.i .u8 (IntKind.u8.wrap ((i : Int) + 1))] = [D.i .u8 _]
      refine congrArg (fun x => [D.i .u8 x]) ?_
      show _ = (((UInt8.ofNat (i + 1)).toNat : Nat) : Int)
      rw [UInt8.toNat_ofNat']
      simp [IntKind.wrap, IntKind.signed, IntKind.bits]
  conv => whnf
  exact ⟨_, .refl _, rfl, rfl⟩
end Go.Proofs.YtjdmnfjgmbnlbaaGreatDoor
