/- Chapter 3: the program's digest, the whole of it: contracts. -/
import Derived.Test.YtjdmnfjgmbnlbaaGreatDoorBldG
import Derived.Test.YtjdmnfjgmbnlbaaGreatDoorShE
import Derived.Lib.Repeat
namespace Go.Proofs.YtjdmnfjgmbnlbaaGreatDoor
open Go Go.RowKit Towline
set_option linter.unusedVariables false
set_option linter.unusedSimpArgs false
set_option maxRecDepth 20000
set_option maxHeartbeats 4000000
theorem liesBuilder : LiesB 93 := by
  show liesAt _ _ _ _ _ _ _ = true
  kernel_rfl
theorem liesHash : LiesB 95 := by
  show liesAt _ _ _ _ _ _ _ = true
  kernel_rfl
theorem writeB_used (tg : TypeId) (htg : LiesB tg) (n : Nat) (f : Nat → List D) (c : Int) (h : n ≤ 2 ^ 40) : LSpec Tryz.prog 115 [.ptr E0 0, .d (.i .u8 c)] (bldG tg (.ptr E0 0) n f) (fun r hl => r = nilE ∧ hl = bldWG tg (n + 1) (fcat f n fun k => [.i .u8 c])) := by
  refine LSpec.run (tysXOk false [] [(113, [])] []) followsB Tryz.func115 (by decide) rfl Tryz.ntmps115 (Nat.le_of_ble_eq_true rfl) rfl rfl fun w0 R0 Lo hGw => ?_
  conv => whnf
  refine ⟨_, (cc_usedG tg htg n f), ?_⟩
  rintro q hq ⟨rfl, rfl⟩
  conv => whnf
  refine ⟨⟨⟨rfl, by omega, by simp only [ty5]; omega⟩, by omega⟩, ?_⟩
  conv => whnf
  refine ⟨_, _, .refl _, ?_, rfl, rfl⟩
  refine ⟨OLe.refl _, ⟨rfl, rfl, rfl, fun k hk => ?_⟩, trivial⟩
  unfold fcat
  split
  · rfl
  · obtain rfl : k = n := by omega
    rw [Nat.sub_self]
    rfl
theorem repeat0_spec (k : Nat) (h : k ≤ 64) : PSpec Tryz.prog 114 [stx [0], si k] (· = stx (List.replicate k 0)) := by
  refine ⟨⟨_, _, Tryz.func114, by decide, rfl⟩, fun w R vs hG hR hz ha => ?_⟩
  have h0 := repA_s (ha 0 _ rfl)
  have h1 := repA_i (ha 1 _ rfl)
  obtain ⟨v0, v1, rfl⟩ : ∃ v0 v1, vs = #[v0, v1] := by
    obtain ⟨l⟩ := vs
    match l, hz with
    | [x, y], _ => exact ⟨x, y, rfl⟩
  have h0 : v0 = .string ⟨[0].toArray⟩ := h0
  have h1 : v1 = .int .i64 k := h1
  subst h0; subst h1
  refine (Tryz.strings_Repeat ⟨[0].toArray⟩ k w (by omega) (by show 1 * k ≤ _; omega)).mono ?_
  rintro e w' ⟨rfl, hb⟩
  refine ⟨_, stx (List.replicate k 0), rfl, rfl, hb, rfl, ?_⟩
  have e : ∀ k, Lib.repeatL [0] k = List.replicate k (0 : UInt8) := by
    intro k
    induction k with
    | zero => rfl
    | succ k ih => rw [List.replicate_succ, ← ih]; rfl
  show RepA w' _ _ (stx (List.replicate k 0)) (.string ⟨(Lib.repeatL [0] k).toArray⟩)
  rw [e]
  exact .d (.s _)
abbrev lentF : List (Nat × List Bool) := [(63, []), (115, []), (65, []), (67, []), (68, []), (41, []), (42, [])]
abbrev TF : Tys := tysX false [] lentF [5000000000 + 224, 5000000000 + 131, 93, 95]
theorem tysFOk : TysOk Tryz.prog TF := tysXOk _ _ _ _
theorem padByte (n m : Nat) (hn : n ≤ 2 ^ 40) (hlt : m < 8) : IntKind.u8.wrap (shrOp .u64 (IntKind.u64.wrap (IntKind.u64.wrap (n : Int) * 8)) (8 * (7 - (m : Int)))) = (((UInt8.ofNat (n * 8 / 2 ^ (8 * (7 - m)) % 256)).toNat : Nat) : Int) := by
  have : IntKind.u64.wrap (IntKind.u64.wrap (n : Int) * 8) = ((n * 8 : Nat) : Int) := by
    simp [IntKind.wrap, IntKind.signed, IntKind.bits]; omega
  rw [this, UInt8.toNat_ofNat']
  unfold shrOp
  rw [show min (8 * (7 - (m : Int))).toNat IntKind.u64.bits = 8 * (7 - m) from by simp [IntKind.bits]; omega]
  rw [Int.fdiv_eq_ediv_of_nonneg _ (by exact_mod_cast Nat.zero_le _)]
  rw [show ((n * 8 : Nat) : Int) / (2 : Int) ^ (8 * (7 - m)) = ((n * 8 / 2 ^ (8 * (7 - m)) : Nat) : Int) from by simp]
  generalize n * 8 / 2 ^ (8 * (7 - m)) = q
  simp [IntKind.wrap, IntKind.signed, IntKind.bits]
theorem fcat_one (L : List UInt8) (x : UInt8) (k : Nat) (hk : k < L.length + 1) : fcat (bytesF L) L.length (fun _ => [D.i .u8 (x.toNat : Nat)]) k = bytesF (L ++ [x]) k := by
  unfold fcat
  split
  · rename_i h
    unfold bytesF
    rw [List.getD_eq_getElem?_getD, List.getD_eq_getElem?_getD, List.getElem?_append_left h]
  · rename_i h
    obtain rfl : k = L.length := by omega
    unfold bytesF
    simp
theorem pad_spec (n : Nat) (hn : n ≤ 2 ^ 40) : PSpec Tryz.prog 66 [si n] (· = stx (Sha.pad n)) := by
  have hgap : Sha.gapN n < 64 := Nat.mod_lt _ (by decide)
  refine PSpec.run (tysFOk) followsB Tryz.func66 (by decide) rfl Tryz.ntmps66 (Nat.le_of_ble_eq_true rfl) rfl fun w0 R0 hGw => ?_
  conv => whnf
  rw [show decide ((n : Int) < 0) = false from decide_eq_false (by omega)]
  conv => whnf
  refine ⟨by first | omega | (simp only [Int.toNat_natCast]; omega) | (simp; done) | (simp; omega), ?_⟩
  conv => whnf
  refine ⟨by first | omega | (simp only [Int.toNat_natCast]; omega) | (simp; done) | (simp; omega), ?_⟩
  conv => whnf
  have ht : ((n : Int) + 9).tmod 64 = (((n + 9) % 64 : Nat) : Int) := by
    rw [Int.tmod_eq_emod_of_nonneg (by omega)]
    omega
  have hg : (64 - (((n + 9) % 64 : Nat) : Int)).tmod 64 = ((Sha.gapN n : Nat) : Int) := by
    rw [Int.tmod_eq_emod_of_nonneg (by omega)]
    unfold Sha.gapN
    omega
  rw [ht]
  refine ⟨by first | omega | (simp only [Int.toNat_natCast]; omega) | (simp; done) | (simp; omega), ?_⟩
  conv => whnf
  rw [hg]
  refine ⟨by first | omega | (simp only [Int.toNat_natCast]; omega) | (simp; done) | (simp; omega), ?_⟩
  conv => whnf
  refine ⟨_, (repeat0_spec (Sha.gapN n) (by omega)), ?_⟩
  rintro q rfl
  conv => whnf
  refine ⟨by simp; omega, ?_⟩
  conv => whnf
  refine ⟨_, (writeS_nilG _ liesBuilder (128 :: List.replicate (Sha.gapN n) 0) (by simp; omega)), ?_⟩
  rintro q hq ⟨rfl, rfl⟩
  conv => whnf
  dsimp only [newBase, Nat.reduceAdd, Nat.reduceMul]
  have hlen : (Sha.be8 n).length = 8 := by simp [Sha.be8]
  refine ALoop.introR tysFOk followsB (fun m : {m : Nat // m ≤ 8} => ([(0, si n), (4, .ptr 4 0), (5, si (7 - m.1))], [(4, .box [.ptr 4 0, .rsl 17000 1 0 (1 + Sha.gapN n + m.1)] (some 93)), (17000, .row 5 1 (1 + Sha.gapN n + m.1) (bytesF (128 :: (List.replicate (Sha.gapN n) 0 ++ (Sha.be8 n).take m.1))))])) (fun m => 8 - m.1) ⟨0, by omega⟩ ?_ ?_
  · exact ⟨.refl _, .refl _, .refl _, ⟨⟨.refl _, .of_eq (by simp; omega), trivial⟩, rfl⟩, ⟨rfl, rfl, by simp; omega, fun k hk => by simp⟩, trivial⟩
  rintro ⟨m, hm8⟩
  dsimp only
  conv => whnf
  split <;> rename_i h2
  · have hlt : m < 8 := by have := of_decide_eq_true h2; omega
    conv => whnf
    refine ⟨by first | omega | (simp only [Int.toNat_natCast]; omega) | (simp; done) | (simp; omega), ?_⟩
    conv => whnf
    refine ⟨by first | omega | (simp only [Int.toNat_natCast]; omega) | (simp; done) | (simp; omega), ?_⟩
    conv => whnf
    have hll : (128 :: (List.replicate (Sha.gapN n) (0 : UInt8) ++ (Sha.be8 n).take m)).length = 1 + Sha.gapN n + m := by simp [hlen]; omega
    rw [padByte n m hn hlt]
    refine ⟨_, (writeB_used _ liesBuilder (1 + Sha.gapN n + m) (bytesF (128 :: (List.replicate (Sha.gapN n) 0 ++ (Sha.be8 n).take m))) _ (by omega)), ?_⟩
    rintro q hq ⟨rfl, rfl⟩
    conv => whnf
    conv => whnf
    refine ⟨by first | omega | (simp only [Int.toNat_natCast]; omega) | (simp; done) | (simp; omega), ?_⟩
    conv => whnf
    have hnext : (Sha.be8 n).take (m + 1) = (Sha.be8 n).take m ++ [UInt8.ofNat (n * 8 / 2 ^ (8 * (7 - m)) % 256)] := by
      rw [List.take_add_one]
      congr 1
      simp [Sha.be8, hlt]
    refine ⟨⟨m + 1, by omega⟩, [(29000, 17000)], by dsimp only; omega, .refl _, .refl _, .of_eq (by dsimp only; congr 2; omega), ⟨⟨.refl _, .of_eq (by rfl), trivial⟩, rfl⟩, ⟨rfl, rfl, by dsimp only; omega, fun k hk => ?_⟩, trivial⟩
    have := fcat_one (128 :: (List.replicate (Sha.gapN n) 0 ++ (Sha.be8 n).take m)) (UInt8.ofNat (n * 8 / 2 ^ (8 * (7 - m)) % 256)) k (by rw [hll]; omega)
    rw [hll] at this
    show _ = bytesF (128 :: (List.replicate (Sha.gapN n) 0 ++ (Sha.be8 n).take (m + 1))) k
    rw [hnext, ← List.append_assoc]
    exact this
  · obtain rfl : m = 8 := by have := of_decide_eq_false h2; omega
    conv => whnf
    refine ⟨_, (str_specG _ liesBuilder (.ptr E0 0) (1 + Sha.gapN n + 8) (bytesF (128 :: (List.replicate (Sha.gapN n) 0 ++ (Sha.be8 n).take 8))) (Sha.pad n) (by omega) (by simp [Sha.pad, hlen]; omega) (fun k hk => by rw [List.take_of_length_le (by omega)]; rfl)), ?_⟩
    rintro q hq ⟨rfl, rfl⟩
    conv => whnf
    conv => whnf
    exact ⟨_, .refl _, rfl, rfl⟩
end Go.Proofs.YtjdmnfjgmbnlbaaGreatDoor
