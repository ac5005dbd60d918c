/- Chapter 3: the document's digest, the whole of it: contracts. -/
import Derived.Test.YtjdmnfjgmbnlbaaGreatDoorBldG
import Derived.Test.YtjdmnfjgmbnlbaaGreatDoorShB
namespace Go.Proofs.YtjdmnfjgmbnlbaaGreatDoor
open Go Go.RowKit Towline
set_option linter.unusedVariables false
set_option linter.unusedSimpArgs false
set_option maxRecDepth 20000
set_option maxHeartbeats 4000000
theorem fcat_bytes (L M : List UInt8) (g : Nat → List D) (hg : ∀ j, j < M.length → g j = bytesF M j) : ∀ k, k < L.length + M.length → fcat (bytesF L) L.length g k = bytesF (L ++ M) k := by
  intro k hk
  unfold fcat
  split
  · rename_i h
    unfold bytesF
    rw [List.getD_eq_getElem?_getD, List.getD_eq_getElem?_getD, List.getElem?_append_left h]
  · rename_i h
    rw [hg _ (by omega)]
    unfold bytesF
    rw [List.getD_eq_getElem?_getD, List.getD_eq_getElem?_getD, List.getElem?_append_right (by omega)]
theorem by8_int (n : Int) : (((Sha.by8 n).toNat : Nat) : Int) = IntKind.u8.wrap n := by
  have h : 0 ≤ IntKind.u8.wrap n ∧ IntKind.u8.wrap n < 256 := by simp [IntKind.wrap, IntKind.signed, IntKind.bits]; omega
  unfold Sha.by8
  rw [UInt8.toNat_ofNat']
  omega
theorem rpad_spec (n : Nat) (hn : n ≤ 2 ^ 40) : PSpec Tryz.prog 44 [si n] (· = stx (Sha.pad n)) := by
  refine PSpec.run (tysOk) followsB Tryz.func44 (by decide) rfl Tryz.ntmps44 (Nat.le_of_ble_eq_true rfl) rfl fun w0 R0 hGw => ?_
  conv => whnf
  rw [show decide ((n : Int) < 0) = false from decide_eq_false (by omega)]
  conv => whnf
  refine ALoop.rens [(8, 900)] ?_
  conv => whnf
  refine ALoop.introR tysOk followsB (fun j : {j : Nat // j ≤ Sha.gapN n} => ([(0, si n), (3, .rsl 900 1 0 (1 + j.1))], [(900, .row 5 1 (1 + j.1) (bytesF (128 :: List.replicate j.1 0)))])) (fun j => Sha.gapN n - j.1) ⟨0, by omega⟩ ?_ ?_
  · exact ⟨.refl _, .refl _, ⟨rfl, rfl, rfl, fun k hk => match k, hk with | 0, _ => rfl⟩, trivial⟩
  rintro ⟨j, hj⟩
  have hgap : Sha.gapN n < 64 := Nat.mod_lt _ (by decide)
  dsimp only
  conv => whnf
  refine ⟨by first | omega | (simp only [Int.toNat_natCast]; omega) | (simp; done) | (simp; omega), ?_⟩
  conv => whnf
  refine ⟨by first | omega | (simp only [Int.toNat_natCast]; omega) | (simp; done) | (simp; omega), ?_⟩
  conv => whnf
  refine ⟨by first | omega | (simp only [Int.toNat_natCast]; omega) | (simp; done) | (simp; omega), ?_⟩
  conv => whnf
  have hm : ((n : Int) + ((1 + j : Nat) : Int) + 8).tmod 64 = (((n + (1 + j) + 8) % 64 : Nat) : Int) := by
    rw [Int.tmod_eq_emod_of_nonneg (by omega)]
    omega
  rw [hm]
  split <;> rename_i h1
  · have hne : j ≠ Sha.gapN n := by
      rintro rfl
      have h0 : (n + (1 + Sha.gapN n) + 8) % 64 = 0 := by unfold Sha.gapN; omega
      rw [h0] at h1
      cases h1
    conv => whnf
    refine ⟨⟨⟨rfl, by omega, by simp only [ty5]; omega⟩, by omega⟩, ?_⟩
    conv => whnf
    refine ⟨⟨j + 1, by omega⟩, [(18, 900)], by dsimp only; omega, .refl _, .refl _, ⟨rfl, rfl, by dsimp only; omega, fun k hk => ?_⟩, trivial⟩
    have := fcat_bytes (128 :: List.replicate j 0) [0] (fun k => ([D.i .u8 0] :: replF 0 ty5.zero).getD k []) (fun q hq => by
      obtain rfl : q = 0 := by simpa using hq
      rfl) k (by simp; omega)
    rw [show (128 :: List.replicate j (0 : UInt8)) ++ [0] = 128 :: List.replicate (j + 1) 0 from by rw [List.replicate_succ']; rfl, show (128 :: List.replicate j (0 : UInt8)).length = 1 + j from by simp; omega] at this
    exact this
  · have hje : j = Sha.gapN n := by
      have h0 : (n + (1 + j) + 8) % 64 = 0 := by
        have := h1
        simp at this
        omega
      unfold Sha.gapN at hj ⊢
      omega
    subst hje
    conv => whnf
    refine ALoop.introR tysOk followsB (fun m : {m : Nat // m ≤ 8} => ([(3, .rsl 900 1 0 (1 + Sha.gapN n + m.1)), (4, .d (.i .u64 ((n * 8 : Nat) : Int))), (5, si (7 - m.1))], [(900, .row 5 1 (1 + Sha.gapN n + m.1) (bytesF (128 :: (List.replicate (Sha.gapN n) 0 ++ (Sha.be8 n).take m.1))))])) (fun m => 8 - m.1) ⟨0, by omega⟩ ?_ ?_
    · refine ⟨.refl _, .of_eq ?_, .refl _, ⟨rfl, rfl, rfl, fun k hk => ?_⟩, trivial⟩
      · have : IntKind.u64.wrap (IntKind.u64.wrap (n : Int) * 8) = ((n * 8 : Nat) : Int) := by
          simp [IntKind.wrap, IntKind.signed, IntKind.bits]; omega
        rw [this]
      · simp
    rintro ⟨m, hm8⟩
    dsimp only
    conv => whnf
    split <;> rename_i h2
    · have hlt : m < 8 := by have := of_decide_eq_true h2; omega
      conv => whnf
      refine ⟨by first | omega | (simp only [Int.toNat_natCast]; omega) | (simp; done) | (simp; omega), ?_⟩
      conv => whnf
      refine ⟨by first | omega | (simp only [Int.toNat_natCast]; omega) | (simp; done) | (simp; omega), ?_⟩
      conv => whnf
      refine ⟨⟨⟨rfl, by omega, by simp only [ty5]; omega⟩, by omega⟩, ?_⟩
      conv => whnf
      refine ⟨by first | omega | (simp only [Int.toNat_natCast]; omega) | (simp; done) | (simp; omega), ?_⟩
      conv => whnf
      refine ⟨⟨m + 1, by omega⟩, [(33, 900)], by dsimp only; omega, .refl _, .refl _, .of_eq (by dsimp only; congr 2; omega), ⟨rfl, rfl, by dsimp only; omega, fun k hk => ?_⟩, trivial⟩
      have hlen : (Sha.be8 n).length = 8 := by simp [Sha.be8]
      have hll : (128 :: (List.replicate (Sha.gapN n) (0 : UInt8) ++ (Sha.be8 n).take m)).length = 1 + Sha.gapN n + m := by simp [hlen]; omega
      have hx : IntKind.u8.wrap (shrOp .u64 ((n * 8 : Nat) : Int) (8 * (7 - (m : Int)))) = (((UInt8.ofNat (n * 8 / 2 ^ (8 * (7 - m)) % 256)).toNat : Nat) : Int) := by
        rw [UInt8.toNat_ofNat']
        unfold shrOp
        rw [show min (8 * (7 - (m : Int))).toNat IntKind.u64.bits = 8 * (7 - m) from by simp [IntKind.bits]; omega]
        rw [Int.fdiv_eq_ediv_of_nonneg _ (by exact_mod_cast Nat.zero_le _)]
        rw [show ((n * 8 : Nat) : Int) / (2 : Int) ^ (8 * (7 - m)) = ((n * 8 / 2 ^ (8 * (7 - m)) : Nat) : Int) from by simp]
        generalize n * 8 / 2 ^ (8 * (7 - m)) = q
        simp [IntKind.wrap, IntKind.signed, IntKind.bits]
      have := fcat_bytes (128 :: (List.replicate (Sha.gapN n) 0 ++ (Sha.be8 n).take m)) [UInt8.ofNat (n * 8 / 2 ^ (8 * (7 - m)) % 256)] (fun k => ([D.i .u8 (IntKind.u8.wrap (shrOp .u64 ((n * 8 : Nat) : Int) (8 * (7 - (m : Int)))))] :: replF 0 ty5.zero).getD k []) (fun q hq => by
        obtain rfl : q = 0 := by simpa using hq
        rw [hx]
        rfl) k (by rw [hll]; simp; omega)
      have hnext : (Sha.be8 n).take (m + 1) = (Sha.be8 n).take m ++ [UInt8.ofNat (n * 8 / 2 ^ (8 * (7 - m)) % 256)] := by
        rw [List.take_add_one]
        congr 1
        simp [Sha.be8, hlt]
      rw [hll] at this
      show _ = bytesF (128 :: (List.replicate (Sha.gapN n) 0 ++ (Sha.be8 n).take (m + 1))) k
      rw [hnext, ← List.append_assoc]
      exact this
    · obtain rfl : m = 8 := by have := of_decide_eq_false h2; omega
      conv => whnf
      have hlen : (Sha.be8 n).length = 8 := by simp [Sha.be8]
      refine ⟨Sha.pad n, ⟨by simp [Sha.pad, hlen]; omega, by omega, fun k hk => ?_⟩, ?_⟩
      · rw [Nat.zero_add, List.take_of_length_le (by omega)]
        rfl
      conv => whnf
      exact ⟨_, .refl _, rfl, rfl⟩
theorem out_take (r : Sha.Rg) : ∀ i, i < 8 → r.out.take (4 * (i + 1)) = r.out.take (4 * i) ++ Sha.be4 (r.l.getD i 0)
  | 0, _ => rfl
  | 1, _ => rfl
  | 2, _ => rfl
  | 3, _ => rfl
  | 4, _ => rfl
  | 5, _ => rfl
  | 6, _ => rfl
  | 7, _ => rfl
theorem be4_row (x : Int) : ∀ k, k < (Sha.be4 x).length → (fun k => ([D.i .u8 (IntKind.u8.wrap (shrOp .u32 x 24))] :: [D.i .u8 (IntKind.u8.wrap (shrOp .u32 x 16))] :: [D.i .u8 (IntKind.u8.wrap (shrOp .u32 x 8))] :: [D.i .u8 (IntKind.u8.wrap x)] :: replF 0 ty5.zero).getD k []) k = bytesF (Sha.be4 x) k
  | 0, _ => by rw [← by8_int]; rfl
  | 1, _ => by rw [← by8_int, ← by8_int, ← by8_int]; rfl
  | 2, _ => by rw [← by8_int, ← by8_int, ← by8_int]; rfl
  | 3, _ => by rw [← by8_int, ← by8_int, ← by8_int, ← by8_int]; rfl
theorem rsum_spec (s : List UInt8) (hs : s.length ≤ 2 ^ 40) : PSpec Tryz.prog 27 [stx s] (· = stx (Sha.sum s)) := by
  refine PSpec.run (tysOk) followsB Tryz.func27 (by decide) rfl Tryz.ntmps27 (Nat.le_of_ble_eq_true rfl) rfl fun w0 R0 hGw => ?_
  conv => whnf
  refine ⟨_, (rpad_spec s.length hs), ?_⟩
  rintro q rfl
  conv => whnf
  have hall := Sha.pad_len s.length
  have hpl : (Sha.pad s.length).length ≤ 80 := by simp [Sha.pad, Sha.be8]; have : Sha.gapN s.length < 64 := Nat.mod_lt _ (by decide); omega
  refine ⟨by omega, ?_⟩
  conv => whnf
  refine ALoop.frz 3 ?_
  conv => whnf
  refine ⟨by first | omega | (simp only [Int.toNat_natCast]; omega) | (simp; done) | (simp; omega), ?_⟩
  conv => whnf
  generalize hA : s ++ Sha.pad s.length = A
  have hal : A.length = s.length + (Sha.pad s.length).length := by rw [← hA]; simp
  refine ALoop.introR tysOk followsB (fun q : {q : Nat // 64 * q ≤ A.length} => ([(3, rgD (Sha.blocks q.1 Sha.first A)), (4, stx A), (5, si (64 * q.1))], [])) (fun q => A.length / 64 - q.1) ⟨0, by omega⟩ ?_ ?_
  · refine ⟨.sl rfl fun k hk => ?_, .refl _, .refl _, trivial⟩
    match k, hk with
    | 0, _ => rfl
    | 1, _ => rfl
    | 2, _ => rfl
    | 3, _ => rfl
    | 4, _ => rfl
    | 5, _ => rfl
    | 6, _ => rfl
    | 7, _ => rfl
  rintro ⟨q, hq⟩
  dsimp only
  conv => whnf
  refine ⟨by first | omega | (simp only [Int.toNat_natCast]; omega) | (simp; done) | (simp; omega), ?_⟩
  conv => whnf
  split <;> rename_i h1
  · have hlt : 64 * q + 64 ≤ A.length := by have := of_decide_eq_true h1; omega
    conv => whnf
    refine ⟨by first | omega | (simp only [Int.toNat_natCast]; omega) | (simp; done) | (simp; omega), ?_⟩
    conv => whnf
    refine ⟨by first | omega | (simp only [Int.toNat_natCast]; omega) | (simp; done) | (simp; omega), ?_⟩
    conv => whnf
    have hcut : cutS A (some (64 * (q : Int))) (some (64 * (q : Int) + 64)) = (A.drop (64 * q)).take 64 := by
      show ((A.take (64 * (q : Int) + 64).toNat).drop (64 * (q : Int)).toNat) = _
      rw [show (64 * (q : Int) + 64).toNat = 64 * q + 64 from by omega, show (64 * (q : Int)).toNat = 64 * q from by omega, List.drop_take]
      congr 1
      omega
    rw [hcut]
    refine ⟨_, (rblock_spec _ _ (by simp; omega)), ?_⟩
    rintro q rfl
    conv => whnf
    refine ⟨by first | omega | (simp only [Int.toNat_natCast]; omega) | (simp; done) | (simp; omega), ?_⟩
    conv => whnf
    refine ⟨⟨q + 1, by omega⟩, [], by dsimp only; omega, ?_, .refl _, .of_eq (by dsimp only; congr 2), trivial⟩
    rw [Sha.blocks_succ]
    exact .refl _
  · have hge : A.length < 64 * q + 64 := by have := of_decide_eq_false h1; omega
    have hqe : q = A.length / 64 := by omega
    conv => whnf
    refine ALoop.adopt 6 900 1 5 (bytesF []) rfl rfl rfl ?_
    refine ALoop.introR tysOk followsB (fun i : {i : Nat // i ≤ 8} => ([(3, rgD (Sha.blocks q Sha.first A)), (6, .rsl 900 1 0 (4 * i.1)), (7, si i.1)], [(900, .row 5 1 (4 * i.1) (bytesF ((Sha.blocks q Sha.first A).out.take (4 * i.1))))])) (fun i => 8 - i.1) ⟨0, by omega⟩ ?_ ?_
    · exact ⟨.refl _, .refl _, .refl _, ⟨rfl, rfl, rfl, fun k hk => by simp at hk⟩, trivial⟩
    rintro ⟨i, hi⟩
    dsimp only
    conv => whnf
    split <;> rename_i h2
    · have hlt : i < 8 := by have := of_decide_eq_true h2; omega
      conv => whnf
      refine ⟨by first | omega | (simp only [Int.toNat_natCast]; omega) | (simp; done) | (simp; omega), ?_⟩
      conv => whnf
      refine ⟨by first | omega | (simp only [Int.toNat_natCast]; omega) | (simp; done) | (simp; omega), ?_⟩
      conv => whnf
      refine ⟨by first | omega | (simp only [Int.toNat_natCast]; omega) | (simp; done) | (simp; omega), ?_⟩
      conv => whnf
      refine ⟨by first | omega | (simp only [Int.toNat_natCast]; omega) | (simp; done) | (simp; omega), ?_⟩
      conv => whnf
      refine ⟨by first | omega | (simp only [Int.toNat_natCast]; omega) | (simp; done) | (simp; omega), ?_⟩
      conv => whnf
      refine ⟨by first | omega | (simp only [Int.toNat_natCast]; omega) | (simp; done) | (simp; omega), ?_⟩
      conv => whnf
      refine ⟨by first | omega | (simp only [Int.toNat_natCast]; omega) | (simp; done) | (simp; omega), ?_⟩
      conv => whnf
      refine ⟨⟨⟨rfl, by omega, by simp only [ty5]; omega⟩, by omega⟩, ?_⟩
      conv => whnf
      refine ⟨by kernel_rfl, ?_⟩
      conv => whnf
      refine ⟨by first | omega | (simp only [Int.toNat_natCast]; omega) | (simp; done) | (simp; omega), ?_⟩
      conv => whnf
      refine ⟨⟨i + 1, by omega⟩, [(57, 900)], by dsimp only; omega, .refl _, .refl _, .refl _, ⟨rfl, rfl, by dsimp only; omega, fun k hk => ?_⟩, trivial⟩
      generalize Sha.blocks q Sha.first A = R at *
      show _ = bytesF (R.out.take (4 * (i + 1))) k
      rw [out_take R i hlt]
      have hol : (R.out.take (4 * i)).length = 4 * i := by
        rw [List.length_take, show R.out.length = 32 from rfl]; omega
      rw [Int.toNat_natCast]
      generalize R.l.getD i 0 = x
      have := fcat_bytes (R.out.take (4 * i)) (Sha.be4 x) (fun k => ([D.i .u8 (IntKind.u8.wrap (shrOp .u32 x 24))] :: [D.i .u8 (IntKind.u8.wrap (shrOp .u32 x 16))] :: [D.i .u8 (IntKind.u8.wrap (shrOp .u32 x 8))] :: [D.i .u8 (IntKind.u8.wrap x)] :: replF 0 ty5.zero).getD k []) (be4_row x) k (by rw [hol]; exact hk)
      rw [hol] at this
      exact this
    · obtain rfl : i = 8 := by have := of_decide_eq_false h2; omega
      conv => whnf
      refine ⟨(Sha.blocks q Sha.first A).out, ⟨rfl, by omega, fun k hk => ?_⟩, ?_⟩
      · rw [Nat.zero_add, List.take_of_length_le (by show 32 ≤ _; omega)]
      conv => whnf
      exact ⟨_, .refl _, by rw [hqe, ← hA]; rfl, rfl⟩
end Go.Proofs.YtjdmnfjgmbnlbaaGreatDoor
