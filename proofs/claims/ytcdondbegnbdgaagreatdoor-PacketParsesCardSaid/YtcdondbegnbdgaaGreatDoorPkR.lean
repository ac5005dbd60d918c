/- Chapter 8, the document's answer: contracts. -/
import Derived.Test.YtcdondbegnbdgaaGreatDoorPkJ
import Derived.Test.YtcdondbegnbdgaaGreatDoorRf8C
import Derived.Test.YtcdondbegnbdgaaGreatDoorCrcR
namespace Go.Proofs.YtcdondbegnbdgaaGreatDoor
open Go Go.RowKit Towline Towline.Tlv Towline.Chunk Towline.Packet Towline.Crc
set_option linter.unusedVariables false
set_option linter.unusedSimpArgs false
set_option maxRecDepth 20000
set_option maxHeartbeats 1000000
theorem fn_rseal : ∃ fn c, Tryz.prog.funcs[37]? = some fn ∧ (fn.name == "runtime.NumGoroutine") = false ∧ fn.body = some c := ⟨_, _, Tryz.func37, by decide, rfl⟩
theorem fn_rcheck : ∃ fn c, Tryz.prog.funcs[21]? = some fn ∧ (fn.name == "runtime.NumGoroutine") = false ∧ fn.body = some c := ⟨_, _, Tryz.func21, by decide, rfl⟩
theorem rseal_spec (l : List UInt8) (h : l.length ≤ 2 ^ 40) : PSpec Tryz.prog 37 [tvs l] (· = .tup [tvs (sealL l).1, tvi (sealL l).2]) := by
  refine spec_of_text fn_rseal l (.tuple #[.string ⟨(sealL l).1.toArray⟩, .int .i64 (sealL l).2]) _ rfl (rep_pair _ _) fun w => ?_
  unfold sealL
  by_cases h12 : l.length < 12
  · rw [if_pos h12]
    exact (Crc.refSeal_short ⟨l.toArray⟩ w (show l.length < 12 from h12)).mono fun e w' ⟨he, hw⟩ => ⟨he, hw ▸ Below.refl _ _⟩
  · rw [if_neg h12]
    have hm : (2 : Nat) ^ 40 ≤ maxLen := by decide
    exact (Crc.refSeal_long ⟨l.toArray⟩ w (show 12 ≤ l.length from Nat.not_lt.1 h12) (show l.length ≤ maxLen from Nat.le_trans h hm)).mono fun e w' ⟨he, hw⟩ => ⟨he, hw⟩
theorem rcheck_spec (l : List UInt8) (h : l.length ≤ 2 ^ 40) : PSpec Tryz.prog 21 [tvs l] (· = tvi (checkL l)) := by
  refine spec_of_text fn_rcheck l (.int .i64 (checkL l)) _ rfl (fun _ _ _ => .d (.i _ _)) fun w => ?_
  unfold checkL
  by_cases h12 : l.length < 12
  · rw [if_pos h12]
    exact (Crc.refCheck_short ⟨l.toArray⟩ w (show l.length < 12 from h12)).mono fun e w' ⟨he, hw⟩ => ⟨he, hw ▸ Below.refl _ _⟩
  · rw [if_neg h12]
    have hm : (2 : Nat) ^ 40 ≤ maxLen := by decide
    exact (Crc.refCheck_long ⟨l.toArray⟩ w (show 12 ≤ l.length from Nat.not_lt.1 h12) (show l.length ≤ maxLen from Nat.le_trans h hm)).mono fun e w' ⟨he, hw⟩ => ⟨he, hw⟩
theorem ralone_spec (k : Int) : PSpec Tryz.prog 16 [tvi k] (· = tvb (aloneB k)) := by
  refine PSpec.run (tysOk) followsB Tryz.func16 (by decide) rfl Tryz.ntmps16 (Nat.le_of_ble_eq_true rfl) rfl fun w0 R0 => ?_
  conv => whnf
  unfold aloneB
  by_cases h1 : k = 1
  · subst h1
    conv => whnf
    exact ⟨_, .refl _, rfl, rfl⟩
  rw [show (k == 1) = false from beq_eq_false_iff_ne.2 h1]
  conv => whnf
  by_cases h2 : k = 2
  · subst h2
    conv => whnf
    exact ⟨_, .refl _, rfl, rfl⟩
  rw [show (k == 2) = false from beq_eq_false_iff_ne.2 h2]
  conv => whnf
  exact ⟨_, .refl _, rfl, rfl⟩
theorem two8_row (n : Int) : ∀ j, j < 2 → ([D.i .u8 (IntKind.u8.wrap (shrOp .u16 n 8))] :: [D.i .u8 (IntKind.u8.wrap n)] :: replF 0 ty5.zero).getD (0 + j) [] = bytesF (be2 n) j := by
  intro j hj
  rw [Nat.zero_add]
  match j, hj with
  | 0, _ => show [D.i .u8 (IntKind.u8.wrap (n.fdiv 256))] = [D.i .u8 ((u8 (n.fdiv 256)).toNat : Nat)]; rw [u8_wrap]
  | 1, _ => show [D.i .u8 (IntKind.u8.wrap n)] = [D.i .u8 ((u8 n).toNat : Nat)]; rw [u8_wrap]
theorem two8_spec (n : Int) : PSpec Tryz.prog 35 [cv16 n] (· = tvs (be2 n)) := by
  refine PSpec.run (tysOk) followsB Tryz.func35 (by decide) rfl Tryz.ntmps35 (Nat.le_of_ble_eq_true rfl) rfl fun w0 R0 => ?_
  conv => whnf
  repeat (refine ⟨by first | decide | omega, ?_⟩; conv => whnf)
  refine ⟨be2 n, ⟨rfl, by decide, two8_row n⟩, ?_⟩
  conv => whnf
  exact ⟨_, .refl _, rfl, rfl⟩
theorem rsize8_spec (l : List Ch) (hk : ∀ c ∈ l, ChOk c ∧ ChR c) (hl : l.length ≤ 2 ^ 30) : PSpec Tryz.prog 34 [.d (slT 14 encCh l)] (· = tvi ((12 + allSz l : Nat) : Int)) := by
  refine PSpec.run (tysOk) followsB Tryz.func34 (by decide) rfl Tryz.ntmps34 (Nat.le_of_ble_eq_true rfl) rfl fun w0 R0 => ?_
  conv => whnf
  refine ALoop.introR tysOk followsB (fun k : {k // k ≤ l.length} => ([(0, .d (slT 14 encCh l)), (3, tvi ((12 + allSz (l.take k.1) : Nat) : Int)), (4, tvi k.1)], [])) (fun k => l.length - k.1) ⟨0, by omega⟩ ⟨.refl _, .refl _, .refl _, trivial⟩ ?_
  rintro ⟨k, hk'⟩
  dsimp only
  conv => whnf
  split <;> rename_i h1
  · have hlt : k < l.length := by simpa using h1
    have hok := mem_getD (p := fun c => ChOk c ∧ ChR c) hk hlt
    have hal := all_le (l.take k)
    have htl : (l.take k).length ≤ k := by rw [List.length_take]; omega
    have hsz := sizeC_le (l.getD k default)
    conv => whnf
    refine ⟨by first | omega | (simp only [Int.toNat_natCast]; omega) | (simp; done) | (simp; omega), ?_⟩
    conv => whnf
    refine ⟨_, rsize_spec (l.getD (Int.toNat k) default) hok.1 hok.2, ?_⟩
    rintro q rfl
    conv => whnf
    rw [show ((buildC (l.getD (Int.toNat k) default)).1.length : Int) = ((sizeC (l.getD k default) : Nat) : Int) from rfl]
    refine ⟨by first | omega | (simp only [Int.toNat_natCast]; omega) | (simp; done) | (simp; omega), ?_⟩
    conv => whnf
    refine ⟨by first | omega | (simp only [Int.toNat_natCast]; omega) | (simp; done) | (simp; omega), ?_⟩
    conv => whnf
    refine ⟨⟨k + 1, by omega⟩, [], by dsimp only; omega, .refl _, .of_eq ?_, .refl _, trivial⟩
    dsimp only
    rw [all_take _ k hlt]
    exact congrArg (fun n : Int => tvi n) (by omega)
  · have hlt : ¬ k < l.length := by simpa using h1
    obtain rfl : k = l.length := by omega
    rw [List.take_length]
    conv => whnf
    exact ⟨_, .refl _, rfl, rfl⟩
theorem rshaped8_spec (p : Pk) (hk : ∀ c ∈ p.chunks, ChOk c ∧ ChR c) (hl : p.chunks.length ≤ 2 ^ 30) : PSpec Tryz.prog 33 [pA p] (· = tvb (okPk p)) := by
  have hno : ∀ {q : Prop}, (PkOk p → q) → ¬ q → okPk p = false := fun h1 h2 => by
    cases ho : okPk p with
    | false => rfl
    | true => exact (h2 (h1 ((okPk_iff p).1 ho))).elim
  refine PSpec.run (tysOk) followsB Tryz.func33 (by decide) rfl Tryz.ntmps33 (Nat.le_of_ble_eq_true rfl) rfl fun w0 R0 => ?_
  conv => whnf
  by_cases h2 : p.from_ = 0
  · rw [hno (fun h => h.from_) (fun h => h h2), show (p.from_ == 0) = true from beq_iff_eq.2 h2]
    conv => whnf
    refine ⟨by kernel_rfl, ?_⟩
    conv => whnf
    exact ⟨_, .refl _, rfl, rfl⟩
  rw [show (p.from_ == 0) = false from beq_eq_false_iff_ne.2 h2]
  conv => whnf
  by_cases h3 : p.to_ = 0
  · rw [hno (fun h => h.to_) (fun h => h h3), show (p.to_ == 0) = true from beq_iff_eq.2 h3]
    conv => whnf
    refine ⟨by kernel_rfl, ?_⟩
    conv => whnf
    exact ⟨_, .refl _, rfl, rfl⟩
  rw [show (p.to_ == 0) = false from beq_eq_false_iff_ne.2 h3]
  conv => whnf
  by_cases h1 : p.chunks.length < 1
  · rw [hno (fun h => h.pos) (fun h => by omega), show decide ((p.chunks.length : Int) < 1) = true from decide_eq_true (by omega)]
    conv => whnf
    refine ⟨by kernel_rfl, ?_⟩
    conv => whnf
    exact ⟨_, .refl _, rfl, rfl⟩
  rw [show decide ((p.chunks.length : Int) < 1) = false from decide_eq_false (by omega)]
  conv => whnf
  by_cases h5 : 50 < p.chunks.length
  · rw [hno (fun h => h.many) (fun h => by omega), show decide ((50 : Int) < (p.chunks.length : Int)) = true from decide_eq_true (by omega)]
    conv => whnf
    refine ⟨by kernel_rfl, ?_⟩
    conv => whnf
    exact ⟨_, .refl _, rfl, rfl⟩
  rw [show decide ((50 : Int) < (p.chunks.length : Int)) = false from decide_eq_false (by omega)]
  conv => whnf
  refine ⟨by first | omega | (simp only [Int.toNat_natCast]; omega) | (simp; done) | (simp; omega), ?_⟩
  conv => whnf
  by_cases h4 : (p.tag == 0) = ((p.chunks.getD 0 default).ty == 1)
  rotate_left
  · rw [hno (fun h => h.tag) h4, show ((p.tag == 0) != ((p.chunks.getD (Int.toNat 0) default).ty == 1)) = true from bne_iff_ne.2 h4]
    conv => whnf
    refine ⟨by kernel_rfl, ?_⟩
    conv => whnf
    exact ⟨_, .refl _, rfl, rfl⟩
  rw [show ((p.tag == 0) != ((p.chunks.getD (Int.toNat 0) default).ty == 1)) = false from by rw [show (p.tag == 0) = ((p.chunks.getD (Int.toNat 0) default).ty == 1) from h4]; exact bne_self_eq_false _]
  conv => whnf
  refine ⟨by kernel_rfl, ?_⟩
  conv => whnf
  refine ALoop.introR tysOk followsB (fun k : {k // k ≤ p.chunks.length ∧ (∀ i, i < k → (buildC (p.chunks.getD i default)).2 = 0 ∧ (1 < p.chunks.length → aloneB (p.chunks.getD i default).ty = false)) ∧ ∀ i j, i < j → j < k → (p.chunks.getD i default).ty = 0 → (p.chunks.getD j default).ty = 0} =>
    ([(1, .ptr 1 0), (3, tvi p.chunks.length), (4, tvb ((p.chunks.take k.1).any fun c => c.ty == 0)), (5, tvi k.1)], [(1, .box (pL p) none)])) (fun k => p.chunks.length - k.1) ⟨0, by omega, fun i hi => by omega, fun i j h1 h2 => by omega⟩ ⟨.refl _, .refl _, .refl _, .refl _, OLe.refl _, trivial⟩ ?_
  rintro ⟨k, hk', j1, j2⟩
  dsimp only
  conv => whnf
  by_cases hkl : k < p.chunks.length
  rotate_left
  · obtain rfl : k = p.chunks.length := by omega
    rw [show decide ((p.chunks.length : Int) < (p.chunks.length : Int)) = false from decide_eq_false (by omega)]
    rw [(okPk_iff p).2 ⟨h2, h3, by omega, by omega, h4, fun i hi => (j1 i hi).1, fun h i hi => (j1 i hi).2 h, j2⟩]
    conv => whnf
    exact ⟨_, .refl _, rfl, rfl⟩
  rw [show decide ((k : Int) < (p.chunks.length : Int)) = true from decide_eq_true (by omega)]
  have hok := mem_getD (p := fun c => ChOk c ∧ ChR c) hk hkl
  have hda2 : (p.chunks.take (k + 1)).any (fun c => c.ty == 0) = ((p.chunks.take k).any (fun c => c.ty == 0) || ((p.chunks.getD k default).ty == 0)) := by
    rw [List.take_add_one, List.any_append, List.getElem?_eq_getElem hkl, List.getD_eq_getElem?_getD, List.getElem?_eq_getElem hkl]
    simp
  have hany : (p.chunks.take k).any (fun c => c.ty == 0) = true → ∃ i, i < k ∧ (p.chunks.getD i default).ty = 0 := by
    intro h
    obtain ⟨c, hc, h0⟩ := List.any_eq_true.1 h
    obtain ⟨j, hj, rfl⟩ := List.getElem_of_mem hc
    rw [List.length_take] at hj
    refine ⟨j, by omega, ?_⟩
    rw [List.getElem_take] at h0
    rw [List.getD_eq_getElem?_getD, List.getElem?_eq_getElem (by omega)]
    simpa using h0
  have hany2 : (p.chunks.take k).any (fun c => c.ty == 0) = false → ∀ i, i < k → (p.chunks.getD i default).ty ≠ 0 := by
    intro h i hi h0
    rw [List.any_eq_false] at h
    refine h (p.chunks.getD i default) ?_ (beq_iff_eq.2 h0)
    rw [List.getD_eq_getElem?_getD, List.getElem?_eq_getElem (by omega)]
    exact List.mem_take_iff_getElem.2 ⟨i, by omega, rfl⟩
  generalize hd : (p.chunks.take k).any (fun c => c.ty == 0) = d at *
  conv => whnf
  refine ⟨by first | omega | (simp only [Int.toNat_natCast]; omega) | (simp; done) | (simp; omega), ?_⟩
  conv => whnf
  refine ⟨_, rright_spec (p.chunks.getD (Int.toNat k) default) hok.1 hok.2, ?_⟩
  rintro q rfl
  conv => whnf
  by_cases hb : (buildC (p.chunks.getD k default)).2 = 0
  rotate_left
  · rw [hno (fun h => h.right k hkl) hb, show ((buildC (p.chunks.getD (Int.toNat k) default)).2 == 0) = false from beq_eq_false_iff_ne.2 hb]
    conv => whnf
    exact ⟨_, .refl _, rfl, rfl⟩
  rw [show ((buildC (p.chunks.getD (Int.toNat k) default)).2 == 0) = true from beq_iff_eq.2 hb]
  conv => whnf
  refine ⟨_, ralone_spec (p.chunks.getD (Int.toNat k) default).ty, ?_⟩
  rintro q rfl
  conv => whnf
  cases ha : aloneB (p.chunks.getD k default).ty
  · have hal : 1 < p.chunks.length → aloneB (p.chunks.getD k default).ty = false := fun _ => ha
    rw [show aloneB (p.chunks.getD (Int.toNat k) default).ty = false from ha]
    conv => whnf
    cases d
    · have hdz : ∀ i, i < k → (p.chunks.getD i default).ty = 0 → (p.chunks.getD k default).ty = 0 := fun i hi h0 => (hany2 rfl i hi h0).elim
      conv => whnf
      refine ⟨by first | omega | (simp only [Int.toNat_natCast]; omega) | (simp; done) | (simp; omega), ?_⟩
      conv => whnf
      refine ⟨⟨k + 1, by omega, fun i hi => ?_, fun i j q1 q2 q3 => ?_⟩, [], by dsimp only; omega, .refl _, .refl _, .of_eq ?_, .refl _, OLe.refl _, trivial⟩
      · rcases Nat.lt_or_eq_of_le (Nat.le_of_lt_succ hi) with h | rfl
        · exact j1 i h
        · exact ⟨hb, hal⟩
      · rcases Nat.lt_or_eq_of_le (Nat.le_of_lt_succ q2) with h | rfl
        · exact j2 i j q1 h q3
        · exact hdz i q1 q3
      · dsimp only
        rw [hda2]
        rfl
    · obtain ⟨i0, hi0, hz0⟩ := hany rfl
      by_cases hz : (p.chunks.getD k default).ty = 0
      rotate_left
      · rw [hno (fun h => h.data i0 k hi0 hkl hz0) hz]
        conv => whnf
        rw [show ((p.chunks.getD (Int.toNat k) default).ty != 0) = true from bne_iff_ne.2 hz]
        conv => whnf
        exact ⟨_, .refl _, rfl, rfl⟩
      have hdz : ∀ i, i < k → (p.chunks.getD i default).ty = 0 → (p.chunks.getD k default).ty = 0 := fun _ _ _ => hz
      conv => whnf
      rw [show ((p.chunks.getD (Int.toNat k) default).ty != 0) = false from by rw [show (p.chunks.getD (Int.toNat k) default).ty = 0 from hz]; rfl]
      conv => whnf
      refine ⟨by first | omega | (simp only [Int.toNat_natCast]; omega) | (simp; done) | (simp; omega), ?_⟩
      conv => whnf
      refine ⟨⟨k + 1, by omega, fun i hi => ?_, fun i j q1 q2 q3 => ?_⟩, [], by dsimp only; omega, .refl _, .refl _, .of_eq ?_, .refl _, OLe.refl _, trivial⟩
      · rcases Nat.lt_or_eq_of_le (Nat.le_of_lt_succ hi) with h | rfl
        · exact j1 i h
        · exact ⟨hb, hal⟩
      · rcases Nat.lt_or_eq_of_le (Nat.le_of_lt_succ q2) with h | rfl
        · exact j2 i j q1 h q3
        · exact hdz i q1 q3
      · dsimp only
        rw [hda2]
        rfl
  · rw [show aloneB (p.chunks.getD (Int.toNat k) default).ty = true from ha]
    conv => whnf
    by_cases h1n : 1 < p.chunks.length
    · rw [hno (fun h => h.alone h1n k hkl) (by rw [ha]; simp), show decide ((1 : Int) < (p.chunks.length : Int)) = true from decide_eq_true (by omega)]
      conv => whnf
      exact ⟨_, .refl _, rfl, rfl⟩
    have hal : 1 < p.chunks.length → aloneB (p.chunks.getD k default).ty = false := fun h => (h1n h).elim
    rw [show decide ((1 : Int) < (p.chunks.length : Int)) = false from decide_eq_false (by omega)]
    conv => whnf
    cases d
    · have hdz : ∀ i, i < k → (p.chunks.getD i default).ty = 0 → (p.chunks.getD k default).ty = 0 := fun i hi h0 => (hany2 rfl i hi h0).elim
      conv => whnf
      refine ⟨by first | omega | (simp only [Int.toNat_natCast]; omega) | (simp; done) | (simp; omega), ?_⟩
      conv => whnf
      refine ⟨⟨k + 1, by omega, fun i hi => ?_, fun i j q1 q2 q3 => ?_⟩, [], by dsimp only; omega, .refl _, .refl _, .of_eq ?_, .refl _, OLe.refl _, trivial⟩
      · rcases Nat.lt_or_eq_of_le (Nat.le_of_lt_succ hi) with h | rfl
        · exact j1 i h
        · exact ⟨hb, hal⟩
      · rcases Nat.lt_or_eq_of_le (Nat.le_of_lt_succ q2) with h | rfl
        · exact j2 i j q1 h q3
        · exact hdz i q1 q3
      · dsimp only
        rw [hda2]
        rfl
    · obtain ⟨i0, hi0, hz0⟩ := hany rfl
      by_cases hz : (p.chunks.getD k default).ty = 0
      rotate_left
      · rw [hno (fun h => h.data i0 k hi0 hkl hz0) hz]
        conv => whnf
        rw [show ((p.chunks.getD (Int.toNat k) default).ty != 0) = true from bne_iff_ne.2 hz]
        conv => whnf
        exact ⟨_, .refl _, rfl, rfl⟩
      have hdz : ∀ i, i < k → (p.chunks.getD i default).ty = 0 → (p.chunks.getD k default).ty = 0 := fun _ _ _ => hz
      conv => whnf
      rw [show ((p.chunks.getD (Int.toNat k) default).ty != 0) = false from by rw [show (p.chunks.getD (Int.toNat k) default).ty = 0 from hz]; rfl]
      conv => whnf
      refine ⟨by first | omega | (simp only [Int.toNat_natCast]; omega) | (simp; done) | (simp; omega), ?_⟩
      conv => whnf
      refine ⟨⟨k + 1, by omega, fun i hi => ?_, fun i j q1 q2 q3 => ?_⟩, [], by dsimp only; omega, .refl _, .refl _, .of_eq ?_, .refl _, OLe.refl _, trivial⟩
      · rcases Nat.lt_or_eq_of_le (Nat.le_of_lt_succ hi) with h | rfl
        · exact j1 i h
        · exact ⟨hb, hal⟩
      · rcases Nat.lt_or_eq_of_le (Nat.le_of_lt_succ q2) with h | rfl
        · exact j2 i j q1 h q3
        · exact hdz i q1 q3
      · dsimp only
        rw [hda2]
        rfl
theorem rright8_spec (p : Pk) (hk : ∀ c ∈ p.chunks, ChOk c ∧ ChR c) (hl : p.chunks.length ≤ 2 ^ 30) : PSpec Tryz.prog 14 [pA p] (· = tvb (rightP p)) := by
  refine PSpec.run (tysOk) followsB Tryz.func14 (by decide) rfl Tryz.ntmps14 (Nat.le_of_ble_eq_true rfl) rfl fun w0 R0 => ?_
  conv => whnf
  refine ⟨_, rshaped8_spec p hk hl, ?_⟩
  rintro q rfl
  conv => whnf
  cases ho : okPk p
  · rw [show rightP p = false from by unfold rightP; rw [ho]; rfl]
    conv => whnf
    exact ⟨_, .refl _, rfl, rfl⟩
  · conv => whnf
    refine ⟨_, rsize8_spec p.chunks hk hl, ?_⟩
    rintro q rfl
    conv => whnf
    rw [show rightP p = decide (((12 + allSz p.chunks : Nat) : Int) ≤ 1500) from by
      unfold rightP
      rw [ho, Bool.true_and]
      by_cases h : 12 + allSz p.chunks ≤ 1500
      · rw [decide_eq_true h, decide_eq_true (by omega)]
      · rw [decide_eq_false h, decide_eq_false (by omega)]]
    exact ⟨_, .refl _, rfl, rfl⟩
theorem u8_congr {a b : Int} (h : a % 256 = b % 256) : u8 a = u8 b := by unfold u8; rw [h]
theorem wrap16e (n : Int) : IntKind.u16.wrap n = n % 65536 := by simp [IntKind.wrap, IntKind.signed, IntKind.bits]
theorem be22 (x : Int) (h : in32 x) : be2 (IntKind.u16.wrap (shrOp .u32 x 16)) ++ be2 (IntKind.u16.wrap x) = be4 x := by
  unfold in32 at h
  have e : shrOp .u32 x 16 = x / 65536 := by
    show x.fdiv 65536 = _
    exact Int.fdiv_eq_ediv_of_nonneg _ (by decide)
  rw [e, wrap16e, wrap16e]
  unfold be2 be4
  simp only [Int.fdiv_eq_ediv_of_nonneg _ (show (0 : Int) ≤ 256 by decide), Int.fdiv_eq_ediv_of_nonneg _ (show (0 : Int) ≤ 65536 by decide), Int.fdiv_eq_ediv_of_nonneg _ (show (0 : Int) ≤ 16777216 by decide)]
  rw [u8_congr (show (x / 65536 % 65536 / 256) % 256 = (x / 16777216) % 256 from by omega), u8_congr (show (x / 65536 % 65536) % 256 = (x / 65536) % 256 from by omega), u8_congr (show (x % 65536 / 256) % 256 = (x / 256) % 256 from by omega), u8_congr (show (x % 65536) % 256 = x % 256 from by omega)]
  rfl
theorem rbuild8_spec (p : Pk) (hr : in16 p.from_ ∧ in16 p.to_ ∧ in32 p.tag) (hk : ∀ c ∈ p.chunks, ChOk c ∧ ChR c) (hl : p.chunks.length ≤ 2 ^ 30) : PSpec Tryz.prog 12 [pA p] (· = .tup [tvs (buildP p).1, tvi (buildP p).2]) := by
  refine PSpec.run (tysOk) followsB Tryz.func12 (by decide) rfl Tryz.ntmps12 (Nat.le_of_ble_eq_true rfl) rfl fun w0 R0 => ?_
  conv => whnf
  refine ⟨_, rshaped8_spec p hk hl, ?_⟩
  rintro q rfl
  conv => whnf
  cases ho : okPk p
  · rw [show buildP p = ([], 1) from by unfold buildP; rw [if_neg (by rw [ho]; simp)]]
    conv => whnf
    exact ⟨_, .refl _, rfl, rfl⟩
  conv => whnf
  refine ⟨_, rsize8_spec p.chunks hk hl, ?_⟩
  rintro q rfl
  conv => whnf
  by_cases h5 : 1500 < lenP p
  · have h5' : 1500 < 12 + allSz p.chunks := h5
    rw [show buildP p = ([], 4) from by unfold buildP; rw [if_pos ho, if_pos h5], show decide ((1500 : Int) < ((12 + allSz p.chunks : Nat) : Int)) = true from decide_eq_true (by omega)]
    conv => whnf
    exact ⟨_, .refl _, rfl, rfl⟩
  have h5' : ¬ 1500 < 12 + allSz p.chunks := h5
  rw [show buildP p = (Crc.sealed (rawP p), 0) from by unfold buildP; rw [if_pos ho, if_neg h5], show decide ((1500 : Int) < ((12 + allSz p.chunks : Nat) : Int)) = false from decide_eq_false (by omega)]
  have hok := (okPk_iff p).1 ho
  have hm := hok.mem
  have hmany := hok.many
  conv => whnf
  refine ⟨_, two8_spec p.from_, ?_⟩
  conv => whnf
  refine ⟨_, two8_spec p.to_, ?_⟩
  conv => whnf
  repeat (refine ⟨by first | decide | omega | (simp only [List.length_append, be2_len, List.length_cons, List.length_nil]; omega), ?_⟩; conv => whnf)
  refine ⟨_, two8_spec (IntKind.u16.wrap (shrOp .u32 p.tag 16)), ?_⟩
  conv => whnf
  repeat (refine ⟨by first | decide | omega | (simp only [List.length_append, be2_len, List.length_cons, List.length_nil]; omega), ?_⟩; conv => whnf)
  refine ⟨_, two8_spec (IntKind.u16.wrap p.tag), ?_⟩
  conv => whnf
  repeat (refine ⟨by first | decide | omega | (simp only [List.length_append, be2_len, List.length_cons, List.length_nil]; omega), ?_⟩; conv => whnf)
  refine ⟨by kernel_rfl, ?_⟩
  conv => whnf
  have he0 : be2 p.from_ ++ be2 p.to_ ++ be2 (IntKind.u16.wrap (shrOp .u32 p.tag 16)) ++ be2 (IntKind.u16.wrap p.tag) ++ [0, 0, 0, 0] = hB p 0 := by
    unfold hB headP
    rw [List.append_assoc (be2 p.from_ ++ be2 p.to_), be22 _ hr.2.2, List.take_zero, show chunksB [] = [] from rfl, List.append_nil]
  refine ALoop.introR tysOk followsB (fun k : {k // k ≤ p.chunks.length} => ([(1, .ptr 1 0), (5, tvs (hB p k.1)), (6, tvi k.1)], [(1, .box (pL p) none)])) (fun k => p.chunks.length - k.1) ⟨0, by omega⟩ ⟨.refl _, .of_eq (congrArg tvs he0), .refl _, OLe.refl _, trivial⟩ ?_
  rintro ⟨k, hk'⟩
  dsimp only
  have hbl := hB_len p hm k
  conv => whnf
  split <;> rename_i g1
  · have hlt : k < p.chunks.length := by simpa using g1
    have hok7 := mem_getD (p := fun c => ChOk c ∧ ChR c) hk hlt
    have hbs := rbuild7_spec (p.chunks.getD (Int.toNat k) default) hok7.1 hok7.2
    have hgood := build_good (hok.right k hlt)
    rw [show buildC (p.chunks.getD (Int.toNat k) default) = (encC (p.chunks.getD k default), 0) from hgood.2.2] at hbs
    dsimp only at hbs
    conv => whnf
    refine ⟨by first | omega | (simp only [Int.toNat_natCast]; omega) | (simp; done) | (simp; omega), ?_⟩
    conv => whnf
    refine ⟨_, hbs, ?_⟩
    rintro q rfl
    conv => whnf
    refine ⟨by first | omega | (simp only [Int.toNat_natCast]; omega) | (simp; done) | (simp; omega), ?_⟩
    conv => whnf
    refine ⟨by first | omega | (simp only [Int.toNat_natCast]; omega) | (simp; done) | (simp; omega), ?_⟩
    conv => whnf
    refine ⟨⟨k + 1, by omega⟩, [], by dsimp only; omega, .refl _, .of_eq (congrArg tvs (hB_step p k hlt)), .refl _, OLe.refl _, trivial⟩
  · have hlt : ¬ k < p.chunks.length := by simpa using g1
    obtain rfl : k = p.chunks.length := by omega
    have he : hB p p.chunks.length = rawP p := by unfold hB rawP; rw [List.take_length]
    have hlr := raw_len p hm
    rw [he]
    conv => whnf
    refine ⟨_, rseal_spec (rawP p) (by omega), ?_⟩
    rintro q rfl
    conv => whnf
    rw [show sealL (rawP p) = (Crc.sealed (rawP p), 0) from by unfold sealL; rw [if_neg (by rw [hlr]; unfold lenP; omega)]]
    conv => whnf
    exact ⟨_, .refl _, rfl, rfl⟩
end Go.Proofs.YtcdondbegnbdgaaGreatDoor
