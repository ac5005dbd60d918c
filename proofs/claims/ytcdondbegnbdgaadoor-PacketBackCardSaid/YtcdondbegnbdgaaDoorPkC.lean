/- Chapter 8: sizes, shaped, Right, the numbers of a head: contracts. -/
import Derived.Test.YtcdondbegnbdgaaDoorPkS
namespace Go.Proofs.YtcdondbegnbdgaaDoor
open Go Go.RowKit Towline Towline.Tlv Towline.Chunk Towline.Packet
set_option linter.unusedVariables false
set_option linter.unusedSimpArgs false
set_option maxRecDepth 20000
set_option maxHeartbeats 1000000
def encN (n : Nat) : List D := [.i .i64 n]
theorem mem_getD {l : List Ch} {p : Ch → Prop} (h : ∀ c ∈ l, p c) {k : Nat} (hk : k < l.length) : p (l.getD k default) := by
  rw [List.getD_eq_getElem?_getD, List.getElem?_eq_getElem hk]
  exact h _ (List.getElem_mem hk)
theorem map_getD (l : List Ch) (j : Nat) (hj : j < l.length) : (l.map sizeC).getD j default = sizeC (l.getD j default) := by
  rw [List.getD_eq_getElem?_getD, List.getD_eq_getElem?_getD, List.getElem?_map, List.getElem?_eq_getElem hj]
  rfl
abbrev Ssz (l : List Ch) (k : Nat) : Env × Heap := ([(8, .d (slT 14 encCh l)), (9, tvi l.length), (10, tvi k), (4, .rsl 1000 1 0 k)], [(1000, .row 3 1 k (fun j => encN (sizeC (l.getD j default))))])
theorem sizes_yes (l : List Ch) (hk : ∀ c ∈ l, ChOk c) (hl : l.length ≤ 2 ^ 30) (h : sizesOk l = true) : PSpec Tryd.prog 33 [.d (slT 14 encCh l)] (· = .tup [.d (slT 1 encN (l.map sizeC)), tvb true]) := by
  refine PSpec.run (tysOk) followsB Tryd.func33 (by decide) rfl Tryd.ntmps33 (Nat.le_of_ble_eq_true rfl) rfl fun w0 R0 => ?_
  conv => whnf
  refine ALoop.adopt 4 1000 1 3 (fun _ => []) rfl rfl rfl ?_
  refine ALoop.introR tysOk followsB (fun k : {k // k ≤ l.length} => Ssz l k.1) (fun k => l.length - k.1) ⟨0, by omega⟩ ?_ ?_
  · exact ⟨.refl _, .refl _, .refl _, .refl _, ⟨rfl, rfl, rfl, fun _ hj => by simp at hj⟩, trivial⟩
  rintro ⟨k, hk'⟩
  dsimp only
  conv => whnf
  split <;> rename_i h1
  · have hlt : k < l.length := by simpa using h1
    have hok := mem_getD hk hlt
    have hz := (sizesOk_iff l).1 h k hlt
    have hs := size_right (l.getD k default)
    rw [hz] at hs
    have hne : ((buildC (l.getD (Int.toNat k) default)).1.length : Int) ≠ 0 := by
      have : sizeC (l.getD k default) ≠ 0 := by simpa using hs
      unfold sizeC at this
      show ((buildC (l.getD k default)).1.length : Int) ≠ 0
      omega
    conv => whnf
    refine ⟨by first | omega | (simp only [Int.toNat_natCast]; omega) | (simp; done) | (simp; omega), ?_⟩
    conv => whnf
    refine ⟨_, size_spec (l.getD (Int.toNat k) default) hok, ?_⟩
    rintro q rfl
    conv => whnf
    rw [show (((buildC (l.getD (Int.toNat k) default)).1.length : Int) == 0) = false from beq_eq_false_iff_ne.2 hne]
    conv => whnf
    refine ⟨⟨⟨rfl, by omega, by simp only [ty3]; omega⟩, by omega⟩, ?_⟩
    conv => whnf
    conv => whnf
    refine ⟨by first | omega | (simp only [Int.toNat_natCast]; omega) | (simp; done) | (simp; omega), ?_⟩
    conv => whnf
    refine ⟨⟨k + 1, by omega⟩, [(21, 1000)], by dsimp only; omega, .refl _, .refl _, .refl _, .refl _, ⟨rfl, rfl, rfl, ?_⟩, trivial⟩
    intro j hj
    simp only [fcat]
    split
    · rfl
    · have : j = k := by
        have hj : j < k + 1 := hj
        omega
      subst this; rw [Nat.sub_self]; rfl
  · have hlt : ¬ k < l.length := by simpa using h1
    obtain rfl : k = l.length := by omega
    conv => whnf
    try (refine ⟨by omega, ?_⟩; conv => whnf)
    refine ⟨.tup [.d (slT 1 encN (l.map sizeC)), tvb true], .tup ⟨.sl (by simp) fun j hj => ?_, .refl _, trivial⟩, rfl, rfl⟩
    rw [map_getD l j hj]
theorem sizes_no (l : List Ch) (hk : ∀ c ∈ l, ChOk c) (hl : l.length ≤ 2 ^ 30) (h : sizesOk l = false) : PSpec Tryd.prog 33 [.d (slT 14 encCh l)] (· = .tup [.d (.v (.slice none 0 0)), tvb false]) := by
  refine PSpec.run (tysOk) followsB Tryd.func33 (by decide) rfl Tryd.ntmps33 (Nat.le_of_ble_eq_true rfl) rfl fun w0 R0 => ?_
  conv => whnf
  refine ALoop.adopt 4 1000 1 3 (fun _ => []) rfl rfl rfl ?_
  refine ALoop.introR tysOk followsB (fun k : {k // k ≤ l.length ∧ ∀ j, j < k → (buildC (l.getD j default)).2 = 0} => Ssz l k.1) (fun k => l.length - k.1) ⟨0, by omega, fun j hj => by omega⟩ ?_ ?_
  · exact ⟨.refl _, .refl _, .refl _, .refl _, ⟨rfl, rfl, rfl, fun _ hj => by simp at hj⟩, trivial⟩
  rintro ⟨k, hk', hj⟩
  dsimp only
  conv => whnf
  split <;> rename_i h1
  · have hlt : k < l.length := by simpa using h1
    have hok := mem_getD hk hlt
    have hs := size_right (l.getD k default)
    conv => whnf
    refine ⟨by first | omega | (simp only [Int.toNat_natCast]; omega) | (simp; done) | (simp; omega), ?_⟩
    conv => whnf
    refine ⟨_, size_spec (l.getD (Int.toNat k) default) hok, ?_⟩
    rintro q rfl
    conv => whnf
    by_cases hz : (buildC (l.getD k default)).2 = 0
    rotate_left
    · have hne : ((buildC (l.getD (Int.toNat k) default)).1.length : Int) = 0 := by
        have h0 : ((buildC (l.getD k default)).2 == 0) = false := beq_eq_false_iff_ne.2 hz
        rw [h0] at hs
        have : sizeC (l.getD k default) = 0 := by simpa using hs
        unfold sizeC at this
        show ((buildC (l.getD k default)).1.length : Int) = 0
        omega
      rw [show (((buildC (l.getD (Int.toNat k) default)).1.length : Int) == 0) = true from beq_iff_eq.2 hne]
      conv => whnf
      exact ⟨_, .refl _, rfl, rfl⟩
    rw [hz] at hs
    have hne : ((buildC (l.getD (Int.toNat k) default)).1.length : Int) ≠ 0 := by
      have : sizeC (l.getD k default) ≠ 0 := by simpa using hs
      unfold sizeC at this
      show ((buildC (l.getD k default)).1.length : Int) ≠ 0
      omega
    rw [show (((buildC (l.getD (Int.toNat k) default)).1.length : Int) == 0) = false from beq_eq_false_iff_ne.2 hne]
    conv => whnf
    refine ⟨⟨⟨rfl, by omega, by simp only [ty3]; omega⟩, by omega⟩, ?_⟩
    conv => whnf
    conv => whnf
    refine ⟨by first | omega | (simp only [Int.toNat_natCast]; omega) | (simp; done) | (simp; omega), ?_⟩
    conv => whnf
    refine ⟨⟨k + 1, by omega, fun j hj' => (Nat.lt_or_eq_of_le (Nat.le_of_lt_succ hj')).elim (hj j) (fun e => e ▸ hz)⟩, [(21, 1000)], by dsimp only; omega, .refl _, .refl _, .refl _, .refl _, ⟨rfl, rfl, rfl, ?_⟩, trivial⟩
    intro j hj
    simp only [fcat]
    split
    · rfl
    · have : j = k := by
        have hj : j < k + 1 := hj
        omega
      subst this; rw [Nat.sub_self]; rfl
  · have hlt : ¬ k < l.length := by simpa using h1
    rw [(sizesOk_iff l).2 fun i hi => hj i (by omega)] at h
    cases h
theorem number_spec (s : List UInt8) (p n : Nat) (h : p + n ≤ s.length) (hn : n ≤ 4) (hs : s.length ≤ 2 ^ 40) : PSpec Tryd.prog 28 [tvi p, tvi n, .eptr 1 1 (fun _ => [.s s]) 0 0] (· = cv32 (beN ((s.drop p).take n) : Nat)) := by
  refine PSpec.run (tysOk) followsB Tryd.func28 (by decide) rfl Tryd.ntmps28 (Nat.le_of_ble_eq_true rfl) rfl fun w0 R0 => ?_
  conv => whnf
  have htl : ((s.drop p).take n).length = n := by rw [List.length_take, List.length_drop]; omega
  have hcut : cutS s (some (p : Int)) (some ((p : Int) + n)) = (s.drop p).take n := by
    simp only [cutS]
    rw [show Int.toNat ((p : Int) + n) = p + n from by omega, Int.toNat_natCast, List.take_drop, Nat.add_comm]
  repeat (refine ⟨by omega, ?_⟩; conv => whnf)
  rw [hcut]
  refine ⟨by first | omega | (simp only [Int.toNat_natCast]; omega) | (simp; done) | (simp; omega), ?_⟩
  conv => whnf
  refine ALoop.introR tysOk followsB (fun j : {j // j ≤ n} => ([(6, cv32 (beN (((s.drop p).take n).take j.1) : Nat)), (15, .d (.sl 1 ((s.drop p).take n).length (bytesF ((s.drop p).take n)))), (16, tvi ((s.drop p).take n).length), (17, tvi j.1)], [])) (fun j => n - j.1) ⟨0, by omega⟩ ?_ ?_
  · exact ⟨.refl _, .refl _, .refl _, .refl _, trivial⟩
  rintro ⟨j, hj⟩
  dsimp only
  generalize (s.drop p).take n = r at *
  conv => whnf
  split <;> rename_i h1
  · have hlt : j < r.length := by simpa using h1
    conv => whnf
    refine ⟨by first | omega | (simp only [Int.toNat_natCast]; omega) | (simp; done) | (simp; omega), ?_⟩
    conv => whnf
    have hb := beN_lt (r.take j) 0
    have hjl : (r.take j).length = j := by rw [List.length_take]; omega
    rw [hjl] at hb
    have hb2 : beN (r.take j) < 16777216 := by
      have h3 : 256 ^ j ≤ 256 ^ 3 := Nat.pow_le_pow_right (by decide) (by omega)
      have h4 : (256 : Nat) ^ 3 = 16777216 := by decide
      unfold beN
      omega
    refine ⟨by first | omega | (simp only [Int.toNat_natCast]; omega) | (simp; done) | (simp; omega), ?_⟩
    conv => whnf
    rw [or256u _ _ hb2]
    refine ⟨by first | omega | (simp only [Int.toNat_natCast]; omega) | (simp; done) | (simp; omega), ?_⟩
    conv => whnf
    refine ⟨⟨j + 1, by omega⟩, [], by dsimp only; omega, .of_eq ?_, .refl _, .refl _, .refl _, trivial⟩
    dsimp only
    rw [beN_take _ j hlt]
    rfl
  · have hlt : ¬ j < r.length := by simpa using h1
    obtain rfl : j = n := by omega
    conv => whnf
    rw [List.take_of_length_le (show r.length ≤ j from by omega)]
    exact ⟨_, .refl _, rfl, rfl⟩
theorem all_take (l : List Ch) (k : Nat) (h : k < l.length) : allSz (l.take (k + 1)) = allSz (l.take k) + sizeC (l.getD k default) := by
  unfold allSz
  rw [List.take_add_one, List.map_append, List.sum_append, List.getElem?_eq_getElem h, List.getD_eq_getElem?_getD, List.getElem?_eq_getElem h]
  simp
theorem all_le (l : List Ch) : allSz l ≤ 1400 * l.length := by
  induction l with
  | nil => simp [allSz]
  | cons c l ih =>
    have := sizeC_le c
    unfold allSz at ih ⊢
    rw [List.map_cons, List.sum_cons, List.length_cons]
    omega
theorem shaped8_spec (p : Pk) (hk : ∀ c ∈ p.chunks, ChOk c) (hl : p.chunks.length ≤ 2 ^ 30) : PSpec Tryd.prog 21 [pA p] (· = .tup [tvi (shapedP p).1, tvb (shapedP p).2]) := by
  refine PSpec.run (tysOk) followsB Tryd.func21 (by decide) rfl Tryd.ntmps21 (Nat.le_of_ble_eq_true rfl) rfl fun w0 R0 => ?_
  conv => whnf
  cases hs : sizesOk p.chunks
  · have hno : okPk p = false := by unfold okPk; rw [hs]; rfl
    refine ⟨_, sizes_no p.chunks hk hl hs, ?_⟩
    rintro q rfl
    conv => whnf
    refine ⟨by kernel_rfl, ?_⟩
    conv => whnf
    rw [show shapedP p = (0, false) from by unfold shapedP; rw [if_neg (by rw [hno]; simp)]]
    exact ⟨_, .refl _, rfl, rfl⟩
  refine ⟨_, sizes_yes p.chunks hk hl hs, ?_⟩
  rintro q rfl
  conv => whnf
  rw [List.length_map]
  by_cases h1 : p.chunks.length = 0
  · have hno : okPk p = false := by unfold okPk; rw [h1]; simp
    rw [show ((p.chunks.length : Int) == 0) = true from beq_iff_eq.2 (by omega)]
    conv => whnf
    refine ⟨by kernel_rfl, ?_⟩
    conv => whnf
    rw [show shapedP p = (0, false) from by unfold shapedP; rw [if_neg (by rw [hno]; simp)]]
    exact ⟨_, .refl _, rfl, rfl⟩
  rw [show ((p.chunks.length : Int) == 0) = false from beq_eq_false_iff_ne.2 (by omega)]
  conv => whnf
  by_cases h2 : p.from_ = 0
  · have hno : okPk p = false := by unfold okPk; rw [h2]; simp
    rw [show (p.from_ == 0) = true from beq_iff_eq.2 h2]
    conv => whnf
    refine ⟨by kernel_rfl, ?_⟩
    conv => whnf
    rw [show shapedP p = (0, false) from by unfold shapedP; rw [if_neg (by rw [hno]; simp)]]
    exact ⟨_, .refl _, rfl, rfl⟩
  rw [show (p.from_ == 0) = false from beq_eq_false_iff_ne.2 h2]
  conv => whnf
  by_cases h3 : p.to_ = 0
  · have hno : okPk p = false := by unfold okPk; rw [h3]; simp
    rw [show (p.to_ == 0) = true from beq_iff_eq.2 h3]
    conv => whnf
    refine ⟨by kernel_rfl, ?_⟩
    conv => whnf
    rw [show shapedP p = (0, false) from by unfold shapedP; rw [if_neg (by rw [hno]; simp)]]
    exact ⟨_, .refl _, rfl, rfl⟩
  rw [show (p.to_ == 0) = false from beq_eq_false_iff_ne.2 h3]
  conv => whnf
  refine ⟨by first | omega | (simp only [Int.toNat_natCast]; omega) | (simp; done) | (simp; omega), ?_⟩
  conv => whnf
  by_cases h4 : (p.tag == 0) = ((p.chunks.getD 0 default).ty == 1)
  rotate_left
  · have hno : okPk p = false := by
      cases ho : okPk p with
      | false => rfl
      | true => exact (h4 ((okPk_iff p).1 ho).tag).elim
    rw [show ((p.tag == 0) != ((p.chunks.getD (Int.toNat 0) default).ty == 1)) = true from bne_iff_ne.2 h4]
    conv => whnf
    refine ⟨by kernel_rfl, ?_⟩
    conv => whnf
    rw [show shapedP p = (0, false) from by unfold shapedP; rw [if_neg (by rw [hno]; simp)]]
    exact ⟨_, .refl _, rfl, rfl⟩
  rw [show ((p.tag == 0) != ((p.chunks.getD (Int.toNat 0) default).ty == 1)) = false from by rw [show (p.tag == 0) = ((p.chunks.getD (Int.toNat 0) default).ty == 1) from h4]; simp]
  conv => whnf
  refine ⟨by kernel_rfl, ?_⟩
  conv => whnf
  refine ALoop.introR tysOk followsB (fun k : {k // k ≤ p.chunks.length ∧ ∀ j, j < k → fitsP (p.chunks.take j) (p.chunks.getD j default) = true} => ([(1, .ptr 1 0), (6, tvi ((12 + allSz (p.chunks.take k.1) : Nat) : Int)), (44, .d (.sl 1 p.chunks.length fun k => encN ((p.chunks.map sizeC).getD k default))), (45, tvi p.chunks.length), (46, tvi k.1)], [(1, .box (pL p) none)])) (fun k => p.chunks.length - k.1) ⟨0, by omega, fun j hj => by omega⟩ ?_ ?_
  · exact ⟨.refl _, .refl _, .refl _, .refl _, .refl _, OLe.refl _, trivial⟩
  rintro ⟨k, hk', hj⟩
  dsimp only
  conv => whnf
  split <;> rename_i g1
  · have hlt : k < p.chunks.length := by simpa using g1
    have hal := all_le (p.chunks.take k)
    have htl : (p.chunks.take k).length ≤ k := by rw [List.length_take]; omega
    have hsz := sizeC_le (p.chunks.getD k default)
    have hcut : (p.chunks.take k).length = k := by rw [List.length_take]; omega
    have hm := map_getD p.chunks k hlt
    conv => whnf
    refine ⟨by first | omega | (simp only [Int.toNat_natCast]; omega) | (simp; done) | (simp; omega), ?_⟩
    conv => whnf
    rw [show (p.chunks.map sizeC).getD (Int.toNat k) default = sizeC (p.chunks.getD k default) from hm]
    conv => whnf
    refine ⟨by first | omega | (simp only [Int.toNat_natCast]; omega) | (simp; done) | (simp; omega), ?_⟩
    conv => whnf
    refine ⟨by first | omega | (simp only [Int.toNat_natCast]; omega) | (simp; done) | (simp; omega), ?_⟩
    conv => whnf
    refine ⟨_, (fits8_spec (p.chunks.take k) (p.chunks.getD (Int.toNat k) default) (by omega)).argsC ⟨.sl (by rw [hcut]; rfl) fun j hj => ?_, .refl _, trivial⟩, ?_⟩
    · have hj : j < k := hj
      rw [getD_take _ hj]
    conv => whnf
    refine ⟨by kernel_rfl, ?_⟩
    conv => whnf
    cases hf : fitsP (p.chunks.take k) (p.chunks.getD k default)
    · have hno : okPk p = false := by
        cases ho : okPk p with
        | false => rfl
        | true =>
          unfold okPk at ho
          simp only [Bool.and_eq_true] at ho
          have := (fitsL_iff _).1 ho.2 k hlt
          rw [hf] at this; cases this
      rw [show fitsP (p.chunks.take k) (p.chunks.getD (Int.toNat k) default) = false from hf]
      conv => whnf
      rw [show shapedP p = (0, false) from by unfold shapedP; rw [if_neg (by rw [hno]; simp)]]
      exact ⟨_, .refl _, rfl, rfl⟩
    rw [show fitsP (p.chunks.take k) (p.chunks.getD (Int.toNat k) default) = true from hf]
    conv => whnf
    refine ⟨by first | omega | (simp only [Int.toNat_natCast]; omega) | (simp; done) | (simp; omega), ?_⟩
    conv => whnf
    refine ⟨by first | omega | (simp only [Int.toNat_natCast]; omega) | (simp; done) | (simp; omega), ?_⟩
    conv => whnf
    refine ⟨⟨k + 1, by omega, fun j hj' => (Nat.lt_or_eq_of_le (Nat.le_of_lt_succ hj')).elim (hj j) (fun e => e ▸ hf)⟩, [], by dsimp only; omega, .refl _, .of_eq ?_, .refl _, .refl _, .refl _, OLe.refl _, trivial⟩
    dsimp only
    rw [all_take _ k hlt]
    exact congrArg (fun n : Int => tvi n) (by omega)
  · have hlt : ¬ k < p.chunks.length := by simpa using g1
    obtain rfl : k = p.chunks.length := by omega
    have hok : okPk p = true := by
      unfold okPk
      rw [hs, show fitsL p.chunks = true from (fitsL_iff _).2 hj, h4]
      simp [h1, h2, h3]
    rw [List.take_length]
    conv => whnf
    rw [show shapedP p = (((12 + allSz p.chunks : Nat) : Int), true) from by unfold shapedP; rw [if_pos hok]]
    exact ⟨_, .refl _, rfl, rfl⟩
theorem shaped_no {p : Pk} (h : okPk p = false) : shapedP p = (0, false) := by unfold shapedP; rw [if_neg (by rw [h]; simp)]
theorem shaped_yes {p : Pk} (h : okPk p = true) : shapedP p = (((lenP p : Nat) : Int), true) := by unfold shapedP lenP; rw [if_pos h]
theorem right8_spec (p : Pk) (hk : ∀ c ∈ p.chunks, ChOk c) (hl : p.chunks.length ≤ 2 ^ 30) : PSpec Tryd.prog 10 [pA p] (· = tvb (rightP p)) := by
  refine PSpec.run (tysOk) followsB Tryd.func10 (by decide) rfl Tryd.ntmps10 (Nat.le_of_ble_eq_true rfl) rfl fun w0 R0 => ?_
  conv => whnf
  refine ⟨_, shaped8_spec p hk hl, ?_⟩
  rintro q rfl
  conv => whnf
  cases ho : okPk p
  · rw [shaped_no ho, show rightP p = false from by unfold rightP; rw [ho]; rfl]
    conv => whnf
    exact ⟨_, .refl _, rfl, rfl⟩
  · rw [shaped_yes ho, show rightP p = decide (((lenP p : Nat) : Int) ≤ 1500) from by
      unfold rightP lenP
      rw [ho, Bool.true_and]
      by_cases h : 12 + allSz p.chunks ≤ 1500
      · rw [decide_eq_true h, decide_eq_true (by omega)]
      · rw [decide_eq_false h, decide_eq_false (by omega)]]
    conv => whnf
    exact ⟨_, .refl _, rfl, rfl⟩
end Go.Proofs.YtcdondbegnbdgaaDoor
