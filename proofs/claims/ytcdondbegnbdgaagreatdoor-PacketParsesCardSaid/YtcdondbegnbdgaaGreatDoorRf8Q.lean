/- Chapter 7, the document's answer: bytes read: contracts. -/
import Derived.Test.YtcdondbegnbdgaaGreatDoorPkR
import Derived.Test.YtcdondbegnbdgaaGreatDoorPkQ
import Derived.Test.YtcdondbegnbdgaaGreatDoorRf6P
namespace Go.Proofs.YtcdondbegnbdgaaGreatDoor
open Go Go.RowKit Towline Towline.Tlv Towline.Chunk Towline.Packet
set_option linter.unusedVariables false
set_option linter.unusedSimpArgs false
set_option maxRecDepth 20000
set_option maxHeartbeats 1000000
theorem number7_spec (s : List UInt8) (h : s.length ≤ 4) : PSpec Tryz.prog 47 [tvs s] (· = cv32 (beN s : Nat)) := by
  refine PSpec.run (tysOk) followsB Tryz.func47 (by decide) rfl Tryz.ntmps47 (Nat.le_of_ble_eq_true rfl) rfl fun w0 R0 => ?_
  conv => whnf
  refine ALoop.introR tysOk followsB (fun j : {j // j ≤ s.length} => ([(0, tvs s), (3, cv32 (beN (s.take j.1) : Nat)), (4, tvi j.1)], [])) (fun j => s.length - j.1) ⟨0, by omega⟩ ?_ ?_
  · exact ⟨.refl _, .refl _, .refl _, trivial⟩
  rintro ⟨j, hj⟩
  dsimp only
  conv => whnf
  split <;> rename_i h1
  · have hlt : j < s.length := by simpa using h1
    have hb := beN_lt (s.take j) 0
    have hjl : (s.take j).length = j := by rw [List.length_take]; omega
    rw [hjl] at hb
    have hb2 : beN (s.take j) < 16777216 := by
      have h3 : 256 ^ j ≤ 256 ^ 3 := Nat.pow_le_pow_right (by decide) (by omega)
      have h4 : (256 : Nat) ^ 3 = 16777216 := by decide
      unfold beN
      omega
    conv => whnf
    refine ⟨by first | omega | (simp only [Int.toNat_natCast]; omega) | (simp; done) | (simp; omega), ?_⟩
    conv => whnf
    refine ⟨by first | omega | (simp only [Int.toNat_natCast]; omega) | (simp; done) | (simp; omega), ?_⟩
    conv => whnf
    rw [or256u _ _ hb2]
    refine ⟨by first | omega | (simp only [Int.toNat_natCast]; omega) | (simp; done) | (simp; omega), ?_⟩
    conv => whnf
    refine ⟨⟨j + 1, by omega⟩, [], by dsimp only; omega, .refl _, .of_eq ?_, .refl _, trivial⟩
    dsimp only
    rw [beN_take _ j hlt]
    rfl
  · have hlt : ¬ j < s.length := by simpa using h1
    obtain rfl : j = s.length := by omega
    rw [List.take_length]
    conv => whnf
    exact ⟨_, .refl _, rfl, rfl⟩
theorem num_cut (v : List UInt8) (a n : Nat) (hn : n ≤ 4) : PSpec Tryz.prog 47 [tvs (cutS v (some (a : Int)) (some ((a + n : Nat) : Int)))] (· = cv32 (nB v a n)) := by
  have e : cutS v (some (a : Int)) (some ((a + n : Nat) : Int)) = (v.drop a).take n := by
    show (v.take (Int.toNat _)).drop (Int.toNat _) = _
    rw [Int.toNat_natCast, Int.toNat_natCast, List.drop_take, Nat.add_sub_cancel_left]
  rw [e]
  exact number7_spec _ (by rw [List.length_take]; omega)
theorem nB_lt (v : List UInt8) (a n : Nat) : 0 ≤ nB v a n ∧ nB v a n < ((256 ^ n : Nat) : Int) := by
  have := beN_take_lt (v.drop a) n
  unfold nB
  omega
theorem wrap_nB (v : List UInt8) (a : Nat) : IntKind.u16.wrap (nB v a 2) = nB v a 2 := by
  have := nB_lt v a 2
  unfold nB at this ⊢
  exact wrap16n _ (by omega)
abbrev nilV : AVal := .d (.v (.slice none 0 0))
abbrev nC (c : Ch) : AVal := .agg [tvi c.ty, tvi c.flags, cv32 c.tsn, cv32 c.tag, cv32 c.window, cv32 c.ppid, cv16 c.stream, cv16 c.ssn, cv16 c.outs, cv16 c.ins, nilV, nilV, nilV, tvs c.text]
theorem nC_le {c : Ch} (h1 : c.gaps = []) (h2 : c.dups = []) (h3 : c.items = []) : (nC c).le (cA c) := by
  obtain ⟨a1, a2, a3, a4, a5, a6, a7, a8, a9, a10, a11, a12, a13, a14⟩ := c
  dsimp only at h1 h2 h3
  subst h1 h2 h3
  exact .agg ⟨.refl _, .refl _, .refl _, .refl _, .refl _, .refl _, .refl _, .refl _, .refl _, .refl _, .nil, .nil, .nil, .refl _, trivial⟩
theorem ritems_spec (c : Ch) (h1 : c.gaps = []) (h2 : c.dups = []) (v : List UInt8) (hv : v.length ≤ 2 ^ 40) : PSpec Tryz.prog 77 [nC c, tvs v] (· = .tup [cA (ritemsL c v).1, tvb (ritemsL c v).2]) := by
  obtain ⟨a1, a2, a3, a4, a5, a6, a7, a8, a9, a10, a11, a12, a13, a14⟩ := c
  dsimp only at h1 h2
  subst h1 h2
  refine PSpec.run (tysOk) followsB Tryz.func77 (by decide) rfl Tryz.ntmps77 (Nat.le_of_ble_eq_true rfl) rfl fun w0 R0 => ?_
  conv => whnf
  refine ⟨_, rparse_spec v hv, ?_⟩
  rintro q rfl
  conv => whnf
  exact ⟨.tup [cA (ritemsL ⟨a1, a2, a3, a4, a5, a6, a7, a8, a9, a10, [], [], a13, a14⟩ v).1, tvb (ritemsL ⟨a1, a2, a3, a4, a5, a6, a7, a8, a9, a10, [], [], a13, a14⟩ v).2], .tup ⟨.agg ⟨.refl _, .refl _, .refl _, .refl _, .refl _, .refl _, .refl _, .refl _, .refl _, .refl _, .nil, .nil, .refl _, .refl _, trivial⟩, .refl _, trivial⟩, rfl, rfl⟩
theorem map_range {α : Type} [Inhabited α] (f : Nat → α) {n i : Nat} (h : i < n) : ((List.range n).map f).getD i default = f i := by
  rw [List.getD_eq_getElem?_getD, List.getElem?_map, List.getElem?_range h]
  rfl
def gapAt (v : List UInt8) (i : Nat) : Int × Int := (nB v (12 + 4 * i) 2, nB v (12 + 4 * i + 2) 2)
def dupAt (v : List UInt8) (g i : Nat) : Int := nB v (12 + 4 * g + 4 * i) 4
theorem rsack_spec (t f : Int) (v : List UInt8) (hv : v.length ≤ 2 ^ 40) : PSpec Tryz.prog 78 [nC (mkC t f), tvs v] (· = .tup [cA (rsackL (mkC t f) v).1, tvb (rsackL (mkC t f) v).2]) := by
  refine PSpec.run (tysOk) followsB Tryz.func78 (by decide) rfl Tryz.ntmps78 (Nat.le_of_ble_eq_true rfl) rfl fun w0 R0 => ?_
  conv => whnf
  by_cases h : v.length < 12
  · rw [show rsackL (mkC t f) v = (mkC t f, false) from by unfold rsackL; rw [if_pos h], show decide ((v.length : Int) < 12) = true from decide_eq_true (by omega)]
    conv => whnf
    refine ⟨.tup [cA (mkC t f), tvb false], .tup ⟨nC_le rfl rfl rfl, .refl _, trivial⟩, rfl, rfl⟩
  rw [show decide ((v.length : Int) < 12) = false from decide_eq_false (by omega)]
  have n1 := num_cut v 8 2 (by decide)
  have n2 := num_cut v 10 2 (by decide)
  have n3 := num_cut v 0 4 (by decide)
  have n4 := num_cut v 4 4 (by decide)
  have b1 := nB_lt v 8 2
  have b2 := nB_lt v 10 2
  obtain ⟨g, hg⟩ : ∃ g : Nat, nB v 8 2 = (g : Int) := ⟨(nB v 8 2).toNat, by omega⟩
  obtain ⟨d, hd⟩ : ∃ d : Nat, nB v 10 2 = (d : Int) := ⟨(nB v 10 2).toNat, by omega⟩
  rw [hg] at n1 b1
  rw [hd] at n2 b2
  conv => whnf
  refine ⟨by first | omega | (simp only [Int.toNat_natCast]; omega) | (simp; done) | (simp; omega), ?_⟩
  conv => whnf
  refine ⟨_, n1, ?_⟩
  rintro q rfl
  conv => whnf
  refine ⟨by first | omega | (simp only [Int.toNat_natCast]; omega) | (simp; done) | (simp; omega), ?_⟩
  conv => whnf
  refine ⟨by first | omega | (simp only [Int.toNat_natCast]; omega) | (simp; done) | (simp; omega), ?_⟩
  conv => whnf
  refine ⟨_, n2, ?_⟩
  rintro q rfl
  conv => whnf
  repeat (refine ⟨by first | decide | omega, ?_⟩; conv => whnf)
  by_cases h2 : v.length = 12 + 4 * g + 4 * d
  rotate_left
  · rw [show rsackL (mkC t f) v = (mkC t f, false) from by unfold rsackL; rw [if_neg h, hg, hd, if_pos (by simpa using h2)], show ((v.length : Int) != 12 + 4 * (g : Int) + 4 * (d : Int)) = true from bne_iff_ne.2 (by omega)]
    conv => whnf
    refine ⟨.tup [cA (mkC t f), tvb false], .tup ⟨nC_le rfl rfl rfl, .refl _, trivial⟩, rfl, rfl⟩
  rw [show ((v.length : Int) != 12 + 4 * (g : Int) + 4 * (d : Int)) = false from by rw [show (v.length : Int) = 12 + 4 * (g : Int) + 4 * (d : Int) from by omega]; exact bne_self_eq_false _]
  have hres : rsackL (mkC t f) v = (⟨t, f, nB v 0 4, 0, nB v 4 4, 0, 0, 0, 0, 0, (List.range g).map (gapAt v), (List.range d).map (dupAt v g), [], []⟩, true) := by
    unfold rsackL
    rw [if_neg h, hg, hd, if_neg (by simpa using h2)]
    rfl
  conv => whnf
  refine ⟨by first | omega | (simp only [Int.toNat_natCast]; omega) | (simp; done) | (simp; omega), ?_⟩
  conv => whnf
  refine ⟨_, n3, ?_⟩
  rintro q rfl
  conv => whnf
  refine ⟨by first | omega | (simp only [Int.toNat_natCast]; omega) | (simp; done) | (simp; omega), ?_⟩
  conv => whnf
  refine ⟨_, n4, ?_⟩
  rintro q rfl
  conv => whnf
  refine ALoop.adoptCell 2 10 1000 2 99 (fun _ => []) rfl rfl rfl rfl rfl ?_
  refine ALoop.introR tysOk followsB (fun k : {k // k ≤ g} => ([(1, tvs v), (2, .ptr 2 0), (4, .ptr 4 0), (6, tvi g), (7, tvi d), (8, tvi k.1)], [(2, .box [tvi t, tvi f, cv32 (nB v 0 4), cv32 0, cv32 (nB v 4 4), cv32 0, cv16 0, cv16 0, cv16 0, cv16 0, .rsl 1000 2 0 k.1, nilV, nilV, tvs []] none), (4, .box [tvi 0, tvi 0, cv32 0, cv32 0, cv32 0, cv32 0, cv16 0, cv16 0, cv16 0, cv16 0, nilV, nilV, nilV, tvs []] none), (1000, .row 99 2 k.1 (fun i => encG (gapAt v i)))])) (fun k => g - k.1) ⟨0, by omega⟩ ?_ ?_
  · exact ⟨.refl _, .refl _, .refl _, .refl _, .refl _, .refl _, OLe.refl _, OLe.refl _, ⟨rfl, rfl, rfl, fun _ hj => by simp at hj⟩, trivial⟩
  rintro ⟨k, hk⟩
  dsimp only
  conv => whnf
  split <;> rename_i g1
  · have hlt : k < g := by simpa using g1
    have m1 := num_cut v (12 + 4 * k) 2 (by decide)
    have m2 := num_cut v (12 + 4 * k + 2) 2 (by decide)
    rw [show ((12 + 4 * k + 2 : Nat) : Int) = 12 + 4 * (k : Int) + 2 from by omega, show ((12 + 4 * k : Nat) : Int) = 12 + 4 * (k : Int) from by omega] at m1
    rw [show ((12 + 4 * k + 2 + 2 : Nat) : Int) = 12 + 4 * (k : Int) + 4 from by omega, show ((12 + 4 * k + 2 : Nat) : Int) = 12 + 4 * (k : Int) + 2 from by omega] at m2
    conv => whnf
    repeat (refine ⟨by first | decide | omega, ?_⟩; conv => whnf)
    refine ⟨_, m1, ?_⟩
    conv => whnf
    rw [wrap_nB]
    conv => whnf
    repeat (refine ⟨by first | decide | omega, ?_⟩; conv => whnf)
    refine ⟨_, m2, ?_⟩
    conv => whnf
    rw [wrap_nB]
    conv => whnf
    refine ⟨⟨⟨rfl, by omega, by simp only [ty99]; omega⟩, by omega⟩, ?_⟩
    conv => whnf
    conv => whnf
    refine ⟨by kernel_rfl, ?_⟩
    conv => whnf
    refine ⟨by first | omega | (simp only [Int.toNat_natCast]; omega) | (simp; done) | (simp; omega), ?_⟩
    conv => whnf
    refine ⟨⟨k + 1, by omega⟩, [(69, 1000)], by dsimp only; omega, .refl _, .refl _, .refl _, .refl _, .refl _, .refl _, OLe.refl _, OLe.refl _, ⟨rfl, rfl, rfl, fun j hj => ?_⟩, trivial⟩
    simp only [fcat]
    split
    · rfl
    · have : j = k := by
        have hj : j < k + 1 := hj
        omega
      subst this
      rw [Nat.sub_self]
      rfl
  have hlt : ¬ k < g := by simpa using g1
  obtain rfl : k = g := by omega
  conv => whnf
  refine ALoop.adoptCell 2 11 1001 1 24 (fun _ => []) rfl rfl rfl rfl rfl ?_
  refine ALoop.introR tysOk followsB (fun j : {j // j ≤ d} => ([(1, tvs v), (2, .ptr 2 0), (4, .ptr 4 0), (6, tvi k), (7, tvi d), (10, tvi j.1)], [(2, .box [tvi t, tvi f, cv32 (nB v 0 4), cv32 0, cv32 (nB v 4 4), cv32 0, cv16 0, cv16 0, cv16 0, cv16 0, .rsl 1000 2 0 k, .rsl 1001 1 0 j.1, nilV, tvs []] none), (4, .box [tvi 0, tvi 0, cv32 0, cv32 0, cv32 0, cv32 0, cv16 0, cv16 0, cv16 0, cv16 0, nilV, nilV, nilV, tvs []] none), (1000, .row 99 2 k (fun i => encG (gapAt v i))), (1001, .row 24 1 j.1 (fun i => enc32 (dupAt v k i)))])) (fun j => d - j.1) ⟨0, by omega⟩ ?_ ?_
  · exact ⟨.refl _, .refl _, .refl _, .refl _, .refl _, .refl _, OLe.refl _, OLe.refl _, OLe.refl _, ⟨rfl, rfl, rfl, fun _ hj => by simp at hj⟩, trivial⟩
  rintro ⟨j, hj⟩
  dsimp only
  conv => whnf
  split <;> rename_i g2
  · have hlt : j < d := by simpa using g2
    have m1 := num_cut v (12 + 4 * k + 4 * j) 4 (by decide)
    rw [show ((12 + 4 * k + 4 * j + 4 : Nat) : Int) = 12 + 4 * (k : Int) + 4 * (j : Int) + 4 from by omega, show ((12 + 4 * k + 4 * j : Nat) : Int) = 12 + 4 * (k : Int) + 4 * (j : Int) from by omega] at m1
    conv => whnf
    repeat (refine ⟨by first | decide | omega, ?_⟩; conv => whnf)
    refine ⟨_, m1, ?_⟩
    conv => whnf
    refine ⟨⟨⟨rfl, by omega, by simp only [ty24]; omega⟩, by omega⟩, ?_⟩
    conv => whnf
    conv => whnf
    refine ⟨by kernel_rfl, ?_⟩
    conv => whnf
    refine ⟨by first | omega | (simp only [Int.toNat_natCast]; omega) | (simp; done) | (simp; omega), ?_⟩
    conv => whnf
    refine ⟨⟨j + 1, by omega⟩, [(91, 1001)], by dsimp only; omega, .refl _, .refl _, .refl _, .refl _, .refl _, .refl _, OLe.refl _, OLe.refl _, OLe.refl _, ⟨rfl, rfl, rfl, fun i hi => ?_⟩, trivial⟩
    simp only [fcat]
    split
    · rfl
    · have : i = j := by
        have hi : i < j + 1 := hi
        omega
      subst this
      rw [Nat.sub_self]
      rfl
  have hlt : ¬ j < d := by simpa using g2
  obtain rfl : j = d := by omega
  rw [hres]
  conv => whnf
  refine ⟨by first | omega | (simp only [Int.toNat_natCast]; omega) | (simp; done) | (simp; omega), ?_⟩
  conv => whnf
  refine ⟨by first | omega | (simp only [Int.toNat_natCast]; omega) | (simp; done) | (simp; omega), ?_⟩
  conv => whnf
  refine ⟨.tup [cA ⟨t, f, nB v 0 4, 0, nB v 4 4, 0, 0, 0, 0, 0, (List.range k).map (gapAt v), (List.range j).map (dupAt v k), [], []⟩, tvb true], .tup ⟨.agg ⟨.refl _, .refl _, .refl _, .refl _, .refl _, .refl _, .refl _, .refl _, .refl _, .refl _, .sl (by simp) fun i hi => ?_, .sl (by simp) fun i hi => ?_, .nil, .refl _, trivial⟩, .refl _, trivial⟩, rfl, rfl⟩
  · rw [map_range (gapAt v) hi]
  · rw [map_range (dupAt v k) hi]
theorem rread_spec (t f : Int) (v : List UInt8) (hv : v.length ≤ 2 ^ 40) : PSpec Tryz.prog 48 [nC (mkC t f), tvs v] (· = .tup [cA (rreadL (mkC t f) v).1, tvb (rreadL (mkC t f) v).2]) := by
  refine PSpec.run (tysOk) followsB Tryz.func48 (by decide) rfl Tryz.ntmps48 (Nat.le_of_ble_eq_true rfl) rfl fun w0 R0 => ?_
  conv => whnf
  by_cases g0 : t = 0
  · have e0 : rreadL (mkC t f) v = if v.length < 12 then (mkC t f, false) else (⟨t, f, nB v 0 4, 0, 0, nB v 8 4, nB v 4 2, nB v 6 2, 0, 0, [], [], [], v.drop 12⟩, true) := by
      unfold rreadL
      rw [if_pos (show (mkC t f).ty = 0 from g0)]
      rfl
    rw [e0, show ((mkC t f).ty == 0) = true from beq_iff_eq.2 g0]
    conv => whnf
    by_cases h : v.length < 12
    · rw [if_pos h, show decide ((v.length : Int) < 12) = true from decide_eq_true (by omega)]
      conv => whnf
      refine ⟨.tup [cA (mkC t f), tvb false], .tup ⟨nC_le rfl rfl rfl, .refl _, trivial⟩, rfl, rfl⟩
    rw [if_neg h, show decide ((v.length : Int) < 12) = false from decide_eq_false (by omega)]
    conv => whnf
    refine ⟨by first | omega | (simp only [Int.toNat_natCast]; omega) | (simp; done) | (simp; omega), ?_⟩
    conv => whnf
    refine ⟨_, num_cut v 0 4 (by decide), ?_⟩
    rintro q rfl
    conv => whnf
    refine ⟨by first | omega | (simp only [Int.toNat_natCast]; omega) | (simp; done) | (simp; omega), ?_⟩
    conv => whnf
    refine ⟨_, num_cut v 4 2 (by decide), ?_⟩
    rintro q rfl
    conv => whnf
    rw [wrap_nB]
    conv => whnf
    refine ⟨by first | omega | (simp only [Int.toNat_natCast]; omega) | (simp; done) | (simp; omega), ?_⟩
    conv => whnf
    refine ⟨_, num_cut v 6 2 (by decide), ?_⟩
    rintro q rfl
    conv => whnf
    rw [wrap_nB]
    conv => whnf
    refine ⟨by first | omega | (simp only [Int.toNat_natCast]; omega) | (simp; done) | (simp; omega), ?_⟩
    conv => whnf
    refine ⟨_, num_cut v 8 4 (by decide), ?_⟩
    rintro q rfl
    conv => whnf
    refine ⟨by first | omega | (simp only [Int.toNat_natCast]; omega) | (simp; done) | (simp; omega), ?_⟩
    conv => whnf
    refine ⟨.tup [cA ⟨t, f, nB v 0 4, 0, 0, nB v 8 4, nB v 4 2, nB v 6 2, 0, 0, [], [], [], v.drop 12⟩, tvb true], .tup ⟨.agg ⟨.refl _, .refl _, .refl _, .refl _, .refl _, .refl _, .refl _, .refl _, .refl _, .refl _, .nil, .nil, .nil, .refl _, trivial⟩, .refl _, trivial⟩, rfl, rfl⟩
  rw [show ((mkC t f).ty == 0) = false from beq_eq_false_iff_ne.2 g0]
  conv => whnf
  by_cases g1 : t = 1 ∨ t = 2
  · have e0 : rreadL (mkC t f) v = if v.length < 16 then (mkC t f, false) else ritemsL ⟨t, f, nB v 12 4, nB v 0 4, nB v 4 4, 0, 0, 0, nB v 8 2, nB v 10 2, [], [], [], []⟩ (v.drop 16) := by
      unfold rreadL
      rw [if_neg (show ¬ (mkC t f).ty = 0 from g0), if_pos (show (mkC t f).ty = 1 ∨ (mkC t f).ty = 2 from g1)]
      rfl
    rw [e0]
    rcases g1 with g1 | g1
    · rw [show ((mkC t f).ty == 1) = true from beq_iff_eq.2 g1]
      conv => whnf
      by_cases h : v.length < 16
      · rw [if_pos h, show decide ((v.length : Int) < 16) = true from decide_eq_true (by omega)]
        conv => whnf
        refine ⟨.tup [cA (mkC t f), tvb false], .tup ⟨nC_le rfl rfl rfl, .refl _, trivial⟩, rfl, rfl⟩
      rw [if_neg h, show decide ((v.length : Int) < 16) = false from decide_eq_false (by omega)]
      have hit := ritems_spec ⟨t, f, nB v 12 4, nB v 0 4, nB v 4 4, 0, 0, 0, nB v 8 2, nB v 10 2, [], [], [], []⟩ rfl rfl (v.drop 16) (by rw [List.length_drop]; omega)
      conv => whnf
      refine ⟨by first | omega | (simp only [Int.toNat_natCast]; omega) | (simp; done) | (simp; omega), ?_⟩
      conv => whnf
      refine ⟨_, num_cut v 0 4 (by decide), ?_⟩
      rintro q rfl
      conv => whnf
      refine ⟨by first | omega | (simp only [Int.toNat_natCast]; omega) | (simp; done) | (simp; omega), ?_⟩
      conv => whnf
      refine ⟨_, num_cut v 4 4 (by decide), ?_⟩
      rintro q rfl
      conv => whnf
      refine ⟨by first | omega | (simp only [Int.toNat_natCast]; omega) | (simp; done) | (simp; omega), ?_⟩
      conv => whnf
      refine ⟨_, num_cut v 8 2 (by decide), ?_⟩
      rintro q rfl
      conv => whnf
      rw [wrap_nB]
      conv => whnf
      refine ⟨by first | omega | (simp only [Int.toNat_natCast]; omega) | (simp; done) | (simp; omega), ?_⟩
      conv => whnf
      refine ⟨_, num_cut v 10 2 (by decide), ?_⟩
      rintro q rfl
      conv => whnf
      rw [wrap_nB]
      conv => whnf
      refine ⟨by first | omega | (simp only [Int.toNat_natCast]; omega) | (simp; done) | (simp; omega), ?_⟩
      conv => whnf
      refine ⟨_, num_cut v 12 4 (by decide), ?_⟩
      rintro q rfl
      conv => whnf
      refine ⟨by first | omega | (simp only [Int.toNat_natCast]; omega) | (simp; done) | (simp; omega), ?_⟩
      conv => whnf
      refine ⟨_, hit, ?_⟩
      conv => whnf
      refine ⟨by kernel_rfl, ?_⟩
      conv => whnf
      exact ⟨_, .refl _, rfl, rfl⟩
    · rw [show ((mkC t f).ty == 1) = false from beq_eq_false_iff_ne.2 (show ¬ t = 1 from by omega)]
      conv => whnf
      rw [show ((mkC t f).ty == 2) = true from beq_iff_eq.2 g1]
      conv => whnf
      by_cases h : v.length < 16
      · rw [if_pos h, show decide ((v.length : Int) < 16) = true from decide_eq_true (by omega)]
        conv => whnf
        refine ⟨.tup [cA (mkC t f), tvb false], .tup ⟨nC_le rfl rfl rfl, .refl _, trivial⟩, rfl, rfl⟩
      rw [if_neg h, show decide ((v.length : Int) < 16) = false from decide_eq_false (by omega)]
      have hit := ritems_spec ⟨t, f, nB v 12 4, nB v 0 4, nB v 4 4, 0, 0, 0, nB v 8 2, nB v 10 2, [], [], [], []⟩ rfl rfl (v.drop 16) (by rw [List.length_drop]; omega)
      conv => whnf
      refine ⟨by first | omega | (simp only [Int.toNat_natCast]; omega) | (simp; done) | (simp; omega), ?_⟩
      conv => whnf
      refine ⟨_, num_cut v 0 4 (by decide), ?_⟩
      rintro q rfl
      conv => whnf
      refine ⟨by first | omega | (simp only [Int.toNat_natCast]; omega) | (simp; done) | (simp; omega), ?_⟩
      conv => whnf
      refine ⟨_, num_cut v 4 4 (by decide), ?_⟩
      rintro q rfl
      conv => whnf
      refine ⟨by first | omega | (simp only [Int.toNat_natCast]; omega) | (simp; done) | (simp; omega), ?_⟩
      conv => whnf
      refine ⟨_, num_cut v 8 2 (by decide), ?_⟩
      rintro q rfl
      conv => whnf
      rw [wrap_nB]
      conv => whnf
      refine ⟨by first | omega | (simp only [Int.toNat_natCast]; omega) | (simp; done) | (simp; omega), ?_⟩
      conv => whnf
      refine ⟨_, num_cut v 10 2 (by decide), ?_⟩
      rintro q rfl
      conv => whnf
      rw [wrap_nB]
      conv => whnf
      refine ⟨by first | omega | (simp only [Int.toNat_natCast]; omega) | (simp; done) | (simp; omega), ?_⟩
      conv => whnf
      refine ⟨_, num_cut v 12 4 (by decide), ?_⟩
      rintro q rfl
      conv => whnf
      refine ⟨by first | omega | (simp only [Int.toNat_natCast]; omega) | (simp; done) | (simp; omega), ?_⟩
      conv => whnf
      refine ⟨_, hit, ?_⟩
      conv => whnf
      refine ⟨by kernel_rfl, ?_⟩
      conv => whnf
      exact ⟨_, .refl _, rfl, rfl⟩
  rw [show ((mkC t f).ty == 1) = false from beq_eq_false_iff_ne.2 (show ¬ t = 1 from by omega)]
  conv => whnf
  rw [show ((mkC t f).ty == 2) = false from beq_eq_false_iff_ne.2 (show ¬ t = 2 from by omega)]
  conv => whnf
  by_cases g3 : t = 3
  · have e0 : rreadL (mkC t f) v = rsackL (mkC t f) v := by
      unfold rreadL
      rw [if_neg (show ¬ (mkC t f).ty = 0 from g0), if_neg (show ¬ ((mkC t f).ty = 1 ∨ (mkC t f).ty = 2) from g1), if_pos (show (mkC t f).ty = 3 from g3)]
    rw [e0, show ((mkC t f).ty == 3) = true from beq_iff_eq.2 g3]
    conv => whnf
    refine ⟨_, rsack_spec t f v hv, ?_⟩
    rintro q rfl
    conv => whnf
    exact ⟨_, .refl _, rfl, rfl⟩
  rw [show ((mkC t f).ty == 3) = false from beq_eq_false_iff_ne.2 g3]
  conv => whnf
  by_cases g4 : t = 4 ∨ t = 5 ∨ t = 6 ∨ t = 9
  · have e0 : rreadL (mkC t f) v = ritemsL (mkC t f) v := by
      unfold rreadL
      rw [if_neg (show ¬ (mkC t f).ty = 0 from g0), if_neg (show ¬ ((mkC t f).ty = 1 ∨ (mkC t f).ty = 2) from g1), if_neg (show ¬ (mkC t f).ty = 3 from g3), if_pos (show (mkC t f).ty = 4 ∨ (mkC t f).ty = 5 ∨ (mkC t f).ty = 6 ∨ (mkC t f).ty = 9 from g4)]
    rw [e0]
    by_cases k4 : t = 4
    · rw [show ((mkC t f).ty == 4) = true from beq_iff_eq.2 k4]
      conv => whnf
      refine ⟨_, ritems_spec (mkC t f) rfl rfl v hv, ?_⟩
      rintro q rfl
      conv => whnf
      exact ⟨_, .refl _, rfl, rfl⟩
    rw [show ((mkC t f).ty == 4) = false from beq_eq_false_iff_ne.2 k4]
    conv => whnf
    by_cases k5 : t = 5
    · rw [show ((mkC t f).ty == 5) = true from beq_iff_eq.2 k5]
      conv => whnf
      refine ⟨_, ritems_spec (mkC t f) rfl rfl v hv, ?_⟩
      rintro q rfl
      conv => whnf
      exact ⟨_, .refl _, rfl, rfl⟩
    rw [show ((mkC t f).ty == 5) = false from beq_eq_false_iff_ne.2 k5]
    conv => whnf
    by_cases k6 : t = 6
    · rw [show ((mkC t f).ty == 6) = true from beq_iff_eq.2 k6]
      conv => whnf
      refine ⟨_, ritems_spec (mkC t f) rfl rfl v hv, ?_⟩
      rintro q rfl
      conv => whnf
      exact ⟨_, .refl _, rfl, rfl⟩
    rw [show ((mkC t f).ty == 6) = false from beq_eq_false_iff_ne.2 k6]
    conv => whnf
    rw [show ((mkC t f).ty == 9) = true from beq_iff_eq.2 (show t = 9 from by omega)]
    conv => whnf
    refine ⟨_, ritems_spec (mkC t f) rfl rfl v hv, ?_⟩
    rintro q rfl
    conv => whnf
    exact ⟨_, .refl _, rfl, rfl⟩
  rw [show ((mkC t f).ty == 4) = false from beq_eq_false_iff_ne.2 (show ¬ t = 4 from by omega)]
  conv => whnf
  rw [show ((mkC t f).ty == 5) = false from beq_eq_false_iff_ne.2 (show ¬ t = 5 from by omega)]
  conv => whnf
  rw [show ((mkC t f).ty == 6) = false from beq_eq_false_iff_ne.2 (show ¬ t = 6 from by omega)]
  conv => whnf
  rw [show ((mkC t f).ty == 9) = false from beq_eq_false_iff_ne.2 (show ¬ t = 9 from by omega)]
  conv => whnf
  have e0 : rreadL (mkC t f) v = if t = 7 then (if v.length ≠ 4 then (mkC t f, false) else (⟨t, f, nB v 0 4, 0, 0, 0, 0, 0, 0, 0, [], [], [], []⟩, true)) else (⟨t, f, 0, 0, 0, 0, 0, 0, 0, 0, [], [], [], v⟩, true) := by
    unfold rreadL
    rw [if_neg (show ¬ (mkC t f).ty = 0 from g0), if_neg (show ¬ ((mkC t f).ty = 1 ∨ (mkC t f).ty = 2) from g1), if_neg (show ¬ (mkC t f).ty = 3 from g3), if_neg (show ¬ ((mkC t f).ty = 4 ∨ (mkC t f).ty = 5 ∨ (mkC t f).ty = 6 ∨ (mkC t f).ty = 9) from g4)]
    rfl
  rw [e0]
  by_cases g7 : t = 7
  · rw [if_pos g7, show ((mkC t f).ty == 7) = true from beq_iff_eq.2 g7]
    conv => whnf
    by_cases h : v.length = 4
    rotate_left
    · rw [if_pos h, show ((v.length : Int) != 4) = true from bne_iff_ne.2 (by omega)]
      conv => whnf
      refine ⟨.tup [cA (mkC t f), tvb false], .tup ⟨nC_le rfl rfl rfl, .refl _, trivial⟩, rfl, rfl⟩
    rw [if_neg (by simpa using h), show ((v.length : Int) != 4) = false from by rw [h]; rfl]
    have hn := number7_spec v (by omega)
    rw [show ((beN v : Nat) : Int) = nB v 0 4 from by unfold nB; rw [List.drop_zero, List.take_of_length_le (by omega)]] at hn
    conv => whnf
    refine ⟨_, hn, ?_⟩
    rintro q rfl
    conv => whnf
    refine ⟨.tup [cA ⟨t, f, nB v 0 4, 0, 0, 0, 0, 0, 0, 0, [], [], [], []⟩, tvb true], .tup ⟨.agg ⟨.refl _, .refl _, .refl _, .refl _, .refl _, .refl _, .refl _, .refl _, .refl _, .refl _, .nil, .nil, .nil, .refl _, trivial⟩, .refl _, trivial⟩, rfl, rfl⟩
  rw [if_neg g7, show ((mkC t f).ty == 7) = false from beq_eq_false_iff_ne.2 g7]
  conv => whnf
  refine ⟨.tup [cA ⟨t, f, 0, 0, 0, 0, 0, 0, 0, 0, [], [], [], v⟩, tvb true], .tup ⟨.agg ⟨.refl _, .refl _, .refl _, .refl _, .refl _, .refl _, .refl _, .refl _, .refl _, .refl _, .nil, .nil, .nil, .refl _, trivial⟩, .refl _, trivial⟩, rfl, rfl⟩
end Go.Proofs.YtcdondbegnbdgaaGreatDoor
namespace Go.Proofs.YtcdondbegnbdgaaGreatDoor
open Go Go.RowKit Towline Towline.Tlv Towline.Chunk Towline.Packet
set_option linter.unusedVariables false
set_option linter.unusedSimpArgs false
set_option maxRecDepth 20000
set_option maxHeartbeats 1000000
theorem nB4 (v : List UInt8) (a : Nat) : in32 (nB v a 4) := by
  have := nB_lt v a 4
  unfold in32; omega
theorem nB2 (v : List UInt8) (a : Nat) : in16 (nB v a 2) := by
  have := nB_lt v a 2
  unfold in16; omega
theorem in32z : in32 0 := by decide
theorem in16z : in16 0 := by decide
def Ranged (c : Ch) : Prop := ChR c ∧ c.gaps.length ≤ 65535 ∧ c.dups.length ≤ 65535 ∧ c.items.length ≤ 4000
theorem ranged_mk (t f : Int) : Ranged (mkC t f) := ⟨⟨in32z, in32z, in32z, in32z, in16z, in16z, in16z, in16z, fun g h => (by cases h), fun g h => (by cases h)⟩, by simp [mkC], by simp [mkC], by simp [mkC]⟩
theorem ranged_items {c : Ch} (h : Ranged c) (v : List UInt8) : Ranged (ritemsL c v).1 := by
  obtain ⟨⟨h1, h2, h3, h4, h5, h6, h7, h8, h9, h10⟩, k1, k2, k3⟩ := h
  exact ⟨⟨h1, h2, h3, h4, h5, h6, h7, h8, h9, h10⟩, k1, k2, itemsR_len (v, false)⟩
theorem ranged_sack (t f : Int) (v : List UInt8) : Ranged (rsackL (mkC t f) v).1 := by
  unfold rsackL
  split
  · exact ranged_mk t f
  split
  · exact ranged_mk t f
  have b1 := nB_lt v 8 2
  have b2 := nB_lt v 10 2
  refine ⟨⟨nB4 v 0, in32z, nB4 v 4, in32z, in16z, in16z, in16z, in16z, fun g h => ?_, fun g h => ?_⟩, ?_, ?_, by simp [mkC]⟩
  · obtain ⟨i, _, rfl⟩ := List.mem_map.1 h
    exact ⟨nB2 v _, nB2 v _⟩
  · obtain ⟨i, _, rfl⟩ := List.mem_map.1 h
    exact nB4 v _
  · dsimp only
    rw [List.length_map, List.length_range]
    omega
  · dsimp only
    rw [List.length_map, List.length_range]
    omega
theorem ranged_read (t f : Int) (v : List UInt8) : Ranged (rreadL (mkC t f) v).1 := by
  unfold rreadL
  split
  · split
    · exact ranged_mk t f
    · exact ⟨⟨nB4 v 0, in32z, in32z, nB4 v 8, nB2 v 4, nB2 v 6, in16z, in16z, fun g h => (by cases h), fun g h => (by cases h)⟩, by simp [mkC], by simp [mkC], by simp [mkC]⟩
  split
  · split
    · exact ranged_mk t f
    · exact ranged_items ⟨⟨nB4 v 12, nB4 v 0, nB4 v 4, in32z, in16z, in16z, nB2 v 8, nB2 v 10, fun g h => (by cases h), fun g h => (by cases h)⟩, by simp [mkC], by simp [mkC], by simp [mkC]⟩ _
  split
  · exact ranged_sack t f v
  split
  · exact ranged_items (ranged_mk t f) v
  split
  · split
    · exact ranged_mk t f
    · exact ⟨⟨nB4 v 0, in32z, in32z, in32z, in16z, in16z, in16z, in16z, fun g h => (by cases h), fun g h => (by cases h)⟩, by simp [mkC], by simp [mkC], by simp [mkC]⟩
  · exact ⟨⟨in32z, in32z, in32z, in32z, in16z, in16z, in16z, in16z, fun g h => (by cases h), fun g h => (by cases h)⟩, by simp [mkC], by simp [mkC], by simp [mkC]⟩
theorem b2_nB {s : List UInt8} (h : 4 ≤ s.length) : nB s 2 2 = (b2 s 2 : Nat) := by
  match s, h with
  | a :: b :: c :: d :: r, _ =>
    show (((((0 * 256 + c.toNat) * 256 + d.toNat : Nat))) : Int) = ((c.toNat * 256 + d.toNat : Nat) : Int)
    omega
theorem rparse7_spec (s : List UInt8) (hs : s.length ≤ 2 ^ 40) : PSpec Tryz.prog 23 [tvs s] (· = .tup [cA (parseC s).1, tvi (parseC s).2.1, tvi (parseC s).2.2]) := by
  refine PSpec.run (tysOk) followsB Tryz.func23 (by decide) rfl Tryz.ntmps23 (Nat.le_of_ble_eq_true rfl) rfl fun w0 R0 => ?_
  conv => whnf
  by_cases h1 : s.length < 4
  · rw [show parseC s = (nilC, 0, 3) from by unfold parseC; rw [if_pos h1], show decide ((s.length : Int) < 4) = true from decide_eq_true (by omega)]
    conv => whnf
    refine ⟨.tup [cA nilC, tvi 0, tvi _], .tup ⟨nC_le (c := nilC) rfl rfl rfl, .refl _, .refl _, trivial⟩, rfl, rfl⟩
  rw [show decide ((s.length : Int) < 4) = false from decide_eq_false (by omega)]
  obtain ⟨n, hn⟩ : ∃ n, n = b2 s 2 := ⟨_, rfl⟩
  have hnb := b2_nB (show 4 ≤ s.length from by omega)
  rw [← hn] at hnb
  have n1 := num_cut s 2 2 (by decide)
  rw [hnb] at n1
  have hlt : n < 65536 := by
    have := nB_lt s 2 2
    rw [hnb] at this
    omega
  conv => whnf
  refine ⟨by first | omega | (simp only [Int.toNat_natCast]; omega) | (simp; done) | (simp; omega), ?_⟩
  conv => whnf
  refine ⟨_, n1, ?_⟩
  rintro q rfl
  conv => whnf
  refine ⟨by first | omega | (simp only [Int.toNat_natCast]; omega) | (simp; done) | (simp; omega), ?_⟩
  conv => whnf
  by_cases h2 : n < 4
  · rw [show parseC s = (nilC, 0, 2) from by unfold parseC; rw [if_neg h1, ← hn, if_pos h2], show decide ((n : Int) < 4) = true from decide_eq_true (by omega)]
    conv => whnf
    refine ⟨.tup [cA nilC, tvi 0, tvi _], .tup ⟨nC_le (c := nilC) rfl rfl rfl, .refl _, .refl _, trivial⟩, rfl, rfl⟩
  rw [show decide ((n : Int) < 4) = false from decide_eq_false (by omega)]
  conv => whnf
  by_cases h3 : s.length < n
  · rw [show parseC s = (nilC, 0, 3) from by unfold parseC; rw [if_neg h1, ← hn, if_neg h2, if_pos h3], show decide ((s.length : Int) < (n : Int)) = true from decide_eq_true (by omega)]
    conv => whnf
    refine ⟨.tup [cA nilC, tvi 0, tvi _], .tup ⟨nC_le (c := nilC) rfl rfl rfl, .refl _, .refl _, trivial⟩, rfl, rfl⟩
  rw [show decide ((s.length : Int) < (n : Int)) = false from decide_eq_false (by omega)]
  conv => whnf
  by_cases h4 : 1400 < n
  · rw [show parseC s = (nilC, 0, 4) from by unfold parseC; rw [if_neg h1, ← hn, if_neg h2, if_neg h3, if_pos h4], show decide ((1400 : Int) < (n : Int)) = true from decide_eq_true (by omega)]
    conv => whnf
    refine ⟨.tup [cA nilC, tvi 0, tvi _], .tup ⟨nC_le (c := nilC) rfl rfl rfl, .refl _, .refl _, trivial⟩, rfl, rfl⟩
  rw [show decide ((1400 : Int) < (n : Int)) = false from decide_eq_false (by omega)]
  have hpc : parseC s = if okP s = true then ((rdC s).1, endN s, 0) else (nilC, 0, 2) := by
    unfold parseC
    rw [if_neg h1, ← hn, if_neg h2, if_neg h3, if_neg h4]
  obtain ⟨t, ht⟩ : ∃ t : Int, t = ((s.getD 0 0).toNat : Nat) := ⟨_, rfl⟩
  obtain ⟨f, hf⟩ : ∃ f : Int, f = ((s.getD 1 0).toNat : Nat) := ⟨_, rfl⟩
  obtain ⟨v, hv⟩ : ∃ v, v = (s.take n).drop 4 := ⟨_, rfl⟩
  have hrd : rdC s = readR (mkC t f) (v, false) := by unfold rdC; rw [← hn, ← ht, ← hf, ← hv]
  have hag := agree_read (mkC t f) v
  rw [← hrd] at hag
  have hvl : v.length ≤ 2 ^ 40 := by rw [hv, List.length_drop, List.length_take]; omega
  have hrs := rread_spec t f v hvl
  have hra := ranged_read t f v
  have hok : ChOk (rreadL (mkC t f) v).1 := hra.1.ok (by have := hra.2.1; omega) (by have := hra.2.2.1; omega) (by have := hra.2.2.2; omega)
  have hR := rright_spec _ hok hra.1
  have q0 := UInt8.toNat_lt (s.getD (Int.toNat 0) 0)
  have q1 := UInt8.toNat_lt (s.getD (Int.toNat 1) 0)
  conv => whnf
  repeat (refine ⟨by first | decide | omega, ?_⟩; conv => whnf)
  rw [show (((s.getD (Int.toNat 0) 0).toNat : Nat) : Int) = t from ht.symm, show (((s.getD (Int.toNat 1) 0).toNat : Nat) : Int) = f from hf.symm, show cutS s (some 4) (some (n : Int)) = v from by rw [hv]; rfl]
  refine ⟨_, hrs, ?_⟩
  conv => whnf
  refine ⟨by kernel_rfl, ?_⟩
  conv => whnf
  refine ⟨_, hR, ?_⟩
  rintro q rfl
  conv => whnf
  refine ⟨_, rpadN_spec n (by omega), ?_⟩
  rintro q rfl
  conv => whnf
  have hpl := padN_lt n
  obtain ⟨m, hm⟩ : ∃ m, m = min (padN n) (s.length - n) := ⟨_, rfl⟩
  repeat (refine ⟨by first | decide | omega, ?_⟩; conv => whnf)
  rw [show min ((padN n : Nat) : Int) ((s.length : Int) - (n : Int)) = (m : Int) from by omega]
  have hcp := cut_pad s 0 (by omega) (by rw [List.drop_zero, ← hn]; omega) m (by rw [List.drop_zero, ← hn, Nat.sub_zero]; exact hm)
  rw [List.drop_zero, ← hn, Nat.zero_add] at hcp
  obtain ⟨c1, c2⟩ := hcp
  have hokP : okP s = (!(rdC s).2.2 && (decide ((rdC s).2.1 = []) && (((buildC (rdC s).1).2 == 0) && !(((s.take (endN s)).drop n).any (· != 0))))) := by unfold okP; rw [← hn]
  cases ho : (rreadL (mkC t f) v).2
  · have hno : okP s = false := by
      cases h : okP s with
      | false => rfl
      | true =>
        rw [hokP] at h
        simp only [Bool.and_eq_true, Bool.not_eq_true', decide_eq_true_eq] at h
        have := hag.1.2 ⟨h.1, h.2.1⟩
        rw [ho] at this; cases this
    rw [hpc, if_neg (by rw [hno]; simp)]
    conv => whnf
    refine ⟨by kernel_rfl, ?_⟩
    conv => whnf
    refine ⟨.tup [cA nilC, tvi 0, tvi _], .tup ⟨nC_le (c := nilC) rfl rfl rfl, .refl _, .refl _, trivial⟩, rfl, rfl⟩
  have hc := hag.2 ho
  obtain ⟨hb1, hb2⟩ := hag.1.1 ho
  rw [hb1, hb2] at hokP
  conv => whnf
  by_cases hb : (buildC (rreadL (mkC t f) v).1).2 = 0
  rotate_left
  · have hno : okP s = false := by
      rw [hokP, ← hc, show ((buildC (rreadL (mkC t f) v).1).2 == 0) = false from beq_eq_false_iff_ne.2 hb]
      rfl
    rw [hpc, if_neg (by rw [hno]; simp), show ((buildC (rreadL (mkC t f) v).1).2 == 0) = false from beq_eq_false_iff_ne.2 hb]
    conv => whnf
    refine ⟨by kernel_rfl, ?_⟩
    conv => whnf
    refine ⟨.tup [cA nilC, tvi 0, tvi _], .tup ⟨nC_le (c := nilC) rfl rfl rfl, .refl _, .refl _, trivial⟩, rfl, rfl⟩
  rw [← hc, hb, c2] at hokP
  rw [show ((buildC (rreadL (mkC t f) v).1).2 == 0) = true from beq_iff_eq.2 hb]
  have hz : cutS s (some (n : Int)) (some ((n : Int) + (m : Int))) = (s.take (n + m)).drop n := by
    show (s.take (Int.toNat _)).drop (Int.toNat _) = _
    rw [show Int.toNat ((n : Int) + (m : Int)) = n + m from by omega, Int.toNat_natCast]
  conv => whnf
  repeat (refine ⟨by first | decide | omega, ?_⟩; conv => whnf)
  refine ⟨⟨by omega, by show (m : Int) ≤ 3; omega⟩, ?_⟩
  conv => whnf
  rw [hz, cut_noughts m (by omega), c1, c2]
  cases ha : ((s.take (n + m)).drop n).any (· != 0)
  · have hyes : okP s = true := by rw [hokP, ha]; rfl
    rw [hpc, if_pos hyes, c2, ← hc]
    conv => whnf
    refine ⟨by kernel_rfl, ?_⟩
    conv => whnf
    refine ⟨by first | omega | (simp only [Int.toNat_natCast]; omega) | (simp; done) | (simp; omega), ?_⟩
    conv => whnf
    exact ⟨_, .refl _, rfl, rfl⟩
  · have hno : okP s = false := by rw [hokP, ha]; rfl
    rw [hpc, if_neg (by rw [hno]; simp)]
    conv => whnf
    refine ⟨by kernel_rfl, ?_⟩
    conv => whnf
    refine ⟨.tup [cA nilC, tvi 0, tvi _], .tup ⟨nC_le (c := nilC) rfl rfl rfl, .refl _, .refl _, trivial⟩, rfl, rfl⟩
end Go.Proofs.YtcdondbegnbdgaaGreatDoor
