/- Chapter 5: datagrams are parsed: contracts. -/
import Derived.Test.YtmknfobhmnolmaaDoorIpG
namespace Go.Proofs.YtmknfobhmnolmaaDoor
open Go Go.RowKit Towline Towline.Ip
set_option linter.unusedVariables false
set_option linter.unusedSimpArgs false
set_option maxRecDepth 20000
set_option maxHeartbeats 4000000
def tupP (r : Hd × List UInt8 × Int) : AVal := .tup [hA r.1, tvs r.2.1, tvi r.2.2]
theorem rest5_spec (h : Hd) (d : List UInt8) (n : Nat) (s : Int) (hd : d.length ≤ 2 ^ 30) (hn : n ≤ d.length) : PSpec Tryd.prog 27 [hA h, tvs d, tvi n, tvi s] (· = tupP (restH h d n s)) := by
  refine PSpec.run (tysOk) followsB Tryd.func27 (by decide) rfl Tryd.ntmps27 (Nat.le_of_ble_eq_true rfl) rfl fun w0 R0 hG => ?_
  conv => whnf
  refine ⟨by first | omega | (simp only [Int.toNat_natCast]; omega) | (simp; done) | (simp; omega), ?_⟩
  conv => whnf
  by_cases h1 : (d.length : Int) - n < s
  · rw [show decide ((d.length : Int) - (n : Int) < s) = true from decide_eq_true h1]
    conv => whnf
    rw [show restH h d n s = (nilHd, [], 3) from by unfold restH; rw [if_pos h1]]
    exact ⟨_, .refl _, rfl, rfl⟩
  rw [show decide ((d.length : Int) - (n : Int) < s) = false from decide_eq_false h1]
  conv => whnf
  by_cases h2 : s < (d.length : Int) - n
  · rw [show decide (s < (d.length : Int) - (n : Int)) = true from decide_eq_true h2]
    conv => whnf
    rw [show restH h d n s = (nilHd, [], 4) from by unfold restH; rw [if_neg h1, if_pos (.inl h2)]]
    exact ⟨_, .refl _, rfl, rfl⟩
  rw [show decide (s < (d.length : Int) - (n : Int)) = false from decide_eq_false h2]
  conv => whnf
  by_cases h3 : 1500 < s
  · rw [show decide (1500 < s) = true from decide_eq_true h3]
    conv => whnf
    rw [show restH h d n s = (nilHd, [], 4) from by unfold restH; rw [if_neg h1, if_pos (.inr h3)]]
    exact ⟨_, .refl _, rfl, rfl⟩
  rw [show decide (1500 < s) = false from decide_eq_false h3]
  conv => whnf
  rw [show restH h d n s = (h, d.drop n, 0) from by unfold restH; rw [if_neg h1, if_neg (fun e => e.elim h2 h3)]]
  refine ⟨by first | omega | (simp only [Int.toNat_natCast]; omega) | (simp; done) | (simp; omega), ?_⟩
  conv => whnf
  refine ⟨by kernel_rfl, ?_⟩
  conv => whnf
  exact ⟨_, .refl _, rfl, rfl⟩
theorem be1 (d : List UInt8) (o : Nat) (h : o + 1 ≤ d.length) : beN ((d.drop o).take 1) = at8 d o := by
  rw [List.drop_eq_getElem_cons (by omega)]
  show 0 * 256 + (d[o]'(by omega)).toNat = at8 d o
  unfold at8
  rw [List.getD_eq_getElem?_getD, List.getElem?_eq_getElem (show o < d.length by omega)]
  show 0 * 256 + _ = (d[o]'(by omega)).toNat
  omega
theorem be2 (d : List UInt8) (o : Nat) (h : o + 2 ≤ d.length) : beN ((d.drop o).take 2) = at16 d o := by
  rw [List.drop_eq_getElem_cons (by omega), List.drop_eq_getElem_cons (by omega)]
  show (0 * 256 + (d[o]'(by omega)).toNat) * 256 + (d[o + 1]'(by omega)).toNat = at16 d o
  unfold at16 at8
  rw [List.getD_eq_getElem?_getD, List.getElem?_eq_getElem (show o < d.length by omega), List.getD_eq_getElem?_getD, List.getElem?_eq_getElem (show o + 1 < d.length by omega)]
  show _ = (d[o]'(by omega)).toNat * 256 + (d[o + 1]'(by omega)).toNat
  omega
abbrev rdH (d : List UInt8) (o : Nat) : Heap := [(E0, .box [tvs d]), (E1, .box [tvi o])]
theorem take1_spec (d : List UInt8) (o : Nat) (hd : d.length ≤ 2 ^ 40) (ho : o + 1 ≤ d.length) : LSpec Tryd.prog 28 [tvi 1, .ptr E0 0, .ptr E1 0] (rdH d o) (fun r hl => r = tvi (at8 d o) ∧ hl = rdH d (o + 1)) := by
  have := take_spec d o 1 (by decide) hd ho
  rw [be1 d o ho] at this
  exact this
theorem take2_spec (d : List UInt8) (o : Nat) (hd : d.length ≤ 2 ^ 40) (ho : o + 2 ≤ d.length) : LSpec Tryd.prog 28 [tvi 2, .ptr E0 0, .ptr E1 0] (rdH d o) (fun r hl => r = tvi (at16 d o) ∧ hl = rdH d (o + 2)) := by
  have := take_spec d o 2 (by decide) hd ho
  rw [be2 d o ho] at this
  exact this
theorem parse45_spec (d : List UInt8) (hd : d.length ≤ 2 ^ 30) : PSpec Tryd.prog 21 [tvs d] (· = tupP (parse4 d)) := by
  refine PSpec.run ((tysLOk lentR)) followsB Tryd.func21 (by decide) rfl Tryd.ntmps21 (Nat.le_of_ble_eq_true rfl) rfl fun w0 R0 hG => ?_
  conv => whnf
  by_cases h20 : d.length < 20
  · rw [show decide ((d.length : Int) < 20) = true from decide_eq_true (by omega)]
    conv => whnf
    rw [show parse4 d = (nilHd, [], 3) from by unfold parse4; rw [if_pos h20]]
    exact ⟨_, .refl _, rfl, rfl⟩
  rw [show decide ((d.length : Int) < 20) = false from decide_eq_false (by omega)]
  have hz10 : (cutS d none (some 10)).length = 10 := by
    show (d.take 10).length = 10
    rw [List.length_take]; omega
  have hz8 : (cutS d (some 12) (some 20)).length = 8 := by
    show ((d.take 20).drop 12).length = 8
    rw [List.length_drop, List.length_take]; omega
  have hz : cutS d none (some 10) ++ [0, 0] ++ cutS d (some 12) (some 20) = zeroed d := by
    show d.take 10 ++ [0, 0] ++ (d.take 20).drop 12 = d.take 10 ++ [0, 0] ++ (d.drop 12).take 8
    rw [List.drop_take]
  have hzl : (zeroed d).length = 20 := zeroed_len (by omega)
  have h2 : ({ data := #[0, 0] } : ByteArray).data.toList.length = 2 := rfl
  conv => whnf
  refine ⟨by first | omega | (simp only [Int.toNat_natCast]; omega) | (simp; done) | (simp; omega), ?_⟩
  conv => whnf
  refine ⟨by first | omega | (simp only [Int.toNat_natCast]; omega) | (simp; done) | (simp; omega), ?_⟩
  conv => whnf
  refine ⟨by first | omega | (simp only [Int.toNat_natCast]; omega) | (simp; done) | (simp; omega), ?_⟩
  conv => whnf
  refine ⟨by first | omega | (simp only [Int.toNat_natCast]; omega) | (simp; done) | (simp; omega), ?_⟩
  conv => whnf
  have hcs : PSpec Tryd.prog 8 [tvs (cutS d none (some 10) ++ [0, 0] ++ cutS d (some 12) (some 20))] (· = .d (.i .u16 (c16 (zeroed d)))) := by
    rw [hz]
    exact check16_spec _ (by omega)
  have hc := c16_le (zeroed d)
  refine ⟨_, hcs, ?_⟩
  conv => whnf
  refine ⟨by kernel_rfl, ?_⟩
  conv => whnf
  refine ⟨by first | omega | (simp only [Int.toNat_natCast]; omega) | (simp; done) | (simp; omega), ?_⟩
  conv => whnf
  rw [shr8u]
  refine ⟨by first | omega | (simp only [Int.toNat_natCast]; omega) | (simp; done) | (simp; omega), ?_⟩
  conv => whnf
  rw [wrap8, b8_toNat]
  by_cases g10 : at8 d 10 = c16 (zeroed d) / 256
  rotate_left
  · rw [show (((d.getD (Int.toNat 10) 0).toNat : Int) != ((c16 (zeroed d) / 256 % 256 : Nat) : Int)) = true from bne_iff_ne.2 (by show ((at8 d 10 : Nat) : Int) ≠ _; omega)]
    conv => whnf
    rw [show parse4 d = (nilHd, [], 5) from by unfold parse4; rw [if_neg h20, if_pos (.inl g10)]]
    exact ⟨_, .refl _, rfl, rfl⟩
  rw [show (((d.getD (Int.toNat 10) 0).toNat : Int) != ((c16 (zeroed d) / 256 % 256 : Nat) : Int)) = false from by rw [bne_eq_false_iff_eq]; show ((at8 d 10 : Nat) : Int) = _; omega]
  conv => whnf
  refine ⟨by first | omega | (simp only [Int.toNat_natCast]; omega) | (simp; done) | (simp; omega), ?_⟩
  conv => whnf
  rw [wrap8, b8_toNat]
  by_cases g11 : at8 d 11 = c16 (zeroed d) % 256
  rotate_left
  · rw [show (((d.getD (Int.toNat 11) 0).toNat : Int) != ((c16 (zeroed d) % 256 : Nat) : Int)) = true from bne_iff_ne.2 (by show ((at8 d 11 : Nat) : Int) ≠ _; omega)]
    conv => whnf
    rw [show parse4 d = (nilHd, [], 5) from by unfold parse4; rw [if_neg h20, if_pos (.inr g11)]]
    exact ⟨_, .refl _, rfl, rfl⟩
  rw [show (((d.getD (Int.toNat 11) 0).toNat : Int) != ((c16 (zeroed d) % 256 : Nat) : Int)) = false from by rw [bne_eq_false_iff_eq]; show ((at8 d 11 : Nat) : Int) = _; omega]
  conv => whnf
  refine ⟨_, (reader_spec d), ?_⟩
  rintro q hq ⟨rfl, rfl⟩
  conv => whnf
  refine ⟨_, (take2_spec d 0 (by omega) (by omega)), ?_⟩
  rintro q hq ⟨rfl, rfl⟩
  conv => whnf
  refine ⟨_, (take2_spec d 2 (by omega) (by omega)), ?_⟩
  rintro q hq ⟨rfl, rfl⟩
  conv => whnf
  refine ⟨_, (take2_spec d 4 (by omega) (by omega)), ?_⟩
  rintro q hq ⟨rfl, rfl⟩
  conv => whnf
  refine ⟨_, (take2_spec d 6 (by omega) (by omega)), ?_⟩
  rintro q hq ⟨rfl, rfl⟩
  conv => whnf
  refine ⟨_, (take1_spec d 8 (by omega) (by omega)), ?_⟩
  rintro q hq ⟨rfl, rfl⟩
  conv => whnf
  refine ⟨_, (take1_spec d 9 (by omega) (by omega)), ?_⟩
  rintro q hq ⟨rfl, rfl⟩
  conv => whnf
  have hsum : ¬ (at8 d 10 ≠ c16 (zeroed d) / 256 ∨ at8 d 11 ≠ c16 (zeroed d) % 256) := by omega
  by_cases g0 : at16 d 0 = 17664
  rotate_left
  · rw [show (((at16 d 0 : Nat) : Int) != 17664) = true from bne_iff_ne.2 (by omega)]
    conv => whnf
    rw [show parse4 d = (nilHd, [], 2) from by unfold parse4; rw [if_neg h20, if_neg hsum, if_pos (.inl g0)]]
    exact ⟨_, .refl _, rfl, rfl⟩
  rw [show (((at16 d 0 : Nat) : Int) != 17664) = false from by rw [bne_eq_false_iff_eq]; omega]
  conv => whnf
  by_cases g6 : at16 d 6 = 16384
  rotate_left
  · rw [show (((at16 d 6 : Nat) : Int) != 16384) = true from bne_iff_ne.2 (by omega)]
    conv => whnf
    rw [show parse4 d = (nilHd, [], 2) from by unfold parse4; rw [if_neg h20, if_neg hsum, if_pos (.inr (.inl g6))]]
    exact ⟨_, .refl _, rfl, rfl⟩
  rw [show (((at16 d 6 : Nat) : Int) != 16384) = false from by rw [bne_eq_false_iff_eq]; omega]
  conv => whnf
  by_cases g9 : at8 d 9 = 132
  rotate_left
  · rw [show (((at8 d 9 : Nat) : Int) != 132) = true from bne_iff_ne.2 (by omega)]
    conv => whnf
    rw [show parse4 d = (nilHd, [], 2) from by unfold parse4; rw [if_neg h20, if_neg hsum, if_pos (.inr (.inr (.inl g9)))]]
    exact ⟨_, .refl _, rfl, rfl⟩
  rw [show (((at8 d 9 : Nat) : Int) != 132) = false from by rw [bne_eq_false_iff_eq]; omega]
  conv => whnf
  by_cases g2 : at16 d 2 < 20
  · rw [show decide (((at16 d 2 : Nat) : Int) < 20) = true from decide_eq_true (by omega)]
    conv => whnf
    rw [show parse4 d = (nilHd, [], 2) from by unfold parse4; rw [if_neg h20, if_neg hsum, if_pos (.inr (.inr (.inr g2)))]]
    exact ⟨_, .refl _, rfl, rfl⟩
  rw [show decide (((at16 d 2 : Nat) : Int) < 20) = false from decide_eq_false (by omega)]
  have h4a : cutS d (some 12) (some 16) = (d.drop 12).take 4 := by
    show (d.take 16).drop 12 = _
    rw [List.drop_take]
  have h4b : cutS d (some 16) (some 20) = (d.drop 16).take 4 := by
    show (d.take 20).drop 16 = _
    rw [List.drop_take]
  have hp4 : parse4 d = restH ⟨4, at8 d 8, at16 d 4, (d.drop 12).take 4, (d.drop 16).take 4⟩ d 20 ((at16 d 2 : Int) - 20) := by
    unfold parse4
    rw [if_neg h20, if_neg hsum, if_neg (by omega)]
  have b2d : at16 d 2 < 65536 := by
    unfold at16 at8
    have := UInt8.toNat_lt (d.getD 2 0)
    have := UInt8.toNat_lt (d.getD (2 + 1) 0)
    omega
  have hrs := rest5_spec ⟨4, at8 d 8, at16 d 4, (d.drop 12).take 4, (d.drop 16).take 4⟩ d 20 ((at16 d 2 : Int) - 20) hd (by omega)
  rw [← hp4, ← h4a, ← h4b] at hrs
  conv => whnf
  refine ⟨by first | omega | (simp only [Int.toNat_natCast]; omega) | (simp; done) | (simp; omega), ?_⟩
  conv => whnf
  refine ⟨by first | omega | (simp only [Int.toNat_natCast]; omega) | (simp; done) | (simp; omega), ?_⟩
  conv => whnf
  refine ⟨by first | omega | (simp only [Int.toNat_natCast]; omega) | (simp; done) | (simp; omega), ?_⟩
  conv => whnf
  refine ⟨_, hrs, ?_⟩
  conv => whnf
  refine ⟨by kernel_rfl, ?_⟩
  conv => whnf
  exact ⟨_, .refl _, rfl, rfl⟩
theorem be4 (d : List UInt8) (o : Nat) (h : o + 4 ≤ d.length) : beN ((d.drop o).take 4) = at16 d o * 65536 + at16 d (o + 2) := by
  rw [List.drop_eq_getElem_cons (by omega), List.drop_eq_getElem_cons (by omega), List.drop_eq_getElem_cons (by omega), List.drop_eq_getElem_cons (by omega)]
  show (((0 * 256 + (d[o]'(by omega)).toNat) * 256 + (d[o + 1]'(by omega)).toNat) * 256 + (d[o + 1 + 1]'(by omega)).toNat) * 256 + (d[o + 1 + 1 + 1]'(by omega)).toNat = at16 d o * 65536 + at16 d (o + 2)
  unfold at16 at8
  rw [List.getD_eq_getElem?_getD, List.getElem?_eq_getElem (show o < d.length by omega), List.getD_eq_getElem?_getD, List.getElem?_eq_getElem (show o + 1 < d.length by omega), List.getD_eq_getElem?_getD, List.getElem?_eq_getElem (show o + 2 < d.length by omega), List.getD_eq_getElem?_getD, List.getElem?_eq_getElem (show o + 2 + 1 < d.length by omega)]
  show _ = ((d[o]'(by omega)).toNat * 256 + (d[o + 1]'(by omega)).toNat) * 65536 + ((d[o + 1 + 1]'(by omega)).toNat * 256 + (d[o + 1 + 1 + 1]'(by omega)).toNat)
  omega
theorem take4_spec (d : List UInt8) (o : Nat) (hd : d.length ≤ 2 ^ 40) (ho : o + 4 ≤ d.length) : LSpec Tryd.prog 28 [tvi 4, .ptr E0 0, .ptr E1 0] (rdH d o) (fun r hl => r = tvi (at16 d o * 65536 + at16 d (o + 2) : Nat) ∧ hl = rdH d (o + 4)) := by
  have := take_spec d o 4 (by decide) hd ho
  rw [be4 d o ho] at this
  exact this
theorem parse65_spec (d : List UInt8) (hd : d.length ≤ 2 ^ 30) : PSpec Tryd.prog 22 [tvs d] (· = tupP (parse6 d)) := by
  refine PSpec.run ((tysLOk lentR)) followsB Tryd.func22 (by decide) rfl Tryd.ntmps22 (Nat.le_of_ble_eq_true rfl) rfl fun w0 R0 hG => ?_
  conv => whnf
  by_cases h40 : d.length < 40
  · rw [show decide ((d.length : Int) < 40) = true from decide_eq_true (by omega)]
    conv => whnf
    rw [show parse6 d = (nilHd, [], 3) from by unfold parse6; rw [if_pos h40]]
    exact ⟨_, .refl _, rfl, rfl⟩
  rw [show decide ((d.length : Int) < 40) = false from decide_eq_false (by omega)]
  conv => whnf
  refine ⟨_, (reader_spec d), ?_⟩
  rintro q hq ⟨rfl, rfl⟩
  conv => whnf
  refine ⟨_, (take4_spec d 0 (by omega) (by omega)), ?_⟩
  rintro q hq ⟨rfl, rfl⟩
  conv => whnf
  refine ⟨_, (take2_spec d 4 (by omega) (by omega)), ?_⟩
  rintro q hq ⟨rfl, rfl⟩
  conv => whnf
  refine ⟨_, (take1_spec d 6 (by omega) (by omega)), ?_⟩
  rintro q hq ⟨rfl, rfl⟩
  conv => whnf
  refine ⟨_, (take1_spec d 7 (by omega) (by omega)), ?_⟩
  rintro q hq ⟨rfl, rfl⟩
  conv => whnf
  have e02 : at16 d (0 + 2) = at16 d 2 := rfl
  by_cases g0 : at16 d 0 * 65536 + at16 d 2 = 1610612736
  rotate_left
  · rw [show (((at16 d 0 * 65536 + at16 d (0 + 2) : Nat) : Int) != 1610612736) = true from bne_iff_ne.2 (by omega)]
    conv => whnf
    rw [show parse6 d = (nilHd, [], 2) from by unfold parse6; rw [if_neg h40, if_pos (.inl g0)]]
    exact ⟨_, .refl _, rfl, rfl⟩
  rw [show (((at16 d 0 * 65536 + at16 d (0 + 2) : Nat) : Int) != 1610612736) = false from by rw [bne_eq_false_iff_eq]; omega]
  conv => whnf
  by_cases g6 : at8 d 6 = 132
  rotate_left
  · rw [show (((at8 d 6 : Nat) : Int) != 132) = true from bne_iff_ne.2 (by omega)]
    conv => whnf
    rw [show parse6 d = (nilHd, [], 2) from by unfold parse6; rw [if_neg h40, if_pos (.inr g6)]]
    exact ⟨_, .refl _, rfl, rfl⟩
  rw [show (((at8 d 6 : Nat) : Int) != 132) = false from by rw [bne_eq_false_iff_eq]; omega]
  have h4a : cutS d (some 8) (some 24) = (d.drop 8).take 16 := by
    show (d.take 24).drop 8 = _
    rw [List.drop_take]
  have h4b : cutS d (some 24) (some 40) = (d.drop 24).take 16 := by
    show (d.take 40).drop 24 = _
    rw [List.drop_take]
  have hp6 : parse6 d = restH ⟨6, at8 d 7, 0, (d.drop 8).take 16, (d.drop 24).take 16⟩ d 40 (at16 d 4) := by
    unfold parse6
    rw [if_neg h40, if_neg (by omega)]
  have hrs := rest5_spec ⟨6, at8 d 7, 0, (d.drop 8).take 16, (d.drop 24).take 16⟩ d 40 (at16 d 4) hd (by omega)
  rw [← hp6, ← h4a, ← h4b] at hrs
  conv => whnf
  refine ⟨by first | omega | (simp only [Int.toNat_natCast]; omega) | (simp; done) | (simp; omega), ?_⟩
  conv => whnf
  refine ⟨by first | omega | (simp only [Int.toNat_natCast]; omega) | (simp; done) | (simp; omega), ?_⟩
  conv => whnf
  refine ⟨_, hrs, ?_⟩
  conv => whnf
  refine ⟨by kernel_rfl, ?_⟩
  conv => whnf
  exact ⟨_, .refl _, rfl, rfl⟩
end Go.Proofs.YtmknfobhmnolmaaDoor
