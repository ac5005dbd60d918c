/- Chapter 8: Bundle: contract. -/
import Derived.Test.YtcdondbegnbdgaaDoorPkH
namespace Go.Proofs.YtcdondbegnbdgaaDoor
open Go Go.RowKit Towline Towline.Tlv Towline.Chunk Towline.Packet Towline.Crc
set_option linter.unusedVariables false
set_option linter.unusedSimpArgs false
set_option maxRecDepth 20000
set_option maxHeartbeats 1000000
abbrev buT : Tys := tysX false [] [(18, [])] []
abbrev buTOk : TysOk Tryd.prog buT := tysXOk _ _ _ _
theorem snoc_row (out : List Pk) (p : Pk) (g : Nat → List D) (hg : g 0 = encP p) (j : Nat) (hj : j < out.length + 1) : fcat (fun k => encP (out.getD k default)) out.length g j = encP ((out ++ [p]).getD j default) := by
  simp only [fcat]
  split
  · rename_i h
    rw [List.getD_eq_getElem?_getD, List.getD_eq_getElem?_getD, List.getElem?_append_left h]
  · have : j = out.length := by omega
    subst this
    rw [Nat.sub_self, getD_end]
    exact hg
theorem encP_take (f t g : Int) (l : List Ch) (i : Nat) (h : (l.take i).length = i) : [D.i .u16 f, .i .u16 t, .i .u32 g, .sl 14 i (fun k => encCh ((l.take i).getD k default))] = encP ⟨f, t, g, l.take i⟩ := by
  unfold encP slT
  dsimp only
  rw [h]
theorem bundle8_spec (f t g most : Int) (l : List Ch) (hk : ∀ c ∈ l, ChOk c) (hl : l.length ≤ 2 ^ 20) : PSpec Tryd.prog 8 [cv16 f, cv16 t, cv32 g, .d (slT 14 encCh l), tvi most] (· = .d (slT 4 encP (bundleL f t g l most))) := by
  refine PSpec.runS (buTOk) followsB Tryd.func8 (by decide) rfl Tryd.ntmps8 (Nat.le_of_ble_eq_true rfl) rfl fun w0 R0 => ?_
  conv => whnf
  refine ⟨_, clone8_spec l (by omega), ?_⟩
  rintro q rfl
  conv => whnf
  refine ⟨_, delete8_spec f t g (mostB most) l (by omega) hk (keptL f t g (mostB most) l) rfl, ?_⟩
  rintro q hq ⟨rfl, F, hF, rfl⟩
  conv => whnf
  refine ALoop.frz 11 ?_
  conv => whnf
  have hkl : (keptL f t g (mostB most) l).length ≤ l.length := List.length_filter_le _ _
  refine ⟨by omega, ?_⟩
  conv => whnf
  have hM := most_le most
  have hbu : bundleL f t g l most = packs f t g (mostB most) (keptL f t g (mostB most) l) := rfl
  have hkk : ∀ c ∈ keptL f t g (mostB most) l, delB f t g (mostB most) c = false ∧ ChOk c := fun c hc => ⟨by simpa using (List.mem_filter.1 hc).2, hk c (List.mem_filter.1 hc).1⟩
  generalize bundleL f t g l most = bu at *
  generalize keptL f t g (mostB most) l = kept at *
  rw [show max 100 (min most 1500) = mostB most from rfl]
  generalize mostB most = M at *
  refine ALoop.adopt 12 2000 4 30 (fun _ => []) rfl rfl rfl ?_
  refine ALoop.introS buTOk followsB (fun x : {x : List Pk × List Ch // bu = x.1 ++ packs f t g M x.2 ∧ (∀ c ∈ x.2, delB f t g M c = false ∧ ChOk c) ∧ x.1.length + x.2.length ≤ l.length} =>
    ([(5, .ptr 5 0), (6, .ptr 6 0), (7, .ptr 7 0), (9, .ptr 9 0), (11, .d (slT 14 encCh x.1.2)), (12, .rsl 2000 4 0 x.1.1.length)], [(5, .box [cv16 f] none), (6, .box [cv16 t] none), (7, .box [cv32 g] none), (9, .box [tvi M] none), (2000, .row 30 4 x.1.1.length (fun k => encP (x.1.1.getD k default)))])) (fun x => x.1.2.length) ⟨([], kept), hbu, hkk, by simp; omega⟩ ?_ ?_
  · exact ⟨.refl _, .refl _, .refl _, .refl _, .sl rfl hF, .refl _, OLe.refl _, OLe.refl _, OLe.refl _, OLe.refl _, ⟨rfl, rfl, rfl, fun _ hj => by simp at hj⟩, trivial⟩
  rintro ⟨⟨out, left⟩, i1, i2, i3⟩
  dsimp only at i1 i2 i3 ⊢
  conv => whnf
  rcases left with _ | ⟨c, r⟩
  · refine AGo.go buTOk followsB ?_
    rw [packs_nil, List.append_nil] at i1
    subst i1
    conv => whnf
    refine ⟨by first | omega | (simp only [Int.toNat_natCast]; omega) | (simp; done) | (simp; omega), ?_⟩
    conv => whnf
    exact ⟨_, .refl _, rfl, rfl⟩
  rw [show decide ((0 : Int) < ((c :: r).length : Int)) = true from decide_eq_true (by simp)]
  obtain ⟨k1, k2⟩ := kept_ok (i2 c (by simp)).1
  obtain ⟨left, hle⟩ : ∃ left, left = c :: r := ⟨_, rfl⟩
  have hl0 : 0 < left.length := by rw [hle]; simp
  have hg0 : left.getD 0 default = c := by rw [hle]; rfl
  have hgr : grab M [c] (12 + sizeC c) r = grab M (left.take 1) (12 + allSz (left.take 1)) (left.drop 1) := by rw [hle]; simp [allSz]
  rw [packs_cons] at i1
  rw [← hle] at i2 i3 ⊢
  refine AGo.go buTOk followsB ?_
  conv => whnf
  refine ALoop.adoptCell 13 3 3000 14 35 (fun _ => []) rfl rfl rfl rfl rfl ?_
  refine ALoop.introS buTOk followsB (fun i : {i // i ≤ left.length ∧ (0 < i → grab M [c] (12 + sizeC c) r = grab M (left.take i) (12 + allSz (left.take i)) (left.drop i)) ∧ ((12 + allSz (left.take i) : Nat) : Int) ≤ M} =>
    ([(5, .ptr 5 0), (6, .ptr 6 0), (7, .ptr 7 0), (9, .ptr 9 0), (11, .d (slT 14 encCh left)), (12, .rsl 2000 4 0 out.length), (13, .ptr 13 0), (14, tvi ((12 + allSz (left.take i.1) : Nat) : Int)), (31, .d (slT 14 encCh left)), (32, tvi left.length), (33, tvi i.1)],
      [(5, .box [cv16 f] none), (6, .box [cv16 t] none), (7, .box [cv32 g] none), (9, .box [tvi M] none), (2000, .row 30 4 out.length (fun k => encP (out.getD k default))), (13, .box [cv16 f, cv16 t, cv32 g, .rsl 3000 14 0 i.1] none), (3000, .row 35 14 i.1 (fun k => encCh ((left.take i.1).getD k default)))])) (fun i => left.length - i.1) ⟨0, by omega, fun h => by omega, by rw [List.take_zero]; simp [allSz]; omega⟩ ?_ ?_
  · exact ⟨.refl _, .refl _, .refl _, .refl _, .refl _, .refl _, .refl _, .refl _, .refl _, .refl _, .refl _, OLe.refl _, OLe.refl _, OLe.refl _, OLe.refl _, OLe.refl _, ⟨⟨.refl _, .refl _, .refl _, .refl _, trivial⟩, ⟨rfl, rfl, rfl, fun _ hj => by simp at hj⟩, trivial⟩⟩
  rintro ⟨i, j1, j2, j3⟩
  dsimp only at j1 j2 j3 ⊢
  conv => whnf
  by_cases hi : i < left.length
  rotate_left
  · obtain rfl : i = left.length := by omega
    rw [show decide ((left.length : Int) < (left.length : Int)) = false from decide_eq_false (by omega)]
    refine AGo.pub 13 3 3000 rfl rfl rfl (Nat.le_refl _) rfl rfl ?_
    refine AGo.go buTOk followsB ?_
    conv => whnf
    refine ⟨⟨⟨rfl, by omega, by simp only [ty30]; omega⟩, by omega⟩, ?_⟩
    conv => whnf
    conv => whnf
    refine ⟨by first | omega | (simp only [Int.toNat_natCast]; omega) | (simp; done) | (simp; omega), ?_⟩
    conv => whnf
    have hgl := j2 hl0
    rw [List.drop_length, show ∀ a n, grab M a n [] = (a, []) from fun a n => by rw [grab]] at hgl
    rw [hgl, packs_nil] at i1
    subst i1
    refine ⟨.d (slT 4 encP (out ++ [⟨f, t, g, left.take left.length⟩])), .sl (by simp) fun j hj => ?_, rfl, rfl⟩
    exact snoc_row out _ _ (encP_take f t g left left.length (by rw [List.take_length])) j hj
  rw [show decide ((i : Int) < (left.length : Int)) = true from decide_eq_true (by omega)]
  refine AGo.go buTOk followsB ?_
  have hok := (i2 _ (show left.getD i default ∈ left from by rw [List.getD_eq_getElem?_getD, List.getElem?_eq_getElem hi]; exact List.getElem_mem hi)).2
  have hcut : (left.take i).length = i := by rw [List.length_take]; omega
  have hsz := sizeC_le (left.getD i default)
  have hnx := all_take left i hi
  have hdr : left.drop i = left.getD i default :: left.drop (i + 1) := by
    rw [List.drop_eq_getElem_cons hi, List.getD_eq_getElem?_getD, List.getElem?_eq_getElem hi]; rfl
  have hstep : 0 < i → (M < ((12 + allSz (left.take i) + sizeC (left.getD i default) : Nat) : Int) ∨ fitsP (left.take i) (left.getD i default) = false) → (grab M [c] (12 + sizeC c) r) = (left.take i, left.drop i) := by
    intro h0 h1
    rw [j2 h0, hdr, grab, if_pos h1]
  have hgo : ¬ (M < ((12 + allSz (left.take i) + sizeC (left.getD i default) : Nat) : Int) ∨ fitsP (left.take i) (left.getD i default) = false) → grab M [c] (12 + sizeC c) r = grab M (left.take (i + 1)) (12 + allSz (left.take (i + 1))) (left.drop (i + 1)) := by
    intro h1
    rcases Nat.eq_zero_or_pos i with rfl | h0
    · exact hgr
    · rw [j2 h0, hdr, grab, if_neg h1, hnx, Nat.add_assoc]
      congr 1
      rw [List.take_add_one, List.getElem?_eq_getElem hi, List.getD_eq_getElem?_getD, List.getElem?_eq_getElem hi]; rfl
  have hzero : i = 0 → ¬ (M < ((12 + allSz (left.take i) + sizeC (left.getD i default) : Nat) : Int) ∨ fitsP (left.take i) (left.getD i default) = false) := by
    rintro rfl h
    rw [hg0] at h
    rcases h with h | h
    · have : allSz (left.take 0) = 0 := rfl
      omega
    · cases h
  have hsp := size_spec (left.getD (Int.toNat i) default) hok
  conv => whnf
  refine ⟨by first | omega | (simp only [Int.toNat_natCast]; omega) | (simp; done) | (simp; omega), ?_⟩
  conv => whnf
  refine ⟨_, hsp, ?_⟩
  rintro q rfl
  conv => whnf
  rw [show ((buildC (left.getD (Int.toNat i) default)).1.length : Int) = ((sizeC (left.getD i default) : Nat) : Int) from rfl]
  refine ⟨by first | omega | (simp only [Int.toNat_natCast]; omega) | (simp; done) | (simp; omega), ?_⟩
  conv => whnf
  by_cases hm : M < ((12 + allSz (left.take i) + sizeC (left.getD i default) : Nat) : Int)
  · have hov : M < ((12 + allSz (left.take i) + sizeC (left.getD i default) : Nat) : Int) ∨ fitsP (left.take i) (left.getD i default) = false := .inl hm
    rw [show decide (M < ((12 + allSz (left.take i) : Nat) : Int) + ((sizeC (left.getD i default) : Nat) : Int)) = true from decide_eq_true (by omega)]
    conv => whnf
    have h0 : 0 < i := Nat.pos_of_ne_zero fun h => hzero h hov
    have hgl := hstep h0 hov
    rw [hgl] at i1
    obtain ⟨i, rfl⟩ : ∃ q, i = q + 1 := ⟨i - 1, by omega⟩
    refine AGo.pub 13 3 3000 rfl rfl rfl (Nat.le_refl _) rfl rfl ?_
    refine AGo.go buTOk followsB ?_
    conv => whnf
    refine ⟨⟨⟨rfl, by omega, by simp only [ty30]; omega⟩, by omega⟩, ?_⟩
    conv => whnf
    conv => whnf
    refine ⟨by first | omega | (simp only [Int.toNat_natCast]; omega) | (simp; done) | (simp; omega), ?_⟩
    conv => whnf
    refine ⟨by kernel_rfl, ?_⟩
    conv => whnf
    refine ⟨⟨(out ++ [⟨f, t, g, left.take (i + 1)⟩], left.drop (i + 1)), ?_, fun d hd => i2 d (List.mem_of_mem_drop hd), ?_⟩, [(55, 2000)], ?_, .refl _, .refl _, .refl _, .refl _, .sl ?_ fun k hk => ?_, .of_eq (by rw [List.length_append]; rfl), OLe.refl _, OLe.refl _, OLe.refl _, OLe.refl _, ⟨rfl, rfl, by simp, fun j hj => snoc_row out _ _ (encP_take f t g left (i + 1) hcut) j hj⟩, trivial⟩
    · rw [i1, List.append_assoc]; rfl
    · dsimp only
      rw [List.length_append, List.length_drop]
      simp only [List.length_cons, List.length_nil]
      omega
    · dsimp only
      rw [List.length_drop]
      omega
    · rw [List.length_drop]; rfl
    · dsimp only
      rw [List.getD_eq_getElem?_getD, List.getD_eq_getElem?_getD, List.getElem?_drop]
      rfl
  rw [show decide (M < ((12 + allSz (left.take i) : Nat) : Int) + ((sizeC (left.getD i default) : Nat) : Int)) = false from decide_eq_false (by omega)]
  conv => whnf
  refine ⟨by first | omega | (simp only [Int.toNat_natCast]; omega) | (simp; done) | (simp; omega), ?_⟩
  conv => whnf
  refine ⟨_, (fits8_spec (left.take i) (left.getD (Int.toNat i) default) (by omega)).argsC ⟨.sl hcut.symm fun j hj => rfl, .refl _, trivial⟩, ?_⟩
  rintro q rfl
  cases hf : fitsP (left.take i) (left.getD i default)
  · have hov : M < ((12 + allSz (left.take i) + sizeC (left.getD i default) : Nat) : Int) ∨ fitsP (left.take i) (left.getD i default) = false := .inr hf
    rw [show fitsP (left.take i) (left.getD (Int.toNat i) default) = false from hf]
    conv => whnf
    have h0 : 0 < i := Nat.pos_of_ne_zero fun h => hzero h hov
    have hgl := hstep h0 hov
    rw [hgl] at i1
    obtain ⟨i, rfl⟩ : ∃ q, i = q + 1 := ⟨i - 1, by omega⟩
    refine AGo.pub 13 3 3000 rfl rfl rfl (Nat.le_refl _) rfl rfl ?_
    refine AGo.go buTOk followsB ?_
    conv => whnf
    refine ⟨⟨⟨rfl, by omega, by simp only [ty30]; omega⟩, by omega⟩, ?_⟩
    conv => whnf
    conv => whnf
    refine ⟨by first | omega | (simp only [Int.toNat_natCast]; omega) | (simp; done) | (simp; omega), ?_⟩
    conv => whnf
    refine ⟨by kernel_rfl, ?_⟩
    conv => whnf
    refine ⟨⟨(out ++ [⟨f, t, g, left.take (i + 1)⟩], left.drop (i + 1)), ?_, fun d hd => i2 d (List.mem_of_mem_drop hd), ?_⟩, [(55, 2000)], ?_, .refl _, .refl _, .refl _, .refl _, .sl ?_ fun k hk => ?_, .of_eq (by rw [List.length_append]; rfl), OLe.refl _, OLe.refl _, OLe.refl _, OLe.refl _, ⟨rfl, rfl, by simp, fun j hj => snoc_row out _ _ (encP_take f t g left (i + 1) hcut) j hj⟩, trivial⟩
    · rw [i1, List.append_assoc]; rfl
    · dsimp only
      rw [List.length_append, List.length_drop]
      simp only [List.length_cons, List.length_nil]
      omega
    · dsimp only
      rw [List.length_drop]
      omega
    · rw [List.length_drop]; rfl
    · dsimp only
      rw [List.getD_eq_getElem?_getD, List.getD_eq_getElem?_getD, List.getElem?_drop]
      rfl
  rw [show fitsP (left.take i) (left.getD (Int.toNat i) default) = true from hf]
  conv => whnf
  refine AGo.go buTOk followsB ?_
  conv => whnf
  refine ⟨⟨⟨rfl, by omega, by simp only [ty35]; omega⟩, by omega⟩, ?_⟩
  conv => whnf
  conv => whnf
  refine ⟨by first | omega | (simp only [Int.toNat_natCast]; omega) | (simp; done) | (simp; omega), ?_⟩
  conv => whnf
  have hno : ¬ (M < ((12 + allSz (left.take i) + sizeC (left.getD i default) : Nat) : Int) ∨ fitsP (left.take i) (left.getD i default) = false) := by
    rintro (h | h)
    · exact hm h
    · rw [hf] at h; cases h
  refine ⟨⟨i + 1, by omega, fun _ => hgo hno, by rw [hnx]; omega⟩, [(63, 3000)], by dsimp only; omega, .refl _, .refl _, .refl _, .refl _, .refl _, .refl _, .refl _, .of_eq ?_, .refl _, .refl _, .refl _, OLe.refl _, OLe.refl _, OLe.refl _, OLe.refl _, OLe.refl _, ⟨.refl _, .refl _, .refl _, .refl _, trivial⟩, ⟨rfl, rfl, rfl, fun j hj => ?_⟩, trivial⟩
  · dsimp only
    rw [hnx]
    exact congrArg (fun n : Int => tvi n) (by omega)
  · have hj : j < i + 1 := hj
    simp only [fcat]
    rw [getD_take _ hj]
    split
    · rename_i h
      rw [getD_take _ h]
    · have : j = i := by omega
      subst this
      rw [Nat.sub_self]
      rfl
end Go.Proofs.YtcdondbegnbdgaaDoor
