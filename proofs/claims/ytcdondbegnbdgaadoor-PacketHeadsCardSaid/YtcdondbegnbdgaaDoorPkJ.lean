/- Chapter 8: the examples; PacketSorts: contracts. -/
import Derived.Test.YtcdondbegnbdgaaDoorPkI
namespace Go.Proofs.YtcdondbegnbdgaaDoor
open Go Go.RowKit Towline Towline.Tlv Towline.Chunk Towline.Packet Towline.Crc
set_option linter.unusedVariables false
set_option linter.unusedSimpArgs false
set_option maxRecDepth 20000
set_option maxHeartbeats 1000000
def dC : Ch := ⟨0, 3, 0, 0, 0, 0, 0, 0, 0, 0, [], [], [], List.replicate 1000 0⟩
theorem dC_good : goodC dC = true := by
  unfold goodC
  have h1 : (buildL dC.items).2 = 0 := rfl
  have h2 : fitsB dC = true := by
    unfold fitsB textB
    rw [if_pos (show dC.ty = 0 from rfl), show dC.text.length = 1000 from List.length_replicate]
    rfl
  have h3 : onlyC dC = dC := by rw [only_0 rfl]; rfl
  rw [h1, h2, h3]
  simp
theorem dC_val : (valB [] dC).length = 1012 := by
  rw [show valB [] dC = [] ++ be4 0 ++ (be2 0 ++ be2 0) ++ be4 0 ++ [] ++ List.replicate 1000 0 from rfl]
  simp [be4, be2]
theorem dC_len : (encC dC).length = 1016 := by
  have h := (enc_parts dC).2
  rw [dC_val] at h
  rw [h]; rfl
theorem dC_size : sizeC dC = 1016 := by
  unfold sizeC
  rw [good_build dC_good (by rw [dC_len]; decide)]
  exact dC_len
theorem dC_ok : ChOk dC := ok0 rfl rfl rfl
theorem dC_one : PkOk ⟨1, 2, 3, [dC]⟩ := by
  refine ⟨by decide, by decide, by decide, by decide, rfl, fun i hi => ?_, fun h => absurd h (by decide), fun i j h1 h2 => ?_⟩
  · have : i = 0 := by simpa using hi
    subst this
    show (buildC dC).2 = 0
    rw [good_build dC_good (by rw [dC_len]; decide)]
  · have : j < 1 := h2
    omega
theorem dC_keep : delB 1 2 3 1500 dC = false := by
  unfold delB
  rw [shaped_yes ((okPk_iff _).2 dC_one)]
  have : lenP ⟨1, 2, 3, [dC]⟩ = 1028 := by simp [lenP, allSz, dC_size]
  rw [this]
  rfl
theorem three : (bundleL 1 2 3 [dC, dC, dC] 1500).length = 3 := by
  unfold bundleL
  have hm : mostB 1500 = 1500 := rfl
  have hk : keptL 1 2 3 1500 [dC, dC, dC] = [dC, dC, dC] := by
    unfold keptL
    simp [List.filter, dC_keep]
  have g1 : ∀ r, grab 1500 [dC] (12 + sizeC dC) (dC :: r) = ([dC], dC :: r) := by
    intro r
    rw [grab, if_pos (.inl (by rw [dC_size]; decide))]
  have g2 : grab 1500 [dC] (12 + sizeC dC) [] = ([dC], []) := by rw [grab]
  rw [hm, hk, packs_cons, g1, packs_cons, g1, packs_cons, g2, packs_nil]
  rfl
theorem DLe.nil {sz : Nat} {f : Nat → List D} : DLe (.v (.slice none 0 0)) (.sl sz 0 f) := ⟨fun w gd v h => by cases h; exact .sl0 _ _ _ _ (Nat.zero_le _)⟩
theorem shown8_spec : PSpec Tryd.prog 6 [] (· = tvb true) := by
  have hB := bundle8_spec 1 2 3 1500 [dC, dC, dC] (fun c hc => by
    simp at hc; subst hc; exact dC_ok) (by simp)
  have hP := parse8_spec [49, 50, 51, 52, 53, 54, 55, 56, 57, 48, 49] (by decide)
  have hp : parseP [49, 50, 51, 52, 53, 54, 55, 56, 57, 48, 49] = (nilPk, 3) := rfl
  rw [hp] at hP
  refine PSpec.run (tysPOk [14]) followsB Tryd.func6 (by decide) rfl Tryd.ntmps6 (Nat.le_of_ble_eq_true rfl) rfl fun w0 R0 => ?_
  conv => whnf
  refine ⟨by decide, ?_⟩
  conv => whnf
  refine ⟨List.replicate 1000 0, ⟨List.length_replicate, by decide, fun k hk => (noughts 1000 k).symm⟩, ?_⟩
  conv => whnf
  refine ⟨by first | omega | (simp only [Int.toNat_natCast]; omega) | (simp; done) | (simp; omega), ?_⟩
  conv => whnf
  refine ⟨_, hB.argsC ⟨.refl _, .refl _, .refl _, (DLe.sl rfl fun k hk => ?_).av, .refl _, trivial⟩, ?_⟩
  · have one : DLeL [.i .i64 0, .i .i64 3, .i .u32 0, .i .u32 0, .i .u32 0, .i .u32 0, .i .u16 0, .i .u16 0, .i .u16 0, .i .u16 0, .v (.slice none 0 0), .v (.slice none 0 0), .v (.slice none 0 0), .s (List.replicate 1000 0)] (encCh dC) := ⟨.refl _, .refl _, .refl _, .refl _, .refl _, .refl _, .refl _, .refl _, .refl _, .refl _, DLe.nil, DLe.nil, DLe.nil, .refl _, trivial⟩
    match k, hk with
    | 0, _ => exact one
    | 1, _ => exact one
    | 2, _ => exact one
  rintro q rfl
  conv => whnf
  refine ⟨_, hP, ?_⟩
  rintro q rfl
  conv => whnf
  rw [three]
  conv => whnf
  refine ⟨_, alone_spec 1, ?_⟩
  rintro q rfl
  conv => whnf
  refine ⟨_, alone_spec 0, ?_⟩
  rintro q rfl
  conv => whnf
  exact ⟨_, .refl _, rfl, rfl⟩
theorem ChOk.ofL {c : Ch} (hr : ChR c) (h : lightC c) : ChOk c := by
  unfold lightC at h
  exact hr.ok (by omega) (by omega) (by omega)
theorem packs_len (f t g most : Int) : ∀ (n : Nat) (l : List Ch), l.length ≤ n → (packs f t g most l).length ≤ l.length
  | _, [], _ => by rw [packs_nil]; exact Nat.le_refl _
  | 0, _ :: _, h => by simp at h
  | n + 1, c :: r, h => by
    have hl := grab_len most r [c] (12 + sizeC c)
    rw [List.length_cons] at h
    have := packs_len f t g most n (grab most [c] (12 + sizeC c) r).2 (by omega)
    rw [packs_cons, List.length_cons, List.length_cons]
    omega
theorem bundle_len (f t g most : Int) (l : List Ch) : (bundleL f t g l most).length ≤ l.length := by
  have h1 := packs_len f t g (mostB most) _ (keptL f t g (mostB most) l) (Nat.le_refl _)
  have h2 : (keptL f t g (mostB most) l).length ≤ l.length := List.length_filter_le _ _
  unfold bundleL
  omega
theorem sorts8_spec (f t g : Int) (l : List Ch) (hr : ∀ c ∈ l, ChR c) : PSpec Tryd.prog 3 [cv16 f, cv16 t, cv32 g, .d (slT 14 encCh l)] (· = tvb true) := by
  refine PSpec.run (tysOk) followsB Tryd.func3 (by decide) rfl Tryd.ntmps3 (Nat.le_of_ble_eq_true rfl) rfl fun w0 R0 => ?_
  conv => whnf
  refine ⟨_, shown8_spec, ?_⟩
  rintro q rfl
  conv => whnf
  refine ⟨_, small8_spec l, ?_⟩
  rintro q ⟨b, rfl, hb⟩
  cases b
  · conv => whnf
    exact ⟨_, .refl _, rfl, rfl⟩
  obtain ⟨hl, hc⟩ := hb rfl
  have hk : ∀ c ∈ l, ChOk c := fun c h => ChOk.ofL (hr c h) (hc c h)
  conv => whnf
  refine ⟨_, bundle8_spec f t g 1500 l hk (by omega), ?_⟩
  rintro q rfl
  conv => whnf
  have hbo := @bundle_ok f t g 1500 l
  have hbl := bundle_len f t g 1500 l
  generalize bundleL f t g l 1500 = out at *
  refine ALoop.introR tysOk followsB (fun i : {i // i ≤ out.length} => ([(11, .d (slT 4 encP out)), (12, tvi i.1)], [])) (fun i => out.length - i.1) ⟨0, by omega⟩ ⟨.refl _, .refl _, trivial⟩ ?_
  rintro ⟨i, hi⟩
  dsimp only
  conv => whnf
  split <;> rename_i h1
  rotate_left
  · conv => whnf
    exact ⟨_, .refl _, rfl, rfl⟩
  have hlt : i < out.length := by simpa using h1
  have hm : out.getD i default ∈ out := by rw [List.getD_eq_getElem?_getD, List.getElem?_eq_getElem hlt]; exact List.getElem_mem hlt
  obtain ⟨k1, k2, k3⟩ := hbo _ hm
  obtain ⟨p, hp⟩ : ∃ p, p = out.getD i default := ⟨_, rfl⟩
  rw [← hp] at k1 k2 k3
  have hlen := k1.many
  conv => whnf
  refine ALoop.introR tysOk followsB (fun k : {k // k ≤ p.chunks.length} => ([(11, .d (slT 4 encP out)), (12, tvi i), (13, tvb ((p.chunks.take k.1).any fun c => c.ty == 0)), (14, tvi k.1)], [])) (fun k => p.chunks.length - k.1) ⟨0, by omega⟩ ⟨.refl _, .refl _, .refl _, .refl _, trivial⟩ ?_
  rintro ⟨k, hk'⟩
  dsimp only
  have hpe : out.getD (Int.toNat i) default = p := hp.symm
  conv => whnf
  refine ⟨by first | omega | (simp only [Int.toNat_natCast]; omega) | (simp; done) | (simp; omega), ?_⟩
  conv => whnf
  rw [hpe]
  by_cases hkl : k < p.chunks.length
  rotate_left
  · rw [show decide ((k : Int) < (p.chunks.length : Int)) = false from decide_eq_false (by omega)]
    conv => whnf
    refine ⟨by first | omega | (simp only [Int.toNat_natCast]; omega) | (simp; done) | (simp; omega), ?_⟩
    conv => whnf
    rw [hpe]
    have hR := right8_spec p (fun c hc => hk c (k3 c hc)) (by omega)
    rw [k2] at hR
    conv => whnf
    refine ⟨_, hR, ?_⟩
    rintro q rfl
    conv => whnf
    refine ⟨by first | omega | (simp only [Int.toNat_natCast]; omega) | (simp; done) | (simp; omega), ?_⟩
    conv => whnf
    rw [hpe, show ((p.chunks.length : Int) == 0) = false from beq_eq_false_iff_ne.2 (by have := k1.pos; omega)]
    conv => whnf
    refine ⟨by first | omega | (simp only [Int.toNat_natCast]; omega) | (simp; done) | (simp; omega), ?_⟩
    conv => whnf
    exact ⟨⟨i + 1, by omega⟩, [], by dsimp only; omega, .refl _, .refl _, trivial⟩
  rw [show decide ((k : Int) < (p.chunks.length : Int)) = true from decide_eq_true (by omega)]
  have hal : 1 < p.chunks.length → aloneB (p.chunks.getD k default).ty = false := fun h => k1.alone h k hkl
  have hda : (p.chunks.take k).any (fun c => c.ty == 0) = true → (p.chunks.getD k default).ty = 0 := by
    intro h
    obtain ⟨c, hc, h0⟩ := List.any_eq_true.1 h
    obtain ⟨j, hj, rfl⟩ := List.getElem_of_mem hc
    rw [List.length_take] at hj
    refine k1.data j k (by omega) hkl ?_
    rw [List.getElem_take] at h0
    rw [List.getD_eq_getElem?_getD, List.getElem?_eq_getElem (by omega)]
    simpa using h0
  have hda2 : (p.chunks.take (k + 1)).any (fun c => c.ty == 0) = ((p.chunks.take k).any (fun c => c.ty == 0) || ((p.chunks.getD k default).ty == 0)) := by
    rw [List.take_add_one, List.any_append, List.getElem?_eq_getElem hkl, List.getD_eq_getElem?_getD, List.getElem?_eq_getElem hkl]
    simp
  have htag := k1.tag
  generalize hd : (p.chunks.take k).any (fun c => c.ty == 0) = d at *
  have htg : ((p.tag == 0) != ((p.chunks.getD (Int.toNat 0) default).ty == 1)) = false := by rw [show (p.tag == 0) = ((p.chunks.getD (Int.toNat 0) default).ty == 1) from htag]; exact bne_self_eq_false _
  have hpos := k1.pos
  conv => whnf
  refine ⟨by first | omega | (simp only [Int.toNat_natCast]; omega) | (simp; done) | (simp; omega), ?_⟩
  conv => whnf
  rw [hpe]
  conv => whnf
  refine ⟨by first | omega | (simp only [Int.toNat_natCast]; omega) | (simp; done) | (simp; omega), ?_⟩
  conv => whnf
  refine ⟨_, alone_spec (p.chunks.getD (Int.toNat k) default).ty, ?_⟩
  conv => whnf
  cases ha : aloneB (p.chunks.getD k default).ty
  · rw [show aloneB (p.chunks.getD (Int.toNat k) default).ty = false from ha]
    conv => whnf
    cases d
    · conv => whnf
      refine ⟨by first | omega | (simp only [Int.toNat_natCast]; omega) | (simp; done) | (simp; omega), ?_⟩
      conv => whnf
      refine ⟨by first | omega | (simp only [Int.toNat_natCast]; omega) | (simp; done) | (simp; omega), ?_⟩
      conv => whnf
      rw [hpe]
      refine ⟨by first | omega | (simp only [Int.toNat_natCast]; omega) | (simp; done) | (simp; omega), ?_⟩
      conv => whnf
      try rw [hpe]
      rw [htg]
      conv => whnf
      refine ⟨by kernel_rfl, ?_⟩
      conv => whnf
      refine ⟨by first | omega | (simp only [Int.toNat_natCast]; omega) | (simp; done) | (simp; omega), ?_⟩
      conv => whnf
      refine ⟨⟨k + 1, by omega⟩, [], by dsimp only; omega, .refl _, .refl _, .of_eq ?_, .refl _, trivial⟩
      dsimp only
      rw [hda2]
      rfl
    · conv => whnf
      rw [show ((p.chunks.getD (Int.toNat k) default).ty != 0) = false from by rw [show (p.chunks.getD (Int.toNat k) default).ty = 0 from hda rfl]; rfl]
      conv => whnf
      refine ⟨by first | omega | (simp only [Int.toNat_natCast]; omega) | (simp; done) | (simp; omega), ?_⟩
      conv => whnf
      refine ⟨by first | omega | (simp only [Int.toNat_natCast]; omega) | (simp; done) | (simp; omega), ?_⟩
      conv => whnf
      rw [hpe]
      refine ⟨by first | omega | (simp only [Int.toNat_natCast]; omega) | (simp; done) | (simp; omega), ?_⟩
      conv => whnf
      try rw [hpe]
      rw [htg]
      conv => whnf
      refine ⟨by kernel_rfl, ?_⟩
      conv => whnf
      refine ⟨by first | omega | (simp only [Int.toNat_natCast]; omega) | (simp; done) | (simp; omega), ?_⟩
      conv => whnf
      refine ⟨⟨k + 1, by omega⟩, [], by dsimp only; omega, .refl _, .refl _, .of_eq ?_, .refl _, trivial⟩
      dsimp only
      rw [hda2]
      rfl
  · rw [show aloneB (p.chunks.getD (Int.toNat k) default).ty = true from ha]
    conv => whnf
    refine ⟨by first | omega | (simp only [Int.toNat_natCast]; omega) | (simp; done) | (simp; omega), ?_⟩
    conv => whnf
    rw [hpe, show decide ((1 : Int) < (p.chunks.length : Int)) = false from decide_eq_false fun h => by rw [hal (by omega)] at ha; cases ha]
    conv => whnf
    cases d
    · conv => whnf
      refine ⟨by first | omega | (simp only [Int.toNat_natCast]; omega) | (simp; done) | (simp; omega), ?_⟩
      conv => whnf
      refine ⟨by first | omega | (simp only [Int.toNat_natCast]; omega) | (simp; done) | (simp; omega), ?_⟩
      conv => whnf
      rw [hpe]
      refine ⟨by first | omega | (simp only [Int.toNat_natCast]; omega) | (simp; done) | (simp; omega), ?_⟩
      conv => whnf
      try rw [hpe]
      rw [htg]
      conv => whnf
      refine ⟨by kernel_rfl, ?_⟩
      conv => whnf
      refine ⟨by first | omega | (simp only [Int.toNat_natCast]; omega) | (simp; done) | (simp; omega), ?_⟩
      conv => whnf
      refine ⟨⟨k + 1, by omega⟩, [], by dsimp only; omega, .refl _, .refl _, .of_eq ?_, .refl _, trivial⟩
      dsimp only
      rw [hda2]
      rfl
    · conv => whnf
      rw [show ((p.chunks.getD (Int.toNat k) default).ty != 0) = false from by rw [show (p.chunks.getD (Int.toNat k) default).ty = 0 from hda rfl]; rfl]
      conv => whnf
      refine ⟨by first | omega | (simp only [Int.toNat_natCast]; omega) | (simp; done) | (simp; omega), ?_⟩
      conv => whnf
      refine ⟨by first | omega | (simp only [Int.toNat_natCast]; omega) | (simp; done) | (simp; omega), ?_⟩
      conv => whnf
      rw [hpe]
      refine ⟨by first | omega | (simp only [Int.toNat_natCast]; omega) | (simp; done) | (simp; omega), ?_⟩
      conv => whnf
      try rw [hpe]
      rw [htg]
      conv => whnf
      refine ⟨by kernel_rfl, ?_⟩
      conv => whnf
      refine ⟨by first | omega | (simp only [Int.toNat_natCast]; omega) | (simp; done) | (simp; omega), ?_⟩
      conv => whnf
      refine ⟨⟨k + 1, by omega⟩, [], by dsimp only; omega, .refl _, .refl _, .of_eq ?_, .refl _, trivial⟩
      dsimp only
      rw [hda2]
      rfl
end Go.Proofs.YtcdondbegnbdgaaDoor
