/- Chapter 8: the examples; PacketSorts: contracts. -/
import Derived.Test.YtcdondbegnbdgaaDoorPkI
namespace Go.Proofs.YtcdondbegnbdgaaDoor
open Go Go.RowKit Towline Towline.Tlv Towline.Chunk Towline.Packet Towline.Crc
set_option linter.unusedVariables false
set_option linter.unusedSimpArgs false
set_option maxRecDepth 20000
set_option maxHeartbeats 1000000
def dC : Ch := ⟨0, 3, 0, 0, 0, 0, 0, 0, 0, 0, [], [], [], List.replicate 1000 0⟩
theorem dC_good : goodC dC = true := by
  unfold goodC
  have h1 : (buildL dC.items).2 = 0 := rfl
  have h2 : fitsB dC = true := by
    unfold fitsB textB
    rw [if_pos (show dC.ty = 0 from rfl), show dC.text.length = 1000 from List.length_replicate]
    rfl
  have h3 : onlyC dC = dC := by rw [only_0 rfl]; rfl
  rw [h1, h2, h3]
  simp
theorem dC_val : (valB [] dC).length = 1012 := by
  rw [show valB [] dC = [] ++ be4 0 ++ (be2 0 ++ be2 0) ++ be4 0 ++ [] ++ List.replicate 1000 0 from rfl]
  simp [be4, be2]
theorem dC_len : (encC dC).length = 1016 := by
  have h := (enc_parts dC).2
  rw [dC_val] at h
  rw [h]; rfl
theorem dC_size : sizeC dC = 1016 := by
  unfold sizeC
  rw [good_build dC_good (by rw [dC_len]; decide)]
  exact dC_len
theorem dC_ok : ChOk dC := ok0 rfl rfl rfl
theorem dC_one : PkOk ⟨1, 2, 3, [dC]⟩ := by
  refine ⟨by decide, by decide, by decide, by decide, rfl, fun i hi => ?_, fun h => absurd h (by decide), fun i j h1 h2 => ?_⟩
  · have : i = 0 := by simpa using hi
    subst this
    show (buildC dC).2 = 0
    rw [good_build dC_good (by rw [dC_len]; decide)]
  · have : j < 1 := h2
    omega
theorem dC_keep : delB 1 2 3 1500 dC = false := by
  unfold delB
  rw [shaped_yes ((okPk_iff _).2 dC_one)]
  have : lenP ⟨1, 2, 3, [dC]⟩ = 1028 := by simp [lenP, allSz, dC_size]
  rw [this]
  rfl
theorem three : (bundleL 1 2 3 [dC, dC, dC] 1500).length = 3 := by
  unfold bundleL
  have hm : mostB 1500 = 1500 := rfl
  have hk : keptL 1 2 3 1500 [dC, dC, dC] = [dC, dC, dC] := by
    unfold keptL
    simp [List.filter, dC_keep]
  have g1 : ∀ r, grab 1500 [dC] (12 + sizeC dC) (dC :: r) = ([dC], dC :: r) := by
    intro r
    rw [grab, if_pos (.inl (by rw [dC_size]; decide))]
  have g2 : grab 1500 [dC] (12 + sizeC dC) [] = ([dC], []) := by rw [grab]
  rw [hm, hk, packs_cons, g1, packs_cons, g1, packs_cons, g2, packs_nil]
  rfl
theorem DLe.nil {sz : Nat} {f : Nat → List D} : DLe (.v (.slice none 0 0)) (.sl sz 0 f) := ⟨fun w gd v h => by cases h; exact .sl0 _ _ _ _ (Nat.zero_le _)⟩
theorem shown8_spec : PSpec Tryd.prog 6 [] (· = tvb true) := by
  have hB := bundle8_spec 1 2 3 1500 [dC, dC, dC] (fun c hc => by
    simp at hc; subst hc; exact dC_ok) (by simp)
  have hP := parse8_spec [49, 50, 51, 52, 53, 54, 55, 56, 57, 48, 49] (by decide)
  have hp : parseP [49, 50, 51, 52, 53, 54, 55, 56, 57, 48, 49] = (nilPk, 3) := rfl
  rw [hp] at hP
  refine PSpec.run (tysPOk [14]) followsB Tryd.func6 (by decide) rfl Tryd.ntmps6 (Nat.le_of_ble_eq_true rfl) rfl fun w0 R0 => ?_
  conv => whnf
  refine ⟨by decide, ?_⟩
  conv => whnf
  refine ⟨List.replicate 1000 0, ⟨List.length_replicate, by decide, fun k hk => (noughts 1000 k).symm⟩, ?_⟩
  conv => whnf
  refine ⟨by first | omega | (simp only [Int.toNat_natCast]; omega) | (simp; done) | (simp; omega), ?_⟩
  conv => whnf
  refine ⟨_, hB.argsC ⟨.refl _, .refl _, .refl _, (DLe.sl rfl fun k hk => ?_).av, .refl _, trivial⟩, ?_⟩
  · have one : DLeL [.i .i64 0, .i .i64 3, .i .u32 0, .i .u32 0, .i .u32 0, .i .u32 0, .i .u16 0, .i .u16 0, .i .u16 0, .i .u16 0, .v (.slice none 0 0), .v (.slice none 0 0), .v (.slice none 0 0), .s (List.replicate 1000 0)] (encCh dC) := ⟨.refl _, .refl _, .refl _, .refl _, .refl _, .refl _, .refl _, .refl _, .refl _, .refl _, DLe.nil, DLe.nil, DLe.nil, .refl _, trivial⟩
    match k, hk with
    | 0, _ => exact one
    | 1, _ => exact one
    | 2, _ => exact one
  rintro q rfl
  conv => whnf
  refine ⟨_, hP, ?_⟩
  rintro q rfl
  conv => whnf
  rw [three]
  conv => whnf
  refine ⟨_, alone_spec 1, ?_⟩
  rintro q rfl
  conv => whnf
  refine ⟨_, alone_spec 0, ?_⟩
  rintro q rfl
  conv => whnf
  exact ⟨_, .refl _, rfl, rfl⟩
theorem ChOk.ofL {c : Ch} (hr : ChR c) (h : lightC c) : ChOk c := by
  unfold lightC at h
  exact hr.ok (by omega) (by omega) (by omega)
end Go.Proofs.YtcdondbegnbdgaaDoor
