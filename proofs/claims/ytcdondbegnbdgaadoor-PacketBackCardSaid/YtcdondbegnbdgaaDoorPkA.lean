/- Chapter 8: packets, and what is right: pure, and contracts. -/
import Derived.Test.YtcdondbegnbdgaaDoorPkK
import Derived.Test.YtcdondbegnbdgaaDoorWtC
namespace Towline.Packet
open Towline Towline.Tlv Towline.Chunk
structure Pk where
  from_ : Int
  to_ : Int
  tag : Int
  chunks : List Ch
  deriving DecidableEq, Inhabited
def aloneB (k : Int) : Bool := k == 1 || (k == 2 || k == 14)
def lastC (l : List Ch) : Ch := l.getD (l.length - 1) default
def fitsP (a : List Ch) (c : Ch) : Bool :=
  decide (a.length < 50) && (decide (a.length = 0) || (!aloneB c.ty && (!aloneB (lastC a).ty && ((lastC a).ty != 0 || c.ty == 0))))
end Towline.Packet
namespace Go.Proofs.YtcdondbegnbdgaaDoor
open Go Go.RowKit Towline Towline.Tlv Towline.Chunk Towline.Packet
set_option linter.unusedVariables false
set_option linter.unusedSimpArgs false
set_option maxRecDepth 20000
set_option maxHeartbeats 1000000
def sizeC (c : Ch) : Nat := (buildC c).1.length
def allSz (l : List Ch) : Nat := (l.map sizeC).sum
def sizesOk (l : List Ch) : Bool := l.all fun c => sizeC c != 0
def fitsL (l : List Ch) : Bool := (List.range l.length).all fun i => fitsP (l.take i) (l.getD i default)
def okPk (p : Pk) : Bool := sizesOk p.chunks && (p.chunks.length != 0) && (p.from_ != 0) && (p.to_ != 0) && ((p.tag == 0) == ((p.chunks.getD 0 default).ty == 1)) && fitsL p.chunks
def shapedP (p : Pk) : Int × Bool := if okPk p = true then (((12 + allSz p.chunks : Nat) : Int), true) else (0, false)
def rightP (p : Pk) : Bool := okPk p && decide (12 + allSz p.chunks ≤ 1500)
abbrev pL (p : Pk) : List AVal := [cv16 p.from_, cv16 p.to_, cv32 p.tag, .d (slT 14 encCh p.chunks)]
abbrev pA (p : Pk) : AVal := .agg (pL p)
def encP (p : Pk) : List D := [.i .u16 p.from_, .i .u16 p.to_, .i .u32 p.tag, slT 14 encCh p.chunks]
structure PkR (p : Pk) : Prop where
  from_ : in16 p.from_
  to_ : in16 p.to_
  tag : in32 p.tag
  chunks : ∀ c ∈ p.chunks, ChR c ∧ ChOk c
theorem sizeC_le (c : Ch) : sizeC c ≤ 1400 := by
  unfold sizeC
  by_cases he : (buildC c).2 = 0
  · obtain ⟨_, h2, h3⟩ := build_good he
    rw [h3]; exact h2
  · rw [build_bad he]; simp
theorem alone_spec (k : Int) : PSpec Tryd.prog 9 [tvi k] (· = tvb (aloneB k)) := by
  refine PSpec.run (tysOk) followsB Tryd.func9 (by decide) rfl Tryd.ntmps9 (Nat.le_of_ble_eq_true rfl) rfl fun w0 R0 => ?_
  conv => whnf
  unfold aloneB
  by_cases h1 : k = 1
  · subst h1
    conv => whnf
    exact ⟨_, .refl _, rfl, rfl⟩
  rw [show (k == 1) = false from beq_eq_false_iff_ne.2 h1]
  conv => whnf
  by_cases h2 : k = 2
  · subst h2
    conv => whnf
    exact ⟨_, .refl _, rfl, rfl⟩
  rw [show (k == 2) = false from beq_eq_false_iff_ne.2 h2]
  conv => whnf
  exact ⟨_, .refl _, rfl, rfl⟩
theorem fits8_spec (a : List Ch) (c : Ch) (ha : a.length ≤ 2 ^ 40) : PSpec Tryd.prog 22 [.d (slT 14 encCh a), cA c] (· = tvb (fitsP a c)) := by
  refine PSpec.run (tysOk) followsB Tryd.func22 (by decide) rfl Tryd.ntmps22 (Nat.le_of_ble_eq_true rfl) rfl fun w0 R0 => ?_
  conv => whnf
  by_cases h1 : a.length < 50
  rotate_left
  · rw [show decide ((a.length : Int) < 50) = false from decide_eq_false (by omega), show fitsP a c = false from by unfold fitsP; rw [decide_eq_false h1]; rfl]
    conv => whnf
    exact ⟨_, .refl _, rfl, rfl⟩
  rw [show decide ((a.length : Int) < 50) = true from decide_eq_true (by omega)]
  conv => whnf
  by_cases h2 : a.length = 0
  · rw [show ((a.length : Int) == 0) = true from beq_iff_eq.2 (by omega), show fitsP a c = true from by unfold fitsP; rw [decide_eq_true h1, decide_eq_true h2]; rfl]
    conv => whnf
    exact ⟨_, .refl _, rfl, rfl⟩
  rw [show ((a.length : Int) == 0) = false from beq_eq_false_iff_ne.2 (by omega)]
  conv => whnf
  refine ⟨_, alone_spec c.ty, ?_⟩
  rintro q rfl
  conv => whnf
  have hl : Int.toNat ((a.length : Int) - 1) = a.length - 1 := by omega
  have hf : fitsP a c = (!aloneB c.ty && (!aloneB (lastC a).ty && ((lastC a).ty != 0 || c.ty == 0))) := by
    unfold fitsP
    rw [decide_eq_true h1, decide_eq_false h2]; rfl
  cases hc : aloneB c.ty
  rotate_left
  · rw [hf, hc]
    conv => whnf
    exact ⟨_, .refl _, rfl, rfl⟩
  rw [hc] at hf
  conv => whnf
  refine ⟨by first | omega | (simp only [Int.toNat_natCast]; omega) | (simp; done) | (simp; omega), ?_⟩
  conv => whnf
  refine ⟨by first | omega | (simp only [Int.toNat_natCast]; omega) | (simp; done) | (simp; omega), ?_⟩
  conv => whnf
  rw [hl]
  refine ⟨_, alone_spec (a.getD (a.length - 1) default).ty, ?_⟩
  rintro q rfl
  conv => whnf
  cases hd : aloneB (lastC a).ty
  rotate_left
  · rw [hf, hd, show aloneB (a.getD (a.length - 1) default).ty = true from hd]
    conv => whnf
    exact ⟨_, .refl _, rfl, rfl⟩
  rw [hd] at hf
  rw [show aloneB (a.getD (a.length - 1) default).ty = false from hd]
  conv => whnf
  refine ⟨by first | omega | (simp only [Int.toNat_natCast]; omega) | (simp; done) | (simp; omega), ?_⟩
  conv => whnf
  refine ⟨by first | omega | (simp only [Int.toNat_natCast]; omega) | (simp; done) | (simp; omega), ?_⟩
  conv => whnf
  rw [hl]
  cases he : (lastC a).ty != 0
  rotate_left
  · rw [hf, he, show ((a.getD (a.length - 1) default).ty != 0) = true from he]
    conv => whnf
    exact ⟨_, .refl _, rfl, rfl⟩
  rw [he] at hf
  rw [hf, show ((a.getD (a.length - 1) default).ty != 0) = false from he]
  conv => whnf
  exact ⟨_, .refl _, rfl, rfl⟩
end Go.Proofs.YtcdondbegnbdgaaDoor
