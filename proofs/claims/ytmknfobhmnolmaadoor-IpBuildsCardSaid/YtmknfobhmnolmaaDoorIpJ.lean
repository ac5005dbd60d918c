/- Chapter 5: what is built is parsed; what is turned is refused: contracts, at any arguments of their types. -/
import Derived.Test.YtmknfobhmnolmaaDoorIpI
namespace Go.Proofs.YtmknfobhmnolmaaDoor
open Go Go.RowKit Towline Towline.Ip
set_option linter.unusedVariables false
set_option linter.unusedSimpArgs false
set_option maxRecDepth 20000
set_option maxHeartbeats 4000000
theorem short5_spec (h : Hd) (s : List UInt8) : PSpec Tryd.prog 9 [hA h, tvs s] (fun r => ∃ b : Bool, r = tvb b ∧ (b = true → h.from_.length ≤ 100 ∧ h.to_.length ≤ 100 ∧ s.length ≤ 2000)) := by
  refine PSpec.run (tysOk) followsB Tryd.func9 (by decide) rfl Tryd.ntmps9 (Nat.le_of_ble_eq_true rfl) rfl fun w0 R0 hG => ?_
  conv => whnf
  split <;> rename_i g1
  · conv => whnf
    split <;> rename_i g2
    · conv => whnf
      exact ⟨_, .refl _, ⟨_, rfl, fun g3 => by
        have k1 := of_decide_eq_true g1
        have k2 := of_decide_eq_true g2
        have k3 := of_decide_eq_true g3
        omega⟩, rfl⟩
    · conv => whnf
      exact ⟨_, .refl _, ⟨_, rfl, fun g3 => by cases g3⟩, rfl⟩
  · conv => whnf
    exact ⟨_, .refl _, ⟨_, rfl, fun g3 => by cases g3⟩, rfl⟩
theorem build_len {h : Hd} {p : List UInt8} (he : (buildH h p).2 = 0) : (buildH h p).1.length ≤ 40 + p.length ∧ 20 ≤ (buildH h p).1.length := by
  obtain ⟨hok, hp⟩ := build_ok he
  rcases hok.1 with h4 | h6
  · rw [build4 hok hp h4.1]
    show (raw4 h p.length (c16 (raw4 h p.length 0)) ++ p).length ≤ _ ∧ _ ≤ (raw4 h p.length (c16 (raw4 h p.length 0)) ++ p).length
    rw [List.length_append, raw4_len _ _ _ h4.2.1 h4.2.2.1]
    omega
  · rw [build6 hok hp h6.1]
    have : (raw6 h p.length).length = 40 := by simp [raw6, h6.2.1, h6.2.2.1]
    show (raw6 h p.length ++ p).length ≤ _ ∧ _ ≤ (raw6 h p.length ++ p).length
    rw [List.length_append, this]
    omega
theorem back5_spec (h : Hd) (s : List UInt8) : PSpec Tryd.prog 5 [hA h, tvs s] (· = tvb true) := by
  refine PSpec.run (tysOk) followsB Tryd.func5 (by decide) rfl Tryd.ntmps5 (Nat.le_of_ble_eq_true rfl) rfl fun w0 R0 hG => ?_
  conv => whnf
  refine ⟨_, shown5_spec, ?_⟩
  rintro q rfl
  conv => whnf
  refine ⟨_, short5_spec h s, ?_⟩
  rintro q ⟨b, rfl, hb⟩
  cases b
  · conv => whnf
    exact ⟨_, .refl _, rfl, rfl⟩
  obtain ⟨hf, ht, hs⟩ := hb rfl
  conv => whnf
  refine ⟨_, (build5_spec h s (by omega)), ?_⟩
  rintro q rfl
  conv => whnf
  by_cases he : (buildH h s).2 = 0
  · rw [show ((buildH h s).2 != 0) = false from by rw [he]; rfl]
    have hpb := parse_build he
    have hsum := head_sum he
    have hlen := build_len he
    generalize (buildH h s).1 = d at *
    have p5 := parse5_spec d (by omega)
    rw [hpb] at p5
    conv => whnf
    refine ⟨_, p5, ?_⟩
    rintro q rfl
    conv => whnf
    have hs0 : ∀ l : List UInt8, (l == l) = true := fun l => beq_self_eq_true l
    have hi0 : ∀ l : Int, (l == l) = true := fun l => beq_self_eq_true l
    rw [show ((h, s, (0 : Int)).1.ver == h.ver && ((h, s, (0 : Int)).1.hops == h.hops && ((h, s, (0 : Int)).1.mark == h.mark && ((h, s, (0 : Int)).1.from_ == h.from_ && ((h, s, (0 : Int)).1.to_ == h.to_ && true))))) = true from by simp]
    conv => whnf
    rw [show ((h, s, (0 : Int)).2.1 == s) = true from hs0 s]
    conv => whnf
    by_cases hv : h.ver = 4
    · rw [show (h.ver != 4) = false from by rw [hv]; rfl]
      have hsum := hsum hv
      conv => whnf
      refine ⟨by first | omega | (simp only [Int.toNat_natCast]; omega) | (simp; done) | (simp; omega), ?_⟩
      conv => whnf
      have hcut : cutS d none (some 20) = d.take 20 := rfl
      have hcs := check16_spec (d.take 20) (by rw [List.length_take]; omega)
      rw [hsum] at hcs
      rw [hcut]
      refine ⟨_, hcs, ?_⟩
      rintro q rfl
      conv => whnf
      exact ⟨_, .refl _, rfl, rfl⟩
    · rw [show (h.ver != 4) = true from bne_iff_ne.2 hv]
      conv => whnf
      exact ⟨_, .refl _, rfl, rfl⟩
  · rw [show ((buildH h s).2 != 0) = true from bne_iff_ne.2 he]
    obtain ⟨e1, e2⟩ := build_bad he
    rw [e1]
    conv => whnf
    refine ⟨_, (right5_spec h), ?_⟩
    rintro q rfl
    conv => whnf
    cases hr : rightH h
    · conv => whnf
      exact ⟨_, .refl _, rfl, rfl⟩
    · have hl : 1500 < s.length := by rcases e2 with e2 | e2; rw [hr] at e2; cases e2; exact e2
      conv => whnf
      exact ⟨_, .refl _, (congrArg tvb (decide_eq_true (by omega))), rfl⟩
theorem xor8b (a b : UInt8) : bitsOp .xor .u8 (a.toNat : Int) (b.toNat : Int) = ((a ^^^ b).toNat : Nat) := by
  have ha := UInt8.toNat_lt a
  have hb := UInt8.toNat_lt b
  have hab := UInt8.toNat_lt (a ^^^ b)
  unfold bitsOp
  simp only
  have h1 : (BitVec.ofInt IntKind.u8.bits (a.toNat : Int) ^^^ BitVec.ofInt IntKind.u8.bits (b.toNat : Int)).toNat = (a ^^^ b).toNat := by
    rw [BitVec.toNat_xor, BitVec.toNat_ofInt, BitVec.toNat_ofInt]
    have e4 : ((2 ^ IntKind.u8.bits : Nat) : Int) = 256 := by decide
    rw [e4, UInt8.toNat_xor]
    have e5 : ((a.toNat : Int) % 256).toNat = a.toNat := by omega
    have e6 : ((b.toNat : Int) % 256).toNat = b.toNat := by omega
    rw [e5, e6]
  rw [h1]
  simp [IntKind.wrap, IntKind.signed, IntKind.bits, -UInt8.toNat_xor]
  omega
theorem turns5_spec (h : Hd) (s : List UInt8) (at_ : Int) (x : UInt8) : PSpec Tryd.prog 6 [hA h, tvs s, tvi at_, .d (.i .u8 (x.toNat : Nat))] (· = tvb true) := by
  refine PSpec.run ((tysPOk [54])) followsB Tryd.func6 (by decide) rfl Tryd.ntmps6 (Nat.le_of_ble_eq_true rfl) rfl fun w0 R0 hG => ?_
  conv => whnf
  refine ⟨_, shown5_spec, ?_⟩
  rintro q rfl
  conv => whnf
  refine ⟨_, short5_spec h s, ?_⟩
  rintro q ⟨b, rfl, hb⟩
  cases b
  · conv => whnf
    exact ⟨_, .refl _, rfl, rfl⟩
  obtain ⟨hf, ht, hs⟩ := hb rfl
  conv => whnf
  by_cases hv : h.ver = 4
  rotate_left
  · rw [show (h.ver != 4) = true from bne_iff_ne.2 hv]
    conv => whnf
    exact ⟨_, .refl _, rfl, rfl⟩
  rw [show (h.ver != 4) = false from by rw [hv]; rfl]
  conv => whnf
  by_cases h0 : at_ < 0
  · rw [show decide (at_ < 0) = true from decide_eq_true h0]
    conv => whnf
    exact ⟨_, .refl _, rfl, rfl⟩
  rw [show decide (at_ < 0) = false from decide_eq_false h0]
  conv => whnf
  by_cases h1 : 20 ≤ at_
  · rw [show decide (20 ≤ at_) = true from decide_eq_true h1]
    conv => whnf
    exact ⟨_, .refl _, rfl, rfl⟩
  rw [show decide (20 ≤ at_) = false from decide_eq_false h1]
  conv => whnf
  by_cases hx : x = 0
  · rw [show (((x.toNat : Nat) : Int) == 0) = true from by rw [hx]; rfl]
    conv => whnf
    exact ⟨_, .refl _, rfl, rfl⟩
  have hxn : x.toNat ≠ 0 := fun h => hx (UInt8.toNat_inj.1 h)
  rw [show (((x.toNat : Nat) : Int) == 0) = false from beq_eq_false_iff_ne.2 (by omega)]
  conv => whnf
  refine ⟨_, (build5_spec h s (by omega)), ?_⟩
  rintro q rfl
  conv => whnf
  by_cases he : (buildH h s).2 = 0
  rotate_left
  · rw [show ((buildH h s).2 != 0) = true from bne_iff_ne.2 he]
    conv => whnf
    exact ⟨_, .refl _, rfl, rfl⟩
  rw [show ((buildH h s).2 != 0) = false from by rw [he]; rfl]
  obtain ⟨k, rfl⟩ : ∃ k : Nat, at_ = (k : Int) := ⟨at_.toNat, by omega⟩
  have hlen := build_len he
  have htu := fun y => parse_turned he hv (k := k) (by omega) (y := y)
  generalize (buildH h s).1 = d at *
  have hkl : k < d.length := by omega
  have hne : d.getD k 0 ^^^ x ≠ d.getD k 0 := fun e => hx (by
    have h2 : d.getD k 0 ^^^ (d.getD k 0 ^^^ x) = d.getD k 0 ^^^ d.getD k 0 := by rw [e]
    rwa [← UInt8.xor_assoc, UInt8.xor_self, UInt8.zero_xor] at h2)
  have hbad := htu _ hne
  have p5 := parse5_spec (d.set k (d.getD k 0 ^^^ x)) (by rw [List.length_set]; omega)
  have hemp := parse_bad hbad
  generalize parseH (d.set k (d.getD k 0 ^^^ x)) = r at *
  obtain ⟨r1, r2, r3⟩ := r
  dsimp only at hbad hemp
  subst hemp
  conv => whnf
  refine ⟨by first | omega | (simp only [Int.toNat_natCast]; omega) | (simp; done) | (simp; omega), ?_⟩
  conv => whnf
  refine ⟨by first | omega | (simp only [Int.toNat_natCast]; omega) | (simp; done) | (simp; omega), ?_⟩
  conv => whnf
  refine ⟨by first | omega | (simp only [Int.toNat_natCast]; omega) | (simp; done) | (simp; omega), ?_⟩
  conv => whnf
  refine ⟨by first | omega | (simp only [Int.toNat_natCast]; omega) | (simp; done) | (simp; omega), ?_⟩
  conv => whnf
  have e0 : 0 + ((k : Int)).toNat = k := by omega
  rw [e0, xor8b]
  refine ⟨by first | omega | (simp only [Int.toNat_natCast]; omega) | (simp; done) | (simp; omega), ?_⟩
  conv => whnf
  refine ⟨d.set k (d.getD k 0 ^^^ x), ⟨by rw [List.length_set], by omega, fun j _ => ?_⟩, ?_⟩
  · rw [Nat.zero_add]
    exact bytes_set _ _ _ hkl _
  conv => whnf
  refine ⟨_, p5, ?_⟩
  rintro q rfl
  conv => whnf
  rw [show (r3 != 0) = true from bne_iff_ne.2 hbad]
  conv => whnf
  exact ⟨_, .refl _, rfl, rfl⟩
end Go.Proofs.YtmknfobhmnolmaaDoor
