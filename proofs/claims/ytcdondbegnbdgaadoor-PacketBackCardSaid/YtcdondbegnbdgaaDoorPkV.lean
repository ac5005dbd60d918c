/- Chapter 8: PacketBack: contract, at any arguments of its types. -/
import Derived.Test.YtcdondbegnbdgaaDoorPkJ
namespace Go.Proofs.YtcdondbegnbdgaaDoor
open Go Go.RowKit Towline Towline.Tlv Towline.Chunk Towline.Packet Towline.Crc
set_option linter.unusedVariables false
set_option linter.unusedSimpArgs false
set_option maxRecDepth 20000
set_option maxHeartbeats 1000000
theorem xor8b (a b : UInt8) : bitsOp .xor .u8 (a.toNat : Int) (b.toNat : Int) = ((a ^^^ b).toNat : Nat) := by
  have ha := UInt8.toNat_lt a
  have hb := UInt8.toNat_lt b
  have hab := UInt8.toNat_lt (a ^^^ b)
  unfold bitsOp
  simp only
  have h1 : (BitVec.ofInt IntKind.u8.bits (a.toNat : Int) ^^^ BitVec.ofInt IntKind.u8.bits (b.toNat : Int)).toNat = (a ^^^ b).toNat := by
    rw [BitVec.toNat_xor, BitVec.toNat_ofInt, BitVec.toNat_ofInt]
    have e4 : ((2 ^ IntKind.u8.bits : Nat) : Int) = 256 := by decide
    rw [e4, UInt8.toNat_xor]
    have e5 : ((a.toNat : Int) % 256).toNat = a.toNat := by omega
    have e6 : ((b.toNat : Int) % 256).toNat = b.toNat := by omega
    rw [e5, e6]
  rw [h1]
  simp [IntKind.wrap, IntKind.signed, IntKind.bits, -UInt8.toNat_xor]
  omega
theorem parse_turned {s : List UInt8} (h12 : 12 ≤ s.length) (hl : s.length ≤ 1500) (hs : Crc.sealed s = s) {k : Nat} (hk : k < s.length) {x : UInt8} (hx : x ≠ 0) : parseP (s.set k (s.getD k 0 ^^^ x)) = (nilPk, 5) := by
  have ht := Crc.turned h12 hs hk (Crc.xor_ne (a := s.getD k 0) hx)
  have hc : checkL (s.set k (s.getD k 0 ^^^ x)) = 5 := by
    unfold checkL
    rw [if_neg (by rw [List.length_set]; omega), if_neg ht]
  unfold parseP
  rw [if_neg (by rw [List.length_set]; omega), if_pos (by rw [hc]; decide), hc]
theorem nil_right : rightP nilPk = false := rfl
theorem back8_spec (p : Pk) (hr : in16 p.from_ ∧ in16 p.to_ ∧ in32 p.tag ∧ ∀ c ∈ p.chunks, ChR c) (at_ : Int) (x : UInt8) (t : List UInt8) :
    PSpec Tryd.prog 4 [pA p, tvi at_, .d (.i .u8 (x.toNat : Nat)), tvs t] (· = tvb true) := by
  refine PSpec.run (tysPOk [85]) followsB Tryd.func4 (by decide) rfl Tryd.ntmps4 (Nat.le_of_ble_eq_true rfl) rfl fun w0 R0 => ?_
  conv => whnf
  refine ⟨_, shown8_spec, ?_⟩
  rintro q rfl
  conv => whnf
  refine ⟨_, small8_spec p.chunks, ?_⟩
  rintro q ⟨b, rfl, hb⟩
  cases b
  · conv => whnf
    exact ⟨_, .refl _, rfl, rfl⟩
  obtain ⟨hl, hc⟩ := hb rfl
  have hk : ∀ c ∈ p.chunks, ChOk c := fun c h => ChOk.ofL (hr.2.2.2 c h) (hc c h)
  have hpr : PkR p := ⟨hr.1, hr.2.1, hr.2.2.1, fun c h => ⟨hr.2.2.2 c h, hk c h⟩⟩
  conv => whnf
  by_cases ht : 2000 < t.length
  · rw [show decide ((2000 : Int) < (t.length : Int)) = true from decide_eq_true (by omega)]
    conv => whnf
    exact ⟨_, .refl _, rfl, rfl⟩
  rw [show decide ((2000 : Int) < (t.length : Int)) = false from decide_eq_false (by omega)]
  have hbs := build8_spec p hk (by omega)
  have hpt := parse8_spec t (by omega)
  have hkx : (parseP t).1.chunks.length ≤ 50 ∧ ∀ c ∈ (parseP t).1.chunks, ChOk c := by
    by_cases he : (parseP t).2 = 0
    · obtain ⟨_, h1, h2⟩ := parseP_ok he
      exact ⟨h2, fun c hc => (h1.chunks c hc).2⟩
    · rw [parseP_bad he]
      exact ⟨by simp [nilPk], fun c hc => by cases hc⟩
  have hbx := build8_spec (parseP t).1 hkx.2 (by omega)
  have hRx := right8_spec (parseP t).1 hkx.2 (by omega)
  have hfx := ref8_spec (parseP t).1 (by omega) fun c hc => Nat.le_trans (hkx.2 c hc).items (by decide)
  have hsx := same8_spec (parseP t).1 (by omega) hkx.2
  conv => whnf
  by_cases he : (buildP p).2 = 0
  rotate_left
  · refine ⟨_, hbs, ?_⟩
    rintro q rfl
    conv => whnf
    rw [show ((buildP p).2 == 0) = false from beq_eq_false_iff_ne.2 he]
    conv => whnf
    refine ⟨_, hpt, ?_⟩
    rintro q rfl
    conv => whnf
    by_cases hx0 : (parseP t).2 = 0
    · rw [show ((parseP t).2 != 0) = false from by rw [hx0]; rfl]
      obtain ⟨r1, r2, r3⟩ := parseP_ok hx0
      have hbb := buildP_right r1
      have hpp := parse_build r2 r1
      obtain ⟨g1, g2, _, _⟩ := buildP_ok (p := (parseP t).1) (by rw [hbb])
      have hrl := raw_len _ ((okPk_iff _).1 g1).mem
      have hsl := sealed_length (l := rawP (parseP t).1) (by rw [hrl]; unfold lenP; omega)
      have hpu := parse8_spec (Crc.sealed (rawP (parseP t).1)) (by omega)
      rw [hpp] at hpu
      rw [hbb] at hbx
      dsimp only at hpu hbx
      conv => whnf
      refine ⟨_, hbx, ?_⟩
      rintro q rfl
      conv => whnf
      refine ⟨_, hpu, ?_⟩
      rintro q rfl
      conv => whnf
      refine ⟨_, hfx, ?_⟩
      conv => whnf
      refine ⟨_, hfx, ?_⟩
      conv => whnf
      refine ⟨_, hsx, ?_⟩
      conv => whnf
      refine ⟨by kernel_rfl, ?_⟩
      conv => whnf
      exact ⟨_, .refl _, rfl, rfl⟩
    · rw [show ((parseP t).2 != 0) = true from bne_iff_ne.2 hx0]
      have hxn := parseP_bad hx0
      rw [hxn] at hRx ⊢
      rw [nil_right] at hRx
      conv => whnf
      refine ⟨_, hRx, ?_⟩
      rintro q rfl
      conv => whnf
      exact ⟨_, .refl _, rfl, rfl⟩
  obtain ⟨b1, b2, b3, b4⟩ := buildP_ok he
  have hok := (okPk_iff p).1 b1
  have hrl := raw_len p hok.mem
  have h12 : 12 ≤ (rawP p).length := by rw [hrl]; unfold lenP; omega
  have hsl := sealed_length h12
  have hss := sealed_sealed h12
  have hpp := parse_build hpr b4
  have hR := right8_spec p hk (by omega)
  rw [b4] at hR
  have hf := ref8_spec p (by omega) fun c h => Nat.le_trans (hk c h).items (by decide)
  have hsm := same8_spec p (by omega) hk
  rw [b3] at hbs
  dsimp only at hbs
  generalize hs : Crc.sealed (rawP p) = s at *
  have hps := parse8_spec s (by omega)
  rw [hpp] at hps
  dsimp only at hps
  refine ⟨_, hbs, ?_⟩
  rintro q rfl
  conv => whnf
  refine ⟨_, hps, ?_⟩
  rintro q rfl
  conv => whnf
  refine ⟨_, hf, ?_⟩
  conv => whnf
  refine ⟨_, hf, ?_⟩
  conv => whnf
  refine ⟨_, hsm, ?_⟩
  conv => whnf
  rw [show decide ((1500 : Int) < (s.length : Int)) = false from decide_eq_false (by omega)]
  conv => whnf
  refine ⟨_, hR, ?_⟩
  conv => whnf
  refine ⟨by kernel_rfl, ?_⟩
  conv => whnf
  by_cases h0 : 0 ≤ at_
  rotate_left
  · rw [show decide ((0 : Int) ≤ at_) = false from decide_eq_false h0]
    conv => whnf
    refine ⟨_, hpt, ?_⟩
    rintro q rfl
    conv => whnf
    by_cases hx0 : (parseP t).2 = 0
    · rw [show ((parseP t).2 != 0) = false from by rw [hx0]; rfl]
      obtain ⟨r1, r2, r3⟩ := parseP_ok hx0
      have hbb := buildP_right r1
      have hpp := parse_build r2 r1
      obtain ⟨g1, g2, _, _⟩ := buildP_ok (p := (parseP t).1) (by rw [hbb])
      have hrl := raw_len _ ((okPk_iff _).1 g1).mem
      have hsl := sealed_length (l := rawP (parseP t).1) (by rw [hrl]; unfold lenP; omega)
      have hpu := parse8_spec (Crc.sealed (rawP (parseP t).1)) (by omega)
      rw [hpp] at hpu
      rw [hbb] at hbx
      dsimp only at hpu hbx
      conv => whnf
      refine ⟨_, hbx, ?_⟩
      rintro q rfl
      conv => whnf
      refine ⟨_, hpu, ?_⟩
      rintro q rfl
      conv => whnf
      refine ⟨_, hfx, ?_⟩
      conv => whnf
      refine ⟨_, hfx, ?_⟩
      conv => whnf
      refine ⟨_, hsx, ?_⟩
      conv => whnf
      refine ⟨by kernel_rfl, ?_⟩
      conv => whnf
      exact ⟨_, .refl _, rfl, rfl⟩
    · rw [show ((parseP t).2 != 0) = true from bne_iff_ne.2 hx0]
      have hxn := parseP_bad hx0
      rw [hxn] at hRx ⊢
      rw [nil_right] at hRx
      conv => whnf
      refine ⟨_, hRx, ?_⟩
      rintro q rfl
      conv => whnf
      exact ⟨_, .refl _, rfl, rfl⟩
  rw [show decide ((0 : Int) ≤ at_) = true from decide_eq_true h0]
  conv => whnf
  by_cases h1 : at_ < (s.length : Int)
  rotate_left
  · rw [show decide (at_ < (s.length : Int)) = false from decide_eq_false h1]
    conv => whnf
    refine ⟨_, hpt, ?_⟩
    rintro q rfl
    conv => whnf
    by_cases hx0 : (parseP t).2 = 0
    · rw [show ((parseP t).2 != 0) = false from by rw [hx0]; rfl]
      obtain ⟨r1, r2, r3⟩ := parseP_ok hx0
      have hbb := buildP_right r1
      have hpp := parse_build r2 r1
      obtain ⟨g1, g2, _, _⟩ := buildP_ok (p := (parseP t).1) (by rw [hbb])
      have hrl := raw_len _ ((okPk_iff _).1 g1).mem
      have hsl := sealed_length (l := rawP (parseP t).1) (by rw [hrl]; unfold lenP; omega)
      have hpu := parse8_spec (Crc.sealed (rawP (parseP t).1)) (by omega)
      rw [hpp] at hpu
      rw [hbb] at hbx
      dsimp only at hpu hbx
      conv => whnf
      refine ⟨_, hbx, ?_⟩
      rintro q rfl
      conv => whnf
      refine ⟨_, hpu, ?_⟩
      rintro q rfl
      conv => whnf
      refine ⟨_, hfx, ?_⟩
      conv => whnf
      refine ⟨_, hfx, ?_⟩
      conv => whnf
      refine ⟨_, hsx, ?_⟩
      conv => whnf
      refine ⟨by kernel_rfl, ?_⟩
      conv => whnf
      exact ⟨_, .refl _, rfl, rfl⟩
    · rw [show ((parseP t).2 != 0) = true from bne_iff_ne.2 hx0]
      have hxn := parseP_bad hx0
      rw [hxn] at hRx ⊢
      rw [nil_right] at hRx
      conv => whnf
      refine ⟨_, hRx, ?_⟩
      rintro q rfl
      conv => whnf
      exact ⟨_, .refl _, rfl, rfl⟩
  rw [show decide (at_ < (s.length : Int)) = true from decide_eq_true h1]
  conv => whnf
  by_cases hx : x = 0
  · rw [show (((x.toNat : Nat) : Int) != 0) = false from by rw [hx]; rfl]
    conv => whnf
    refine ⟨_, hpt, ?_⟩
    rintro q rfl
    conv => whnf
    by_cases hx0 : (parseP t).2 = 0
    · rw [show ((parseP t).2 != 0) = false from by rw [hx0]; rfl]
      obtain ⟨r1, r2, r3⟩ := parseP_ok hx0
      have hbb := buildP_right r1
      have hpp := parse_build r2 r1
      obtain ⟨g1, g2, _, _⟩ := buildP_ok (p := (parseP t).1) (by rw [hbb])
      have hrl := raw_len _ ((okPk_iff _).1 g1).mem
      have hsl := sealed_length (l := rawP (parseP t).1) (by rw [hrl]; unfold lenP; omega)
      have hpu := parse8_spec (Crc.sealed (rawP (parseP t).1)) (by omega)
      rw [hpp] at hpu
      rw [hbb] at hbx
      dsimp only at hpu hbx
      conv => whnf
      refine ⟨_, hbx, ?_⟩
      rintro q rfl
      conv => whnf
      refine ⟨_, hpu, ?_⟩
      rintro q rfl
      conv => whnf
      refine ⟨_, hfx, ?_⟩
      conv => whnf
      refine ⟨_, hfx, ?_⟩
      conv => whnf
      refine ⟨_, hsx, ?_⟩
      conv => whnf
      refine ⟨by kernel_rfl, ?_⟩
      conv => whnf
      exact ⟨_, .refl _, rfl, rfl⟩
    · rw [show ((parseP t).2 != 0) = true from bne_iff_ne.2 hx0]
      have hxn := parseP_bad hx0
      rw [hxn] at hRx ⊢
      rw [nil_right] at hRx
      conv => whnf
      refine ⟨_, hRx, ?_⟩
      rintro q rfl
      conv => whnf
      exact ⟨_, .refl _, rfl, rfl⟩
  have hxn : x.toNat ≠ 0 := fun h => hx (by
    have := UInt8.ofNat_toNat (x := x)
    rw [h] at this
    exact this.symm)
  rw [show (((x.toNat : Nat) : Int) != 0) = true from bne_iff_ne.2 (by omega)]
  obtain ⟨k, rfl⟩ : ∃ k : Nat, at_ = (k : Int) := ⟨at_.toNat, by omega⟩
  have hkl : k < s.length := by omega
  have hpt2 := parse8_spec (s.set k (s.getD k 0 ^^^ x)) (by rw [List.length_set]; omega)
  rw [parse_turned (by omega) (by omega) hss hkl hx] at hpt2
  dsimp only at hpt2
  conv => whnf
  refine ⟨by first | omega | (simp only [Int.toNat_natCast]; omega) | (simp; done) | (simp; omega), ?_⟩
  conv => whnf
  refine ⟨by first | omega | (simp only [Int.toNat_natCast]; omega) | (simp; done) | (simp; omega), ?_⟩
  conv => whnf
  refine ⟨by first | omega | (simp only [Int.toNat_natCast]; omega) | (simp; done) | (simp; omega), ?_⟩
  conv => whnf
  refine ⟨by first | omega | (simp only [Int.toNat_natCast]; omega) | (simp; done) | (simp; omega), ?_⟩
  conv => whnf
  have e0 : 0 + ((k : Int)).toNat = k := by omega
  rw [e0, xor8b]
  refine ⟨by first | omega | (simp only [Int.toNat_natCast]; omega) | (simp; done) | (simp; omega), ?_⟩
  conv => whnf
  refine ⟨s.set k (s.getD k 0 ^^^ x), ⟨by rw [List.length_set], by omega, fun j _ => ?_⟩, ?_⟩
  · rw [Nat.zero_add]
    exact bytes_set _ _ _ hkl _
  conv => whnf
  refine ⟨_, hpt2, ?_⟩
  rintro q rfl
  conv => whnf
  refine ⟨_, hpt, ?_⟩
  rintro q rfl
  conv => whnf
  by_cases hx0 : (parseP t).2 = 0
  · rw [show ((parseP t).2 != 0) = false from by rw [hx0]; rfl]
    obtain ⟨r1, r2, r3⟩ := parseP_ok hx0
    have hbb := buildP_right r1
    have hpp := parse_build r2 r1
    obtain ⟨g1, g2, _, _⟩ := buildP_ok (p := (parseP t).1) (by rw [hbb])
    have hrl := raw_len _ ((okPk_iff _).1 g1).mem
    have hsl := sealed_length (l := rawP (parseP t).1) (by rw [hrl]; unfold lenP; omega)
    have hpu := parse8_spec (Crc.sealed (rawP (parseP t).1)) (by omega)
    rw [hpp] at hpu
    rw [hbb] at hbx
    dsimp only at hpu hbx
    conv => whnf
    refine ⟨_, hbx, ?_⟩
    rintro q rfl
    conv => whnf
    refine ⟨_, hpu, ?_⟩
    rintro q rfl
    conv => whnf
    refine ⟨_, hfx, ?_⟩
    conv => whnf
    refine ⟨_, hfx, ?_⟩
    conv => whnf
    refine ⟨_, hsx, ?_⟩
    conv => whnf
    refine ⟨by kernel_rfl, ?_⟩
    conv => whnf
    exact ⟨_, .refl _, rfl, rfl⟩
  · rw [show ((parseP t).2 != 0) = true from bne_iff_ne.2 hx0]
    have hxn := parseP_bad hx0
    rw [hxn] at hRx ⊢
    rw [nil_right] at hRx
    conv => whnf
    refine ⟨_, hRx, ?_⟩
    rintro q rfl
    conv => whnf
    exact ⟨_, .refl _, rfl, rfl⟩
theorem wt_pk {n : Nat} {l : List D} (h : wt tys (n + 6) 30 l) : ∃ p : Pk, DLeL l (encP p) ∧ in16 p.from_ ∧ in16 p.to_ ∧ in32 p.tag ∧ ∀ c ∈ p.chunks, ChR c := by
  obtain ⟨h0, h1, h2, h3, h4, _⟩ := h
  match l, h0 with
  | [a1, a2, a3, a4], _ =>
    obtain ⟨x1, rfl, k1⟩ := wt_u16 h1
    obtain ⟨x2, rfl, k2⟩ := wt_u16 h2
    obtain ⟨x3, rfl, k3⟩ := wt_u32 h3
    obtain ⟨x4, _, e4, g4⟩ := wt_chunks h4
    exact ⟨⟨x1, x2, x3, x4⟩, ⟨.refl _, .refl _, .refl _, e4, trivial⟩, k1, k2, k3, g4⟩
theorem wt_packet {n : Nat} {l : List D} (h : wt tys (n + 6) 30 l) : ∃ p : Pk, (asV true l).le (pA p) ∧ in16 p.from_ ∧ in16 p.to_ ∧ in32 p.tag ∧ ∀ c ∈ p.chunks, ChR c := by
  obtain ⟨p, h1, h2⟩ := wt_pk h
  exact ⟨p, .agg h1.agg, h2⟩
theorem wt_u8 {n : Nat} {a : D} (h : wt tys (n + 1) 5 [a]) : ∃ x : UInt8, a = .i .u8 (x.toNat : Nat) := by
  obtain ⟨x, hx, hw⟩ := h
  have := bounds_u8 hw
  refine ⟨UInt8.ofNat x.toNat, ?_⟩
  have e : (UInt8.ofNat x.toNat).toNat = x.toNat := by rw [UInt8.toNat_ofNat']; omega
  rw [e, Int.toNat_of_nonneg (by omega)]
  simpa using hx
theorem packetBack_of {l0 l1 l2 l3 : List D} (h0 : wt tys 8 30 l0) (h1 : wt tys 8 3 l1) (h2 : wt tys 8 5 l2) (h3 : wt tys 8 9 l3) : PSpec Tryd.prog 4 [asV true l0, asV false l1, asV false l2, asV false l3] (· = tvb true) := by
  obtain ⟨p, g1, g2⟩ := wt_packet (n := 2) h0
  obtain ⟨d1, rfl⟩ : ∃ d, l1 = [d] := by obtain ⟨x, hx, _⟩ := h1; exact ⟨_, hx⟩
  obtain ⟨d2, rfl⟩ : ∃ d, l2 = [d] := by obtain ⟨x, hx, _⟩ := h2; exact ⟨_, hx⟩
  obtain ⟨d3, rfl⟩ : ∃ d, l3 = [d] := by obtain ⟨x, hx, _⟩ := h3; exact ⟨_, hx⟩
  obtain ⟨x1, rfl, _⟩ := wt_int (n := 7) h1
  obtain ⟨x2, rfl⟩ := wt_u8 (n := 7) h2
  obtain ⟨x3, rfl, _⟩ := wt_str (n := 7) h3
  exact (back8_spec p g2 x1 x2 x3).argsC ⟨g1, .refl _, .refl _, .refl _, trivial⟩
end Go.Proofs.YtcdondbegnbdgaaDoor
