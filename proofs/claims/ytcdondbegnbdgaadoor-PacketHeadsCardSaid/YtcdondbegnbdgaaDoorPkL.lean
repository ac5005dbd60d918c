/- Chapter 8: PacketHeads: contract. -/
import Derived.Test.YtcdondbegnbdgaaDoorPkJ
namespace Go.Proofs.YtcdondbegnbdgaaDoor
open Go Go.RowKit Towline Towline.Tlv Towline.Chunk Towline.Packet Towline.Crc
set_option linter.unusedVariables false
set_option linter.unusedSimpArgs false
set_option maxRecDepth 20000
set_option maxHeartbeats 1000000
theorem wrap32n (n : Nat) (h : n < 4294967296) : IntKind.u32.wrap (n : Int) = n := by
  simp [IntKind.wrap, IntKind.signed, IntKind.bits]; omega
theorem or_add32 (q b k : Nat) (hb : b < 2 ^ k) (h : q * 2 ^ k + b < 4294967296) : bitsOp .or .u32 ((q * 2 ^ k : Nat) : Int) (b : Int) = ((q * 2 ^ k + b : Nat) : Int) := by
  unfold bitsOp
  simp only
  have h1 : (BitVec.ofInt IntKind.u32.bits ((q * 2 ^ k : Nat) : Int) ||| BitVec.ofInt IntKind.u32.bits (b : Int)).toNat = q * 2 ^ k + b := by
    rw [BitVec.toNat_or, BitVec.toNat_ofInt, BitVec.toNat_ofInt]
    have e4 : ((2 ^ IntKind.u32.bits : Nat) : Int) = 4294967296 := by decide
    rw [e4]
    have e5 : (((q * 2 ^ k : Nat) : Int) % 4294967296).toNat = q * 2 ^ k := by
      generalize q * 2 ^ k = m at *
      omega
    have e6 : ((b : Int) % 4294967296).toNat = b := by
      generalize q * 2 ^ k = m at *
      omega
    rw [e5, e6]
    have := Nat.shiftLeft_add_eq_or_of_lt (i := k) hb q
    rw [Nat.shiftLeft_eq] at this
    exact this.symm
  rw [h1]
  exact wrap32n _ h
theorem shl32 (a : UInt8) (k : Nat) (hk : k ≤ 24) : shlOp .u32 (IntKind.u32.wrap (a.toNat : Int)) (k : Int) = ((a.toNat * 2 ^ k : Nat) : Int) := by
  have ha := UInt8.toNat_lt a
  have h2 : a.toNat * 2 ^ k < 4294967296 := by
    have h3 : 2 ^ k ≤ 2 ^ 24 := Nat.pow_le_pow_right (by decide) hk
    have h4 : a.toNat * 2 ^ k ≤ 255 * 2 ^ 24 := Nat.mul_le_mul (by omega) h3
    omega
  rw [wrap32n _ (by omega)]
  show IntKind.u32.wrap ((a.toNat : Int) * 2 ^ min (Int.toNat k) IntKind.u32.bits) = _
  rw [show min (Int.toNat k) IntKind.u32.bits = k from by simp [IntKind.bits]; omega]
  rw [show ((a.toNat : Int) * 2 ^ k) = ((a.toNat * 2 ^ k : Nat) : Int) from by simp, wrap32n _ h2]
theorem or4u (a b c d : UInt8) : bitsOp .or .u32 (bitsOp .or .u32 (bitsOp .or .u32 (shlOp .u32 (IntKind.u32.wrap (a.toNat : Int)) 24) (shlOp .u32 (IntKind.u32.wrap (b.toNat : Int)) 16)) (shlOp .u32 (IntKind.u32.wrap (c.toNat : Int)) 8)) (IntKind.u32.wrap (d.toNat : Int)) = ((beN [a, b, c, d] : Nat) : Int) := by
  have ha := UInt8.toNat_lt a
  have hb := UInt8.toNat_lt b
  have hc := UInt8.toNat_lt c
  have hd := UInt8.toNat_lt d
  rw [show (24 : Int) = ((24 : Nat) : Int) from rfl, show (16 : Int) = ((16 : Nat) : Int) from rfl, show (8 : Int) = ((8 : Nat) : Int) from rfl, shl32 a 24 (by decide), shl32 b 16 (by decide), shl32 c 8 (by decide), wrap32n d.toNat (by omega)]
  rw [or_add32 a.toNat (b.toNat * 2 ^ 16) 24 (by omega) (by omega)]
  rw [show a.toNat * 2 ^ 24 + b.toNat * 2 ^ 16 = (a.toNat * 256 + b.toNat) * 2 ^ 16 from by omega, or_add32 _ (c.toNat * 2 ^ 8) 16 (by omega) (by omega)]
  rw [show (a.toNat * 256 + b.toNat) * 2 ^ 16 + c.toNat * 2 ^ 8 = ((a.toNat * 256 + b.toNat) * 256 + c.toNat) * 2 ^ 8 from by omega, or_add32 _ d.toNat 8 (by omega) (by omega)]
  simp only [beN, List.foldl_cons, List.foldl_nil]
  omega
theorem getD8 (s : List UInt8) (i : Nat) (h : i < 8) : s.getD i 0 = (s.take 8).getD i 0 := by
  rw [List.getD_eq_getElem?_getD, List.getD_eq_getElem?_getD, List.getElem?_take_of_lt h]
/-- A packet with fewer chunks is right too, if it has any. -/
theorem PkOk.less {p : Pk} (h : PkOk p) (n : Nat) (h0 : 0 < n) (hn : n ≤ p.chunks.length) : PkOk { p with chunks := p.chunks.take n } := by
  have hl : (p.chunks.take n).length = n := by rw [List.length_take]; omega
  have hg : ∀ i, i < n → (p.chunks.take n).getD i default = p.chunks.getD i default := fun i hi => getD_take _ hi
  have hm := h.many
  refine ⟨h.from_, h.to_, by show 0 < (p.chunks.take n).length; omega, by show (p.chunks.take n).length ≤ 50; omega, ?_, fun i hi => ?_, fun h1 i hi => ?_, fun i j h1 h2 h3 => ?_⟩
  · show (p.tag == 0) = (((p.chunks.take n).getD 0 default).ty == 1)
    rw [hg 0 h0]; exact h.tag
  · have hi : i < (p.chunks.take n).length := hi
    show (buildC ((p.chunks.take n).getD i default)).2 = 0
    rw [hg i (by omega)]; exact h.right i (by omega)
  · have hi : i < (p.chunks.take n).length := hi
    have h1 : 1 < (p.chunks.take n).length := h1
    show aloneB ((p.chunks.take n).getD i default).ty = false
    rw [hg i (by omega)]; exact h.alone (by omega) i (by omega)
  · have h2 : j < (p.chunks.take n).length := h2
    have h3 : ((p.chunks.take n).getD i default).ty = 0 := h3
    show ((p.chunks.take n).getD j default).ty = 0
    rw [hg i (by omega)] at h3
    rw [hg j (by omega)]
    exact h.data i j h1 (by omega) h3
theorem heads8_spec (p : Pk) (hr : in16 p.from_ ∧ in16 p.to_ ∧ in32 p.tag ∧ ∀ c ∈ p.chunks, ChR c) : PSpec Tryd.prog 5 [pA p] (· = tvb true) := by
  refine PSpec.run (tysOk) followsB Tryd.func5 (by decide) rfl Tryd.ntmps5 (Nat.le_of_ble_eq_true rfl) rfl fun w0 R0 => ?_
  conv => whnf
  refine ⟨_, shown8_spec, ?_⟩
  rintro q rfl
  conv => whnf
  refine ⟨_, small8_spec p.chunks, ?_⟩
  rintro q ⟨b, rfl, hb⟩
  cases b
  · conv => whnf
    exact ⟨_, .refl _, rfl, rfl⟩
  obtain ⟨hl, hc⟩ := hb rfl
  have hk : ∀ c ∈ p.chunks, ChOk c := fun c h => ChOk.ofL (hr.2.2.2 c h) (hc c h)
  have hbs := build8_spec p hk (by omega)
  conv => whnf
  by_cases he : (buildP p).2 = 0
  rotate_left
  · refine ⟨_, hbs, ?_⟩
    rintro q rfl
    conv => whnf
    rw [show ((buildP p).2 != 0) = true from bne_iff_ne.2 he]
    conv => whnf
    exact ⟨_, .refl _, rfl, rfl⟩
  obtain ⟨b1, b2, b3, b4⟩ := buildP_ok he
  have hok := (okPk_iff p).1 b1
  have hm := hok.mem
  have hpos := hok.pos
  have hrl := raw_len p hm
  have h12 : 12 ≤ (rawP p).length := by rw [hrl]; unfold lenP; omega
  have hsl := sealed_length h12
  obtain ⟨e1, e2⟩ := sealed_head p hm
  rw [b3] at hbs
  dsimp only at hbs
  generalize hs : Crc.sealed (rawP p) = s at *
  have g : ∀ i, i < 8 → s.getD i 0 = (be2 p.from_ ++ be2 p.to_ ++ be4 p.tag).getD i 0 := fun i hi => by rw [getD8 s i hi, e1]
  have q0 := UInt8.toNat_lt (s.getD (Int.toNat 0) 0)
  have q1 := UInt8.toNat_lt (s.getD (Int.toNat 1) 0)
  have q2 := UInt8.toNat_lt (s.getD (Int.toNat 2) 0)
  have q3 := UInt8.toNat_lt (s.getD (Int.toNat 3) 0)
  have hf := hr.1
  have ht := hr.2.1
  unfold in16 at hf ht
  have p1 : (((s.getD (Int.toNat 0) 0).toNat : Nat) : Int) * 256 + (((s.getD (Int.toNat 1) 0).toNat : Nat) : Int) = p.from_ := by
    have := u8_two p.from_ (by omega) (by omega)
    rw [show s.getD (Int.toNat 0) 0 = u8 (p.from_.fdiv 256) from g 0 (by decide), show s.getD (Int.toNat 1) 0 = u8 p.from_ from g 1 (by decide)]
    omega
  have p2 : (((s.getD (Int.toNat 2) 0).toNat : Nat) : Int) * 256 + (((s.getD (Int.toNat 3) 0).toNat : Nat) : Int) = p.to_ := by
    have := u8_two p.to_ (by omega) (by omega)
    rw [show s.getD (Int.toNat 2) 0 = u8 (p.to_.fdiv 256) from g 2 (by decide), show s.getD (Int.toNat 3) 0 = u8 p.to_ from g 3 (by decide)]
    omega
  have p3 := or4u (s.getD (Int.toNat 4) 0) (s.getD (Int.toNat 5) 0) (s.getD (Int.toNat 6) 0) (s.getD (Int.toNat 7) 0)
  rw [show [s.getD (Int.toNat 4) 0, s.getD (Int.toNat 5) 0, s.getD (Int.toNat 6) 0, s.getD (Int.toNat 7) 0] = be4 p.tag from by
    rw [show s.getD (Int.toNat 4) 0 = u8 (p.tag.fdiv 16777216) from g 4 (by decide), show s.getD (Int.toNat 5) 0 = u8 (p.tag.fdiv 65536) from g 5 (by decide), show s.getD (Int.toNat 6) 0 = u8 (p.tag.fdiv 256) from g 6 (by decide), show s.getD (Int.toNat 7) 0 = u8 p.tag from g 7 (by decide)]
    rfl, beN_be4 hr.2.2.1] at p3
  refine ⟨_, hbs, ?_⟩
  rintro q rfl
  conv => whnf
  repeat (refine ⟨by first | decide | omega, ?_⟩; conv => whnf)
  rw [p1, beq_self_eq_true]
  conv => whnf
  repeat (refine ⟨by first | decide | omega, ?_⟩; conv => whnf)
  rw [p2, beq_self_eq_true]
  conv => whnf
  refine ⟨by kernel_rfl, ?_⟩
  conv => whnf
  repeat (refine ⟨by first | decide | omega, ?_⟩; conv => whnf)
  refine ⟨by kernel_rfl, ?_⟩
  conv => whnf
  repeat (refine ⟨by first | decide | omega, ?_⟩; conv => whnf)
  have hck := check_spec s (by omega)
  have hcz : checkL s = 0 := by
    unfold checkL
    rw [if_neg (by omega), if_pos (by rw [← hs]; exact sealed_sealed h12)]
  rw [hcz] at hck
  obtain ⟨n, hn⟩ : ∃ n, n = p.chunks.length - 1 := ⟨_, rfl⟩
  have hni : Int.toNat ((p.chunks.length : Int) - 1) = n := by omega
  have hln : (p.chunks.take n).length = n := by rw [List.length_take]; omega
  have hqk : ∀ c ∈ p.chunks.take n, ChOk c := fun c h => hk c (List.mem_of_mem_take h)
  have hbq := build8_spec { p with chunks := p.chunks.take n } hqk (by show (p.chunks.take n).length ≤ _; omega)
  rcases Nat.eq_zero_or_pos n with h0 | h0
  · have hno : okPk { p with chunks := p.chunks.take n } = false := by
      cases ho : okPk { p with chunks := p.chunks.take n } with
      | false => rfl
      | true =>
        have h1 : 0 < (p.chunks.take n).length := ((okPk_iff _).1 ho).pos
        omega
    have hbb : buildP { p with chunks := p.chunks.take n } = ([], 1) := by unfold buildP; rw [if_neg (by rw [hno]; simp)]
    rw [hbb] at hbq
    dsimp only at hbq
    refine ⟨_, hbq.argsC ⟨.agg ⟨.refl _, .refl _, .refl _, .sl (hni.trans hln.symm) fun j hj => ?_, trivial⟩, trivial⟩, ?_⟩
    · rw [hni] at hj
      show encCh _ = encCh _
      rw [getD_take _ hj]
    rintro q rfl
    conv => whnf
    refine ⟨by kernel_rfl, ?_⟩
    conv => whnf
    rw [p3, beq_self_eq_true]
    conv => whnf
    refine ⟨_, hck, ?_⟩
    rintro q rfl
    conv => whnf
    repeat (refine ⟨by first | decide | omega, ?_⟩; conv => whnf)
    rw [show decide ((0 : Int) < (p.chunks.length : Int) - 1) = false from decide_eq_false (by omega)]
    exact ⟨_, .refl _, rfl, rfl⟩
  · have hokq := hok.less n h0 (by omega)
    have hsum : allSz p.chunks = allSz (p.chunks.take n) + sizeC (p.chunks.getD n default) := by
      have := all_take p.chunks n (by omega)
      rw [show n + 1 = p.chunks.length from by omega, List.take_length] at this
      exact this
    have hlq : lenP { p with chunks := p.chunks.take n } = 12 + allSz (p.chunks.take n) := rfl
    have hlp : lenP p = 12 + allSz p.chunks := rfl
    have hbb : buildP { p with chunks := p.chunks.take n } = (Crc.sealed (rawP { p with chunks := p.chunks.take n }), 0) := by
      unfold buildP
      rw [if_pos ((okPk_iff _).2 hokq), if_neg (by omega)]
    have hrq := raw_len _ hokq.mem
    have hsq := sealed_length (l := rawP { p with chunks := p.chunks.take n }) (by omega)
    obtain ⟨f1, f2⟩ := sealed_head _ hokq.mem
    rw [hbb] at hbq
    generalize Crc.sealed (rawP { p with chunks := p.chunks.take n }) = t at *
    have htl : t.length = lenP { p with chunks := p.chunks.take n } := by omega
    have hokn := mem_getD hk (show n < p.chunks.length from by omega)
    have hcb : chunksB p.chunks = chunksB (p.chunks.take n) ++ chunksB (p.chunks.drop n) := by
      unfold chunksB
      rw [← List.flatMap_append, List.take_append_drop]
    have hcl : (chunksB (p.chunks.take n)).length = allSz (p.chunks.take n) := sum_len _ hokq.mem
    have hcut : cutS t (some 12) none = cutS s (some 12) (some (t.length : Int)) := by
      show t.drop 12 = (s.take t.length).drop 12
      rw [List.drop_take, e2, hcb, htl, hlq]
      rw [show 12 + allSz (p.chunks.take n) - 12 = (chunksB (p.chunks.take n)).length from by omega, List.take_left]
      exact f2
    have hsz := size_spec (p.chunks.getD (Int.toNat ((p.chunks.length : Int) - 1)) default) (by rw [hni]; exact hokn)
    rw [hni] at hsz
    dsimp only at hbq
    refine ⟨_, hbq.argsC ⟨.agg ⟨.refl _, .refl _, .refl _, .sl (hni.trans hln.symm) fun j hj => ?_, trivial⟩, trivial⟩, ?_⟩
    · rw [hni] at hj
      show encCh _ = encCh _
      rw [getD_take _ hj]
    rintro q rfl
    conv => whnf
    repeat (refine ⟨by first | decide | omega, ?_⟩; conv => whnf)
    rw [hni]
    have hz2 : (buildC (p.chunks.getD n default)).1.length ≤ 1400 := sizeC_le (p.chunks.getD n default)
    refine ⟨_, hsz, ?_⟩
    conv => whnf
    repeat (refine ⟨by first | decide | omega, ?_⟩; conv => whnf)
    rw [show ((t.length : Int) != (s.length : Int) - ((buildC (p.chunks.getD n default)).1.length : Int)) = false from by
      have hz : sizeC (p.chunks.getD n default) = (buildC (p.chunks.getD n default)).1.length := rfl
      rw [show (t.length : Int) = (s.length : Int) - ((buildC (p.chunks.getD n default)).1.length : Int) from by omega]
      exact bne_self_eq_false _]
    conv => whnf
    repeat (refine ⟨by first | decide | omega, ?_⟩; conv => whnf)
    rw [hcut, bne_self_eq_false]
    conv => whnf
    refine ⟨by kernel_rfl, ?_⟩
    conv => whnf
    rw [p3, beq_self_eq_true]
    conv => whnf
    refine ⟨_, hck, ?_⟩
    rintro q rfl
    conv => whnf
    repeat (refine ⟨by first | decide | omega, ?_⟩; conv => whnf)
    rw [show decide ((0 : Int) < (p.chunks.length : Int) - 1) = true from decide_eq_true (by omega)]
    exact ⟨_, .refl _, rfl, rfl⟩
end Go.Proofs.YtcdondbegnbdgaaDoor
