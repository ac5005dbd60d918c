/- Chapter 7: the value of a chunk: its bytes. -/
import Derived.Test.YtbghocipmlobnaaGreatChB
namespace Towline.Tlv
/-- How long the last item's value is. -/
def lastN (l : List It) : Nat := (l.getD (l.length - 1) default).v.length
/-- The bytes of items, without the noughts behind the last one. -/
def cutB (l : List It) : List UInt8 := (bytes l).take ((bytes l).length - padN (lastN l))
theorem ok_bytes {l : List It} (h : (buildL l).2 = 0) : buildL l = (bytes l, 0) ∧ (bytes l).length ≤ 4000 ∧ ∀ j, (l.getD j default).v.length ≤ 1400 := by
  unfold buildL at h ⊢
  split
  · rename_i h1
    rw [if_pos h1] at h
    cases h
  · rename_i h1
    rw [if_neg h1] at h
    split
    · rename_i h2
      rw [if_pos h2] at h
      cases h
    · rename_i h2
      rw [if_neg h2] at h
      split
      · rename_i h3
        rw [if_pos h3] at h
        cases h
      · rename_i h3
        refine ⟨rfl, by omega, fun j => ?_⟩
        by_cases hj : j < l.length
        · have hx : ¬ longV (l.getD j default) = true := fun hx => h2 (any_true hj hx)
          unfold longV at hx
          simpa using hx
        · rw [List.getD_eq_getElem?_getD, List.getElem?_eq_none (by omega)]
          decide
theorem bytes_ge {l : List It} (h : 0 < l.length) : 4 ≤ (bytes l).length := by
  match l, h with
  | x :: r, _ =>
    show 4 ≤ (List.flatMap enc (x :: r)).length
    rw [List.flatMap_cons]
    simp only [enc, hdr, List.length_append, List.length_cons]
    omega
theorem cut_eq {l : List It} (h : 0 < l.length) : cutS (bytes l) none (some ((bytes l).length - padN (lastN l))) = cutB l := by
  have h1 := bytes_ge h
  have h2 : padN (lastN l) < 4 := Nat.mod_lt _ (by decide)
  unfold cutB
  simp only [cutS]
  rw [show (((bytes l).length : Int) - padN (lastN l)).toNat = (bytes l).length - padN (lastN l) from by omega]
theorem cut_len (l : List It) : (cutB l).length ≤ (bytes l).length := by
  unfold cutB
  rw [List.length_take]
  omega
theorem pad_lt (n : Nat) : padN n < 4 := Nat.mod_lt _ (by decide)
end Towline.Tlv
namespace Go.Proofs.YtbghocipmlobnaaGreat
open Go Go.RowKit Towline Towline.Tlv Towline.Chunk
set_option linter.unusedVariables false
set_option linter.unusedSimpArgs false
set_option maxRecDepth 20000
set_option maxHeartbeats 4000000
abbrev valT : Tys := tysX false [] [(154, [false, true]), (155, [false, true]), (156, [])] []
abbrev valTOk : TysOk Tryz.prog valT := tysXOk _ _ _ _
theorem largsC {P : Program} {f : FuncId} {args args' : List AVal} {hl : Heap} {post : AVal → Heap → Prop} (h : LSpec P f args hl post) (hc : OLe.CLe args' args) : LSpec P f args' hl post := by
  obtain ⟨h1, h2⟩ := CLe_get hc
  refine ⟨h.1, fun w R L vs k0 k1 k2 k3 k4 k5 k6 k7 => h.2 w R L vs k0 k1 (k2.trans h1.symm) k3 (fun i x hx => ?_) k5 k6 k7⟩
  obtain ⟨y, hy, hle⟩ := h2 i x hx
  exact hle.out _ _ _ _ (k4 i y hy)
theorem sl_le {α} [Inhabited α] {k : Nat} {enc : α → List D} {l : List α} {n : Nat} {f : Nat → List D} (h : n = l.length) (hf : ∀ j, j < n → f j = enc (l.getD j default)) : (AVal.d (.sl k n f)).le (.d (slT k enc l)) := .sl h hf
theorem rows32_0 (s : List UInt8) (f : Nat → List D) : LSpec Tryz.prog 154 [.rsl E0 1 0 s.length, .d (.sl 1 0 f)] [(E0, rowB s)] (fun r hl => r = .rsl E0 1 0 s.length ∧ hl = [(E0, rowB s)]) := by
  refine LSpec.run (tysXOk false [] [(156, [])] []) followsB Tryz.func154 (by decide) rfl Tryz.ntmps154 (Nat.le_of_ble_eq_true rfl) rfl rfl fun w0 R0 Lo hGw => ?_
  conv => whnf
  refine ALoop.introR (tysXOk false [] [(156, [])] []) followsB (fun k : Unit => ([(0, .rsl E0 1 0 s.length), (8, tvi 0), (9, tvi 0)], [(E0, rowB s)])) (fun k => 0) () ⟨.refl _, .refl _, .refl _, .refl _, trivial⟩ ?_
  intro _
  dsimp only
  conv => whnf
  refine ⟨_, _, .refl _, ?_, rfl, rfl⟩
  exact ⟨OLe.refl _, trivial⟩
theorem rows32_1 (s : List UInt8) (x : Int) {f : Nat → List D} (hf : f 0 = [.i .u32 x]) (hs : s.length ≤ 2 ^ 39) : LSpec Tryz.prog 154 [.rsl E0 1 0 s.length, .d (.sl 1 1 f)] [(E0, rowB s)] (fun r hl => r = .rsl 1000 1 0 (s ++ be4 x).length ∧ hl = [(1000, rowB (s ++ be4 x))]) := by
  have h := rows32_spec s [x] hs (by simp) (by simp)
  rw [show [x].flatMap be4 = be4 x from rfl] at h
  exact largsC h ⟨.refl _, sl_le rfl (fun j hj => by obtain rfl : j = 0 := by omega
                                                     exact hf), trivial⟩
theorem rows32_2 (s : List UInt8) (x y : Int) {f : Nat → List D} (hf : f 0 = [.i .u32 x]) (hf1 : f 1 = [.i .u32 y]) (hs : s.length ≤ 2 ^ 39) : LSpec Tryz.prog 154 [.rsl E0 1 0 s.length, .d (.sl 1 2 f)] [(E0, rowB s)] (fun r hl => r = .rsl 1000 1 0 (s ++ (be4 x ++ be4 y)).length ∧ hl = [(1000, rowB (s ++ (be4 x ++ be4 y)))]) := by
  have h := rows32_spec s [x, y] hs (by simp) (by simp)
  rw [show [x, y].flatMap be4 = be4 x ++ be4 y from by simp] at h
  exact largsC h ⟨.refl _, sl_le rfl (fun j hj => by match j, hj with
                                                     | 0, _ => exact hf
                                                     | 1, _ => exact hf1), trivial⟩
theorem rows16_2 (s : List UInt8) (x y : Int) {f : Nat → List D} (hf : f 0 = [.i .u16 x]) (hf1 : f 1 = [.i .u16 y]) (hs : s.length ≤ 2 ^ 39) : LSpec Tryz.prog 155 [.rsl E0 1 0 s.length, .d (.sl 1 2 f)] [(E0, rowB s)] (fun r hl => r = .rsl 1000 1 0 (s ++ (be2 x ++ be2 y)).length ∧ hl = [(1000, rowB (s ++ (be2 x ++ be2 y)))]) := by
  have h := rows16_spec s [x, y] hs (by simp) (by simp)
  rw [show [x, y].flatMap be2 = be2 x ++ be2 y from by simp] at h
  exact largsC h ⟨.refl _, sl_le rfl (fun j hj => by match j, hj with
                                                     | 0, _ => exact hf
                                                     | 1, _ => exact hf1), trivial⟩
theorem wrap16 {n : Int} (h : 0 ≤ n ∧ n < 65536) : IntKind.u16.wrap n = n := by
  simp [IntKind.wrap, IntKind.signed, IntKind.bits]
  omega
def gapB (g : Int × Int) : List UInt8 := be2 g.1 ++ be2 g.2
def preB (s : List UInt8) (c : Ch) : List UInt8 :=
  if c.ty = 0 then s ++ be4 c.tsn ++ (be2 c.stream ++ be2 c.ssn) ++ be4 c.ppid
  else if c.ty = 1 ∨ c.ty = 2 then s ++ (be4 c.tag ++ be4 c.window) ++ (be2 c.outs ++ be2 c.ins) ++ be4 c.tsn
  else if c.ty = 3 then s ++ (be4 c.tsn ++ be4 c.window) ++ (be2 c.gaps.length ++ be2 c.dups.length) ++ c.gaps.flatMap gapB ++ c.dups.flatMap be4
  else if c.ty = 7 then s ++ be4 c.tsn
  else s
/-- A Sack's value, as far as its k-th gap. -/
def g3B (s : List UInt8) (c : Ch) (k : Nat) : List UInt8 := s ++ (be4 c.tsn ++ be4 c.window) ++ (be2 c.gaps.length ++ be2 c.dups.length) ++ (c.gaps.take k).flatMap gapB
theorem gapB_len (l : List (Int × Int)) : (l.flatMap gapB).length = 4 * l.length := by
  induction l with
  | nil => rfl
  | cons x r ih => rw [List.flatMap_cons, List.length_append, ih, show (gapB x).length = 4 from rfl, List.length_cons]; omega
theorem g3_len (s : List UInt8) (c : Ch) (k : Nat) : (g3B s c k).length ≤ s.length + 12 + 4 * c.gaps.length := by
  unfold g3B
  rw [List.length_append, gapB_len, List.length_take]
  simp [be4, be2]
  omega
theorem g3_step (s : List UInt8) (c : Ch) (k : Nat) (h : k < c.gaps.length) : g3B s c k ++ (be2 (c.gaps.getD k default).1 ++ be2 (c.gaps.getD k default).2) = g3B s c (k + 1) := by
  unfold g3B
  rw [List.take_add_one, List.flatMap_append, List.getD_eq_getElem?_getD, List.getElem?_eq_getElem h]
  simp [gapB]
def valB (s : List UInt8) (c : Ch) : List UInt8 := preB s c ++ cutB c.items ++ c.text
theorem row3 (p q t : List UInt8) : ∀ k, k < p.length + q.length + t.length → fcat (fcat (bytesF p) p.length (bytesF q)) (p.length + q.length) (bytesF t) k = bytesF (p ++ q ++ t) k := by
  intro k hk
  have h1 : ∀ j, j < p.length + q.length → fcat (bytesF p) p.length (bytesF q) j = bytesF (p ++ q) j := fun j hj => fcat_bytes p q j hj
  have e : p.length + q.length = (p ++ q).length := by simp
  rw [fcat_congr h1 (fun _ _ => rfl) k hk, e]
  exact fcat_bytes _ _ k (by rw [← e]; exact hk)
theorem row3_len (p q t : List UInt8) : p.length + q.length + t.length = (p ++ q ++ t).length := by simp; omega
theorem value_spec (s : List UInt8) (c : Ch) (hs : s.length ≤ 2 ^ 30) (hg : c.gaps.length ≤ 100) (hd : c.dups.length ≤ 100) (hi : c.items.length ≤ 2 ^ 20) (hb : (buildL c.items).2 = 0) (ht : c.text.length ≤ 2 ^ 30) :
    LSpec Tryz.prog 94 [.rsl E0 1 0 s.length, cA c] [(E0, rowB s)] (fun r hl => r = .rsl 119 1 0 (valB s c).length ∧ hl = [(119, rowB (valB s c))]) := by
  obtain ⟨hb1, hb2, hb3⟩ := ok_bytes hb
  have hB := build_spec c.items hi
  rw [hb1] at hB
  refine LSpec.run (valTOk) followsB Tryz.func94 (by decide) rfl Tryz.ntmps94 (Nat.le_of_ble_eq_true rfl) rfl rfl fun w0 R0 Lo hGw => ?_
  conv => whnf
  split <;> rename_i g0b
  · have g0 : c.ty = 0 := by simpa using g0b
    conv => whnf
    refine ⟨by first | omega | (simp only [Int.toNat_natCast]; omega) | (simp; done) | (simp; omega), ?_⟩
    conv => whnf
    refine ⟨_, _, rows32_1 _ c.tsn rfl (by omega), ?_⟩
    conv => whnf
    refine ⟨by first | omega | (simp only [Int.toNat_natCast]; omega) | (simp; done) | (simp; omega), ?_⟩
    conv => whnf
    refine ⟨_, _, rows16_2 _ c.stream c.ssn rfl rfl (by simp [be4]; omega), ?_⟩
    conv => whnf
    refine ⟨by first | omega | (simp only [Int.toNat_natCast]; omega) | (simp; done) | (simp; omega), ?_⟩
    conv => whnf
    refine ⟨_, _, rows32_1 _ c.ppid rfl (by simp [be4, be2]; omega), ?_⟩
    conv => whnf
    refine ⟨by kernel_rfl, ?_⟩
    conv => whnf
    have hp : (s ++ be4 c.tsn ++ (be2 c.stream ++ be2 c.ssn) ++ be4 c.ppid).length ≤ 2 ^ 31 := by simp [be4, be2]; omega
    have hpre : (s ++ be4 c.tsn ++ (be2 c.stream ++ be2 c.ssn) ++ be4 c.ppid) ++ cutB c.items ++ c.text = valB s c := by
      rw [valB, preB, if_pos g0]
    refine ⟨_, hB, ?_⟩
    rintro q rfl
    conv => whnf
    split <;> rename_i h1
    · have h1 : 0 < c.items.length := by simp at h1; omega
      have h2 := bytes_ge h1
      have h3 := pad_lt (lastN c.items)
      have h4 := cut_len c.items
      conv => whnf
      refine ⟨by first | omega | (simp only [Int.toNat_natCast]; omega) | (simp; done) | (simp; omega), ?_⟩
      conv => whnf
      rw [show ((c.items.length : Int) - 1).toNat = c.items.length - 1 from by omega]
      refine ⟨by first | omega | (simp only [Int.toNat_natCast]; omega) | (simp; done) | (simp; omega), ?_⟩
      conv => whnf
      refine ⟨_, pad_spec (lastN c.items) (by unfold lastN; have := hb3 (c.items.length - 1); omega), ?_⟩
      rintro q rfl
      conv => whnf
      refine ⟨by first | omega | (simp only [Int.toNat_natCast]; omega) | (simp; done) | (simp; omega), ?_⟩
      conv => whnf
      refine ⟨by first | omega | (simp only [Int.toNat_natCast]; omega) | (simp; done) | (simp; omega), ?_⟩
      conv => whnf
      rw [show cutS (Tlv.bytes c.items, 0).fst none (some (↑(Tlv.bytes c.items, 0).fst.length - ↑(padN (lastN c.items)))) = cutB c.items from cut_eq h1]
      refine ⟨⟨rfl, by (try dsimp only); omega, by simp only [ty5]; omega⟩, ?_⟩
      conv => whnf
      refine ⟨⟨rfl, by (try dsimp only); omega, by simp only [ty5]; omega⟩, ?_⟩
      conv => whnf
      refine ⟨by kernel_rfl, ?_⟩
      conv => whnf
      refine ⟨_, _, .of_eq (congrArg (AVal.rsl 119 1 0) ((row3_len _ _ _).trans (congrArg List.length hpre))), ?_, rfl, rfl⟩
      exact ⟨⟨rfl, rfl, (row3_len _ _ _).trans (congrArg List.length hpre), fun k hk => (row3 _ _ _ k hk).trans (congrArg (fun q => bytesF q k) hpre)⟩, trivial⟩
    · have h1 : c.items = [] := by simpa using h1
      have h4 : Tlv.bytes c.items = cutB c.items := by rw [h1]; rfl
      have h4' := cut_len c.items
      conv => whnf
      rw [h4]
      refine ⟨⟨rfl, by (try dsimp only); omega, by simp only [ty5]; omega⟩, ?_⟩
      conv => whnf
      refine ⟨⟨rfl, by (try dsimp only); omega, by simp only [ty5]; omega⟩, ?_⟩
      conv => whnf
      refine ⟨by kernel_rfl, ?_⟩
      conv => whnf
      refine ⟨_, _, .of_eq (congrArg (AVal.rsl 119 1 0) ((row3_len _ _ _).trans (congrArg List.length hpre))), ?_, rfl, rfl⟩
      exact ⟨⟨rfl, rfl, (row3_len _ _ _).trans (congrArg List.length hpre), fun k hk => (row3 _ _ _ k hk).trans (congrArg (fun q => bytesF q k) hpre)⟩, trivial⟩
  have g0 : ¬ c.ty = 0 := by simpa using g0b
  conv => whnf
  split <;> rename_i g1b
  · have g1 : c.ty = 1 := by simpa using g1b
    conv => whnf
    try (rw [g1b]; conv => whnf)
    refine ⟨by first | omega | (simp only [Int.toNat_natCast]; omega) | (simp; done) | (simp; omega), ?_⟩
    conv => whnf
    refine ⟨_, _, rows32_2 _ c.tag c.window rfl rfl (by omega), ?_⟩
    conv => whnf
    refine ⟨by first | omega | (simp only [Int.toNat_natCast]; omega) | (simp; done) | (simp; omega), ?_⟩
    conv => whnf
    refine ⟨_, _, rows16_2 _ c.outs c.ins rfl rfl (by simp [be4]; omega), ?_⟩
    conv => whnf
    refine ⟨by first | omega | (simp only [Int.toNat_natCast]; omega) | (simp; done) | (simp; omega), ?_⟩
    conv => whnf
    refine ⟨_, _, rows32_1 _ c.tsn rfl (by simp [be4, be2]; omega), ?_⟩
    conv => whnf
    refine ⟨by kernel_rfl, ?_⟩
    conv => whnf
    have hp : (s ++ (be4 c.tag ++ be4 c.window) ++ (be2 c.outs ++ be2 c.ins) ++ be4 c.tsn).length ≤ 2 ^ 31 := by simp [be4, be2]; omega
    have hpre : (s ++ (be4 c.tag ++ be4 c.window) ++ (be2 c.outs ++ be2 c.ins) ++ be4 c.tsn) ++ cutB c.items ++ c.text = valB s c := by
      rw [valB, preB, if_neg g0, if_pos (by omega : c.ty = 1 ∨ c.ty = 2)]
    refine ⟨_, hB, ?_⟩
    rintro q rfl
    conv => whnf
    split <;> rename_i h1
    · have h1 : 0 < c.items.length := by simp at h1; omega
      have h2 := bytes_ge h1
      have h3 := pad_lt (lastN c.items)
      have h4 := cut_len c.items
      conv => whnf
      refine ⟨by first | omega | (simp only [Int.toNat_natCast]; omega) | (simp; done) | (simp; omega), ?_⟩
      conv => whnf
      rw [show ((c.items.length : Int) - 1).toNat = c.items.length - 1 from by omega]
      refine ⟨by first | omega | (simp only [Int.toNat_natCast]; omega) | (simp; done) | (simp; omega), ?_⟩
      conv => whnf
      refine ⟨_, pad_spec (lastN c.items) (by unfold lastN; have := hb3 (c.items.length - 1); omega), ?_⟩
      rintro q rfl
      conv => whnf
      refine ⟨by first | omega | (simp only [Int.toNat_natCast]; omega) | (simp; done) | (simp; omega), ?_⟩
      conv => whnf
      refine ⟨by first | omega | (simp only [Int.toNat_natCast]; omega) | (simp; done) | (simp; omega), ?_⟩
      conv => whnf
      rw [show cutS (Tlv.bytes c.items, 0).fst none (some (↑(Tlv.bytes c.items, 0).fst.length - ↑(padN (lastN c.items)))) = cutB c.items from cut_eq h1]
      refine ⟨⟨rfl, by (try dsimp only); omega, by simp only [ty5]; omega⟩, ?_⟩
      conv => whnf
      refine ⟨⟨rfl, by (try dsimp only); omega, by simp only [ty5]; omega⟩, ?_⟩
      conv => whnf
      refine ⟨by kernel_rfl, ?_⟩
      conv => whnf
      refine ⟨_, _, .of_eq (congrArg (AVal.rsl 119 1 0) ((row3_len _ _ _).trans (congrArg List.length hpre))), ?_, rfl, rfl⟩
      exact ⟨⟨rfl, rfl, (row3_len _ _ _).trans (congrArg List.length hpre), fun k hk => (row3 _ _ _ k hk).trans (congrArg (fun q => bytesF q k) hpre)⟩, trivial⟩
    · have h1 : c.items = [] := by simpa using h1
      have h4 : Tlv.bytes c.items = cutB c.items := by rw [h1]; rfl
      have h4' := cut_len c.items
      conv => whnf
      rw [h4]
      refine ⟨⟨rfl, by (try dsimp only); omega, by simp only [ty5]; omega⟩, ?_⟩
      conv => whnf
      refine ⟨⟨rfl, by (try dsimp only); omega, by simp only [ty5]; omega⟩, ?_⟩
      conv => whnf
      refine ⟨by kernel_rfl, ?_⟩
      conv => whnf
      refine ⟨_, _, .of_eq (congrArg (AVal.rsl 119 1 0) ((row3_len _ _ _).trans (congrArg List.length hpre))), ?_, rfl, rfl⟩
      exact ⟨⟨rfl, rfl, (row3_len _ _ _).trans (congrArg List.length hpre), fun k hk => (row3 _ _ _ k hk).trans (congrArg (fun q => bytesF q k) hpre)⟩, trivial⟩
  have g1 : ¬ c.ty = 1 := by simpa using g1b
  conv => whnf
  split <;> rename_i g2b
  · have g2 : c.ty = 2 := by simpa using g2b
    conv => whnf
    try (rw [g1b]; conv => whnf)
    try (rw [g2b]; conv => whnf)
    refine ⟨by first | omega | (simp only [Int.toNat_natCast]; omega) | (simp; done) | (simp; omega), ?_⟩
    conv => whnf
    refine ⟨_, _, rows32_2 _ c.tag c.window rfl rfl (by omega), ?_⟩
    conv => whnf
    refine ⟨by first | omega | (simp only [Int.toNat_natCast]; omega) | (simp; done) | (simp; omega), ?_⟩
    conv => whnf
    refine ⟨_, _, rows16_2 _ c.outs c.ins rfl rfl (by simp [be4]; omega), ?_⟩
    conv => whnf
    refine ⟨by first | omega | (simp only [Int.toNat_natCast]; omega) | (simp; done) | (simp; omega), ?_⟩
    conv => whnf
    refine ⟨_, _, rows32_1 _ c.tsn rfl (by simp [be4, be2]; omega), ?_⟩
    conv => whnf
    refine ⟨by kernel_rfl, ?_⟩
    conv => whnf
    have hp : (s ++ (be4 c.tag ++ be4 c.window) ++ (be2 c.outs ++ be2 c.ins) ++ be4 c.tsn).length ≤ 2 ^ 31 := by simp [be4, be2]; omega
    have hpre : (s ++ (be4 c.tag ++ be4 c.window) ++ (be2 c.outs ++ be2 c.ins) ++ be4 c.tsn) ++ cutB c.items ++ c.text = valB s c := by
      rw [valB, preB, if_neg g0, if_pos (by omega : c.ty = 1 ∨ c.ty = 2)]
    refine ⟨_, hB, ?_⟩
    rintro q rfl
    conv => whnf
    split <;> rename_i h1
    · have h1 : 0 < c.items.length := by simp at h1; omega
      have h2 := bytes_ge h1
      have h3 := pad_lt (lastN c.items)
      have h4 := cut_len c.items
      conv => whnf
      refine ⟨by first | omega | (simp only [Int.toNat_natCast]; omega) | (simp; done) | (simp; omega), ?_⟩
      conv => whnf
      rw [show ((c.items.length : Int) - 1).toNat = c.items.length - 1 from by omega]
      refine ⟨by first | omega | (simp only [Int.toNat_natCast]; omega) | (simp; done) | (simp; omega), ?_⟩
      conv => whnf
      refine ⟨_, pad_spec (lastN c.items) (by unfold lastN; have := hb3 (c.items.length - 1); omega), ?_⟩
      rintro q rfl
      conv => whnf
      refine ⟨by first | omega | (simp only [Int.toNat_natCast]; omega) | (simp; done) | (simp; omega), ?_⟩
      conv => whnf
      refine ⟨by first | omega | (simp only [Int.toNat_natCast]; omega) | (simp; done) | (simp; omega), ?_⟩
      conv => whnf
      rw [show cutS (Tlv.bytes c.items, 0).fst none (some (↑(Tlv.bytes c.items, 0).fst.length - ↑(padN (lastN c.items)))) = cutB c.items from cut_eq h1]
      refine ⟨⟨rfl, by (try dsimp only); omega, by simp only [ty5]; omega⟩, ?_⟩
      conv => whnf
      refine ⟨⟨rfl, by (try dsimp only); omega, by simp only [ty5]; omega⟩, ?_⟩
      conv => whnf
      refine ⟨by kernel_rfl, ?_⟩
      conv => whnf
      refine ⟨_, _, .of_eq (congrArg (AVal.rsl 119 1 0) ((row3_len _ _ _).trans (congrArg List.length hpre))), ?_, rfl, rfl⟩
      exact ⟨⟨rfl, rfl, (row3_len _ _ _).trans (congrArg List.length hpre), fun k hk => (row3 _ _ _ k hk).trans (congrArg (fun q => bytesF q k) hpre)⟩, trivial⟩
    · have h1 : c.items = [] := by simpa using h1
      have h4 : Tlv.bytes c.items = cutB c.items := by rw [h1]; rfl
      have h4' := cut_len c.items
      conv => whnf
      rw [h4]
      refine ⟨⟨rfl, by (try dsimp only); omega, by simp only [ty5]; omega⟩, ?_⟩
      conv => whnf
      refine ⟨⟨rfl, by (try dsimp only); omega, by simp only [ty5]; omega⟩, ?_⟩
      conv => whnf
      refine ⟨by kernel_rfl, ?_⟩
      conv => whnf
      refine ⟨_, _, .of_eq (congrArg (AVal.rsl 119 1 0) ((row3_len _ _ _).trans (congrArg List.length hpre))), ?_, rfl, rfl⟩
      exact ⟨⟨rfl, rfl, (row3_len _ _ _).trans (congrArg List.length hpre), fun k hk => (row3 _ _ _ k hk).trans (congrArg (fun q => bytesF q k) hpre)⟩, trivial⟩
  have g2 : ¬ c.ty = 2 := by simpa using g2b
  conv => whnf
  split <;> rename_i g3b
  · have g3 : c.ty = 3 := by simpa using g3b
    conv => whnf
    refine ⟨by first | omega | (simp only [Int.toNat_natCast]; omega) | (simp; done) | (simp; omega), ?_⟩
    conv => whnf
    refine ⟨_, _, rows32_2 _ c.tsn c.window rfl rfl (by omega), ?_⟩
    conv => whnf
    refine ⟨by first | omega | (simp only [Int.toNat_natCast]; omega) | (simp; done) | (simp; omega), ?_⟩
    conv => whnf
    refine ⟨_, _, rows16_2 _ (c.gaps.length : Int) (c.dups.length : Int) (by show [D.i .u16 (IntKind.u16.wrap c.gaps.length)] = _; rw [wrap16 (by omega)]) (by show [D.i .u16 (IntKind.u16.wrap c.dups.length)] = _; rw [wrap16 (by omega)]) (by simp [be4]; omega), ?_⟩
    conv => whnf
    refine ⟨by kernel_rfl, ?_⟩
    conv => whnf
    refine ALoop.introR valTOk followsB (fun k : {k // k ≤ c.gaps.length} => ([(0, .rsl 68000 1 0 (g3B s c k.1).length), (3, .ptr 3 0), (69, .d (slT 2 encG c.gaps)), (70, tvi c.gaps.length), (71, tvi k.1)], [(3, .box (cL c)), (68000, rowB (g3B s c k.1))])) (fun k => c.gaps.length - k.1) ⟨0, by omega⟩ ?_ ?_
    · rw [show g3B s c 0 = s ++ (be4 c.tsn ++ be4 c.window) ++ (be2 c.gaps.length ++ be2 c.dups.length) from List.append_nil _]
      exact ⟨.refl _, .refl _, .refl _, .refl _, .refl _, .refl _, .refl _, trivial⟩
    rintro ⟨k, hk⟩
    have hlen := g3_len s c k
    dsimp only
    conv => whnf
    split <;> rename_i h5
    · have h5 : k < c.gaps.length := Int.ofNat_lt.1 (of_decide_eq_true h5)
      conv => whnf
      refine ⟨by first | omega | (simp only [Int.toNat_natCast]; omega) | (simp; done) | (simp; omega), ?_⟩
      conv => whnf
      refine ⟨_, rows16_2 _ (c.gaps.getD k default).1 (c.gaps.getD k default).2 rfl rfl (by omega), ?_⟩
      rintro q hq ⟨rfl, rfl⟩
      conv => whnf
      refine ⟨by first | omega | (simp only [Int.toNat_natCast]; omega) | (simp; done) | (simp; omega), ?_⟩
      conv => whnf
      refine ⟨⟨k + 1, by omega⟩, [(78000, 68000)], by dsimp only; omega, .of_eq (congrArg (fun q => AVal.rsl 68000 1 0 (List.length q)) (g3_step s c k h5)), .refl _, .refl _, .refl _, .refl _, .refl _, ?_, trivial⟩
      rw [← g3_step s c k h5]
      exact OLe.refl _
    · have h5 : ¬ k < c.gaps.length := fun h => of_decide_eq_false h5 (Int.ofNat_lt.2 h)
      have hk' : c.gaps.take k = c.gaps := List.take_of_length_le (by omega)
      by_cases hdz : c.dups = []
      · conv => whnf
        rw [hdz]
        refine ⟨_, rows32_0 _ _, ?_⟩
        rintro q hq ⟨rfl, rfl⟩
        conv => whnf
        have hp : (g3B s c k).length ≤ 2 ^ 31 := by omega
        have hpre : g3B s c k ++ cutB c.items ++ c.text = valB s c := by
          rw [valB, preB, if_neg g0, if_neg (by omega), if_pos g3, g3B, hk', hdz]
          simp
        refine ⟨_, hB, ?_⟩
        rintro q rfl
        conv => whnf
        split <;> rename_i h1
        · have h1 : 0 < c.items.length := by simp at h1; omega
          have h2 := bytes_ge h1
          have h3 := pad_lt (lastN c.items)
          have h4 := cut_len c.items
          conv => whnf
          refine ⟨by first | omega | (simp only [Int.toNat_natCast]; omega) | (simp; done) | (simp; omega), ?_⟩
          conv => whnf
          rw [show ((c.items.length : Int) - 1).toNat = c.items.length - 1 from by omega]
          refine ⟨by first | omega | (simp only [Int.toNat_natCast]; omega) | (simp; done) | (simp; omega), ?_⟩
          conv => whnf
          refine ⟨_, pad_spec (lastN c.items) (by unfold lastN; have := hb3 (c.items.length - 1); omega), ?_⟩
          rintro q rfl
          conv => whnf
          refine ⟨by first | omega | (simp only [Int.toNat_natCast]; omega) | (simp; done) | (simp; omega), ?_⟩
          conv => whnf
          refine ⟨by first | omega | (simp only [Int.toNat_natCast]; omega) | (simp; done) | (simp; omega), ?_⟩
          conv => whnf
          rw [show cutS (Tlv.bytes c.items, 0).fst none (some (↑(Tlv.bytes c.items, 0).fst.length - ↑(padN (lastN c.items)))) = cutB c.items from cut_eq h1]
          refine ⟨⟨rfl, by (try dsimp only); omega, by simp only [ty5]; omega⟩, ?_⟩
          conv => whnf
          refine ⟨⟨rfl, by (try dsimp only); omega, by simp only [ty5]; omega⟩, ?_⟩
          conv => whnf
          refine ⟨by kernel_rfl, ?_⟩
          conv => whnf
          refine ⟨_, _, .of_eq (congrArg (AVal.rsl 119 1 0) ((row3_len _ _ _).trans (congrArg List.length hpre))), ?_, rfl, rfl⟩
          exact ⟨⟨rfl, rfl, (row3_len _ _ _).trans (congrArg List.length hpre), fun k hk => (row3 _ _ _ k hk).trans (congrArg (fun q => bytesF q k) hpre)⟩, trivial⟩
        · have h1 : c.items = [] := by simpa using h1
          have h4 : Tlv.bytes c.items = cutB c.items := by rw [h1]; rfl
          have h4' := cut_len c.items
          conv => whnf
          rw [h4]
          refine ⟨⟨rfl, by (try dsimp only); omega, by simp only [ty5]; omega⟩, ?_⟩
          conv => whnf
          refine ⟨⟨rfl, by (try dsimp only); omega, by simp only [ty5]; omega⟩, ?_⟩
          conv => whnf
          refine ⟨by kernel_rfl, ?_⟩
          conv => whnf
          refine ⟨_, _, .of_eq (congrArg (AVal.rsl 119 1 0) ((row3_len _ _ _).trans (congrArg List.length hpre))), ?_, rfl, rfl⟩
          exact ⟨⟨rfl, rfl, (row3_len _ _ _).trans (congrArg List.length hpre), fun k hk => (row3 _ _ _ k hk).trans (congrArg (fun q => bytesF q k) hpre)⟩, trivial⟩
      · conv => whnf
        refine ⟨_, rows32_spec _ c.dups (by omega) (by omega) hdz, ?_⟩
        rintro q hq ⟨rfl, rfl⟩
        conv => whnf
        have hp : (g3B s c k ++ c.dups.flatMap be4).length ≤ 2 ^ 31 := by rw [List.length_append, len32]; omega
        have hpre : (g3B s c k ++ c.dups.flatMap be4) ++ cutB c.items ++ c.text = valB s c := by
          rw [valB, preB, if_neg g0, if_neg (by omega), if_pos g3, g3B, hk']
        refine ⟨_, hB, ?_⟩
        rintro q rfl
        conv => whnf
        split <;> rename_i h1
        · have h1 : 0 < c.items.length := by simp at h1; omega
          have h2 := bytes_ge h1
          have h3 := pad_lt (lastN c.items)
          have h4 := cut_len c.items
          conv => whnf
          refine ⟨by first | omega | (simp only [Int.toNat_natCast]; omega) | (simp; done) | (simp; omega), ?_⟩
          conv => whnf
          rw [show ((c.items.length : Int) - 1).toNat = c.items.length - 1 from by omega]
          refine ⟨by first | omega | (simp only [Int.toNat_natCast]; omega) | (simp; done) | (simp; omega), ?_⟩
          conv => whnf
          refine ⟨_, pad_spec (lastN c.items) (by unfold lastN; have := hb3 (c.items.length - 1); omega), ?_⟩
          rintro q rfl
          conv => whnf
          refine ⟨by first | omega | (simp only [Int.toNat_natCast]; omega) | (simp; done) | (simp; omega), ?_⟩
          conv => whnf
          refine ⟨by first | omega | (simp only [Int.toNat_natCast]; omega) | (simp; done) | (simp; omega), ?_⟩
          conv => whnf
          rw [show cutS (Tlv.bytes c.items, 0).fst none (some (↑(Tlv.bytes c.items, 0).fst.length - ↑(padN (lastN c.items)))) = cutB c.items from cut_eq h1]
          refine ⟨⟨rfl, by (try dsimp only); omega, by simp only [ty5]; omega⟩, ?_⟩
          conv => whnf
          refine ⟨⟨rfl, by (try dsimp only); omega, by simp only [ty5]; omega⟩, ?_⟩
          conv => whnf
          refine ⟨by kernel_rfl, ?_⟩
          conv => whnf
          refine ⟨_, _, .of_eq (congrArg (AVal.rsl 119 1 0) ((row3_len _ _ _).trans (congrArg List.length hpre))), ?_, rfl, rfl⟩
          exact ⟨⟨rfl, rfl, (row3_len _ _ _).trans (congrArg List.length hpre), fun k hk => (row3 _ _ _ k hk).trans (congrArg (fun q => bytesF q k) hpre)⟩, trivial⟩
        · have h1 : c.items = [] := by simpa using h1
          have h4 : Tlv.bytes c.items = cutB c.items := by rw [h1]; rfl
          have h4' := cut_len c.items
          conv => whnf
          rw [h4]
          refine ⟨⟨rfl, by (try dsimp only); omega, by simp only [ty5]; omega⟩, ?_⟩
          conv => whnf
          refine ⟨⟨rfl, by (try dsimp only); omega, by simp only [ty5]; omega⟩, ?_⟩
          conv => whnf
          refine ⟨by kernel_rfl, ?_⟩
          conv => whnf
          refine ⟨_, _, .of_eq (congrArg (AVal.rsl 119 1 0) ((row3_len _ _ _).trans (congrArg List.length hpre))), ?_, rfl, rfl⟩
          exact ⟨⟨rfl, rfl, (row3_len _ _ _).trans (congrArg List.length hpre), fun k hk => (row3 _ _ _ k hk).trans (congrArg (fun q => bytesF q k) hpre)⟩, trivial⟩
  have g3 : ¬ c.ty = 3 := by simpa using g3b
  conv => whnf
  split <;> rename_i g7b
  · have g7 : c.ty = 7 := by simpa using g7b
    conv => whnf
    refine ⟨_, put32_spec _ c.tsn (by omega), ?_⟩
    rintro q hq ⟨rfl, rfl⟩
    conv => whnf
    have hp : (s ++ be4 c.tsn).length ≤ 2 ^ 31 := by simp [be4]; omega
    have hpre : (s ++ be4 c.tsn) ++ cutB c.items ++ c.text = valB s c := by
      rw [valB, preB, if_neg g0, if_neg (by omega), if_neg g3, if_pos g7]
    refine ⟨_, hB, ?_⟩
    rintro q rfl
    conv => whnf
    split <;> rename_i h1
    · have h1 : 0 < c.items.length := by simp at h1; omega
      have h2 := bytes_ge h1
      have h3 := pad_lt (lastN c.items)
      have h4 := cut_len c.items
      conv => whnf
      refine ⟨by first | omega | (simp only [Int.toNat_natCast]; omega) | (simp; done) | (simp; omega), ?_⟩
      conv => whnf
      rw [show ((c.items.length : Int) - 1).toNat = c.items.length - 1 from by omega]
      refine ⟨by first | omega | (simp only [Int.toNat_natCast]; omega) | (simp; done) | (simp; omega), ?_⟩
      conv => whnf
      refine ⟨_, pad_spec (lastN c.items) (by unfold lastN; have := hb3 (c.items.length - 1); omega), ?_⟩
      rintro q rfl
      conv => whnf
      refine ⟨by first | omega | (simp only [Int.toNat_natCast]; omega) | (simp; done) | (simp; omega), ?_⟩
      conv => whnf
      refine ⟨by first | omega | (simp only [Int.toNat_natCast]; omega) | (simp; done) | (simp; omega), ?_⟩
      conv => whnf
      rw [show cutS (Tlv.bytes c.items, 0).fst none (some (↑(Tlv.bytes c.items, 0).fst.length - ↑(padN (lastN c.items)))) = cutB c.items from cut_eq h1]
      refine ⟨⟨rfl, by (try dsimp only); omega, by simp only [ty5]; omega⟩, ?_⟩
      conv => whnf
      refine ⟨⟨rfl, by (try dsimp only); omega, by simp only [ty5]; omega⟩, ?_⟩
      conv => whnf
      refine ⟨by kernel_rfl, ?_⟩
      conv => whnf
      refine ⟨_, _, .of_eq (congrArg (AVal.rsl 119 1 0) ((row3_len _ _ _).trans (congrArg List.length hpre))), ?_, rfl, rfl⟩
      exact ⟨⟨rfl, rfl, (row3_len _ _ _).trans (congrArg List.length hpre), fun k hk => (row3 _ _ _ k hk).trans (congrArg (fun q => bytesF q k) hpre)⟩, trivial⟩
    · have h1 : c.items = [] := by simpa using h1
      have h4 : Tlv.bytes c.items = cutB c.items := by rw [h1]; rfl
      have h4' := cut_len c.items
      conv => whnf
      rw [h4]
      refine ⟨⟨rfl, by (try dsimp only); omega, by simp only [ty5]; omega⟩, ?_⟩
      conv => whnf
      refine ⟨⟨rfl, by (try dsimp only); omega, by simp only [ty5]; omega⟩, ?_⟩
      conv => whnf
      refine ⟨by kernel_rfl, ?_⟩
      conv => whnf
      refine ⟨_, _, .of_eq (congrArg (AVal.rsl 119 1 0) ((row3_len _ _ _).trans (congrArg List.length hpre))), ?_, rfl, rfl⟩
      exact ⟨⟨rfl, rfl, (row3_len _ _ _).trans (congrArg List.length hpre), fun k hk => (row3 _ _ _ k hk).trans (congrArg (fun q => bytesF q k) hpre)⟩, trivial⟩
  have g7 : ¬ c.ty = 7 := by simpa using g7b
  conv => whnf
  have hp : s.length ≤ 2 ^ 31 := by omega
  have hpre : s ++ cutB c.items ++ c.text = valB s c := by
    rw [valB, preB, if_neg g0, if_neg (by omega), if_neg g3, if_neg g7]
  refine ⟨_, hB, ?_⟩
  rintro q rfl
  conv => whnf
  split <;> rename_i h1
  · have h1 : 0 < c.items.length := by simp at h1; omega
    have h2 := bytes_ge h1
    have h3 := pad_lt (lastN c.items)
    have h4 := cut_len c.items
    conv => whnf
    refine ⟨by first | omega | (simp only [Int.toNat_natCast]; omega) | (simp; done) | (simp; omega), ?_⟩
    conv => whnf
    rw [show ((c.items.length : Int) - 1).toNat = c.items.length - 1 from by omega]
    refine ⟨by first | omega | (simp only [Int.toNat_natCast]; omega) | (simp; done) | (simp; omega), ?_⟩
    conv => whnf
    refine ⟨_, pad_spec (lastN c.items) (by unfold lastN; have := hb3 (c.items.length - 1); omega), ?_⟩
    rintro q rfl
    conv => whnf
    refine ⟨by first | omega | (simp only [Int.toNat_natCast]; omega) | (simp; done) | (simp; omega), ?_⟩
    conv => whnf
    refine ⟨by first | omega | (simp only [Int.toNat_natCast]; omega) | (simp; done) | (simp; omega), ?_⟩
    conv => whnf
    rw [show cutS (Tlv.bytes c.items, 0).fst none (some (↑(Tlv.bytes c.items, 0).fst.length - ↑(padN (lastN c.items)))) = cutB c.items from cut_eq h1]
    refine ⟨⟨rfl, by (try dsimp only); omega, by simp only [ty5]; omega⟩, ?_⟩
    conv => whnf
    refine ⟨⟨rfl, by (try dsimp only); omega, by simp only [ty5]; omega⟩, ?_⟩
    conv => whnf
    refine ⟨by kernel_rfl, ?_⟩
    conv => whnf
    refine ⟨_, _, .of_eq (congrArg (AVal.rsl 119 1 0) ((row3_len _ _ _).trans (congrArg List.length hpre))), ?_, rfl, rfl⟩
    exact ⟨⟨rfl, rfl, (row3_len _ _ _).trans (congrArg List.length hpre), fun k hk => (row3 _ _ _ k hk).trans (congrArg (fun q => bytesF q k) hpre)⟩, trivial⟩
  · have h1 : c.items = [] := by simpa using h1
    have h4 : Tlv.bytes c.items = cutB c.items := by rw [h1]; rfl
    have h4' := cut_len c.items
    conv => whnf
    rw [h4]
    refine ⟨⟨rfl, by (try dsimp only); omega, by simp only [ty5]; omega⟩, ?_⟩
    conv => whnf
    refine ⟨⟨rfl, by (try dsimp only); omega, by simp only [ty5]; omega⟩, ?_⟩
    conv => whnf
    refine ⟨by kernel_rfl, ?_⟩
    conv => whnf
    refine ⟨_, _, .of_eq (congrArg (AVal.rsl 119 1 0) ((row3_len _ _ _).trans (congrArg List.length hpre))), ?_, rfl, rfl⟩
    exact ⟨⟨rfl, rfl, (row3_len _ _ _).trans (congrArg List.length hpre), fun k hk => (row3 _ _ _ k hk).trans (congrArg (fun q => bytesF q k) hpre)⟩, trivial⟩
end Go.Proofs.YtbghocipmlobnaaGreat
