/- Chapter 7: numbers in bytes: contracts. Written by genChP.py. -/
import Derived.Test.YtbghocipmlobnaaGreatTlvC
namespace Towline.Chunk
open Towline.Tlv
def be4 (x : Int) : List UInt8 := [u8 (x.fdiv 16777216), u8 (x.fdiv 65536), u8 (x.fdiv 256), u8 x]
def be2 (x : Int) : List UInt8 := [u8 (x.fdiv 256), u8 x]
end Towline.Chunk
namespace Go.Proofs.YtbghocipmlobnaaGreat
open Go Go.RowKit Towline Towline.Tlv Towline.Chunk
set_option linter.unusedVariables false
set_option linter.unusedSimpArgs false
set_option maxRecDepth 20000
set_option maxHeartbeats 4000000
abbrev cv32 (n : Int) : AVal := .d (.i .u32 n)
abbrev cv16 (n : Int) : AVal := .d (.i .u16 n)
/-- A row of bytes. -/
abbrev rowB (s : List UInt8) : AObj := .row 5 1 s.length (bytesF s)
theorem put_row (s t : List UInt8) (y : Int) (G : Nat → List D) (hG : G 0 = [.i .u8 (IntKind.u8.wrap y)]) : ∀ k, k < (s ++ t).length + 1 → fcat (bytesF (s ++ t)) (s ++ t).length G k = bytesF (s ++ (t ++ [u8 y])) k := by
  intro k hk
  rw [← List.append_assoc]
  refine (fcat_congr (fun _ _ => rfl) (g' := bytesF [u8 y]) (fun j hj => ?_) k hk).trans (fcat_bytes (s ++ t) [u8 y] k hk)
  have : j = 0 := by omega
  subst this
  rw [hG]
  show _ = [D.i .u8 ((u8 y).toNat : Nat)]
  rw [u8_wrap]
abbrev Sp4 (s : List UInt8) (x : Int) : Nat → Env × Heap
  | 0 => ([(0, .rsl 24 1 0 (s ++ be4 x).length), (1, cv32 x), (6, tvi (-1))], [(24, rowB (s ++ be4 x))])
  | 1 => ([(0, .rsl 24 1 0 (s ++ [u8 (x.fdiv 16777216), u8 (x.fdiv 65536), u8 (x.fdiv 256)]).length), (1, cv32 x), (6, tvi (0))], [(24, rowB (s ++ [u8 (x.fdiv 16777216), u8 (x.fdiv 65536), u8 (x.fdiv 256)]))])
  | 2 => ([(0, .rsl 24 1 0 (s ++ [u8 (x.fdiv 16777216), u8 (x.fdiv 65536)]).length), (1, cv32 x), (6, tvi (1))], [(24, rowB (s ++ [u8 (x.fdiv 16777216), u8 (x.fdiv 65536)]))])
  | 3 => ([(0, .rsl 24 1 0 (s ++ [u8 (x.fdiv 16777216)]).length), (1, cv32 x), (6, tvi (2))], [(24, rowB (s ++ [u8 (x.fdiv 16777216)]))])
  | _ + 4 => ([(0, .rsl E0 1 0 s.length), (1, cv32 x), (6, tvi 3)], [(E0, rowB s)])
theorem put32_spec (s : List UInt8) (x : Int) (hs : s.length ≤ 2 ^ 40) : LSpec Tryz.prog 156 [.rsl E0 1 0 s.length, cv32 x] [(E0, rowB s)] (fun r hl => r = .rsl 24 1 0 (s ++ be4 x).length ∧ hl = [(24, rowB (s ++ be4 x))]) := by
  refine LSpec.run (tysOk) followsB Tryz.func156 (by decide) rfl Tryz.ntmps156 (Nat.le_of_ble_eq_true rfl) rfl rfl fun w0 R0 Lo hGw => ?_
  conv => whnf
  refine ⟨by first | omega | (simp only [Int.toNat_natCast]; omega) | (simp; done) | (simp; omega), ?_⟩
  conv => whnf
  refine ALoop.introR tysOk followsB (fun k : {k // k ≤ 4} => Sp4 s x k.1) (fun k => k.1) ⟨4, by omega⟩ ⟨.refl _, .refl _, .refl _, OLe.refl _, trivial⟩ ?_
  rintro ⟨k, hk⟩
  dsimp only
  match k, hk with
  | 4, _ =>
    have hl : (s ++ []).length ≤ 2 ^ 40 + 4 := by simp only [List.length_append, List.length_cons, List.length_nil]; omega
    conv => whnf
    refine ⟨by first | omega | (simp only [Int.toNat_natCast]; omega) | (simp; done) | (simp; omega), ?_⟩
    conv => whnf
    refine ⟨by first | omega | (simp only [Int.toNat_natCast]; omega) | (simp; done) | (simp; omega), ?_⟩
    conv => whnf
    refine ⟨⟨⟨rfl, by omega, by simp only [ty5]; omega⟩, by omega⟩, ?_⟩
    conv => whnf
    refine ⟨by first | omega | (simp only [Int.toNat_natCast]; omega) | (simp; done) | (simp; omega), ?_⟩
    conv => whnf
    refine ⟨⟨3, by omega⟩, [], by dsimp only; omega, .of_eq (congrArg (AVal.rsl 24 1 0) (by simp [be4])), .refl _, .refl _, ⟨rfl, rfl, by simp [be4], ?_⟩, trivial⟩
    simpa using put_row s [] (x.fdiv 16777216) _ rfl
  | 3, _ =>
    have hl : (s ++ [u8 (x.fdiv 16777216)]).length ≤ 2 ^ 40 + 4 := by simp only [List.length_append, List.length_cons, List.length_nil]; omega
    conv => whnf
    refine ⟨by first | omega | (simp only [Int.toNat_natCast]; omega) | (simp; done) | (simp; omega), ?_⟩
    conv => whnf
    refine ⟨by first | omega | (simp only [Int.toNat_natCast]; omega) | (simp; done) | (simp; omega), ?_⟩
    conv => whnf
    refine ⟨⟨⟨rfl, by omega, by simp only [ty5]; omega⟩, by omega⟩, ?_⟩
    conv => whnf
    refine ⟨by first | omega | (simp only [Int.toNat_natCast]; omega) | (simp; done) | (simp; omega), ?_⟩
    conv => whnf
    refine ⟨⟨2, by omega⟩, [], by dsimp only; omega, .of_eq (congrArg (AVal.rsl 24 1 0) (by simp [be4])), .refl _, .refl _, ⟨rfl, rfl, by simp [be4], ?_⟩, trivial⟩
    exact put_row s [u8 (x.fdiv 16777216)] (x.fdiv 65536) _ rfl
  | 2, _ =>
    have hl : (s ++ [u8 (x.fdiv 16777216), u8 (x.fdiv 65536)]).length ≤ 2 ^ 40 + 4 := by simp only [List.length_append, List.length_cons, List.length_nil]; omega
    conv => whnf
    refine ⟨by first | omega | (simp only [Int.toNat_natCast]; omega) | (simp; done) | (simp; omega), ?_⟩
    conv => whnf
    refine ⟨by first | omega | (simp only [Int.toNat_natCast]; omega) | (simp; done) | (simp; omega), ?_⟩
    conv => whnf
    refine ⟨⟨⟨rfl, by omega, by simp only [ty5]; omega⟩, by omega⟩, ?_⟩
    conv => whnf
    refine ⟨by first | omega | (simp only [Int.toNat_natCast]; omega) | (simp; done) | (simp; omega), ?_⟩
    conv => whnf
    refine ⟨⟨1, by omega⟩, [], by dsimp only; omega, .of_eq (congrArg (AVal.rsl 24 1 0) (by simp [be4])), .refl _, .refl _, ⟨rfl, rfl, by simp [be4], ?_⟩, trivial⟩
    exact put_row s [u8 (x.fdiv 16777216), u8 (x.fdiv 65536)] (x.fdiv 256) _ rfl
  | 1, _ =>
    have hl : (s ++ [u8 (x.fdiv 16777216), u8 (x.fdiv 65536), u8 (x.fdiv 256)]).length ≤ 2 ^ 40 + 4 := by simp only [List.length_append, List.length_cons, List.length_nil]; omega
    conv => whnf
    refine ⟨by first | omega | (simp only [Int.toNat_natCast]; omega) | (simp; done) | (simp; omega), ?_⟩
    conv => whnf
    refine ⟨by first | omega | (simp only [Int.toNat_natCast]; omega) | (simp; done) | (simp; omega), ?_⟩
    conv => whnf
    refine ⟨⟨⟨rfl, by omega, by simp only [ty5]; omega⟩, by omega⟩, ?_⟩
    conv => whnf
    refine ⟨by first | omega | (simp only [Int.toNat_natCast]; omega) | (simp; done) | (simp; omega), ?_⟩
    conv => whnf
    refine ⟨⟨0, by omega⟩, [], by dsimp only; omega, .of_eq (congrArg (AVal.rsl 24 1 0) (by simp [be4])), .refl _, .refl _, ⟨rfl, rfl, by simp [be4], ?_⟩, trivial⟩
    exact put_row s [u8 (x.fdiv 16777216), u8 (x.fdiv 65536), u8 (x.fdiv 256)] x _ (by rw [show shrOp .u32 x (8 * 0) = x from by simp [shrOp]]; rfl)
  | 0, _ =>
    conv => whnf
    refine ⟨_, _, .refl _, ?_, rfl, rfl⟩
    exact ⟨OLe.refl _, trivial⟩
abbrev Sp2 (s : List UInt8) (x : Int) : Nat → Env × Heap
  | 0 => ([(0, .rsl 24 1 0 (s ++ be2 x).length), (1, cv16 x), (6, tvi (-1))], [(24, rowB (s ++ be2 x))])
  | 1 => ([(0, .rsl 24 1 0 (s ++ [u8 (x.fdiv 256)]).length), (1, cv16 x), (6, tvi (0))], [(24, rowB (s ++ [u8 (x.fdiv 256)]))])
  | _ + 2 => ([(0, .rsl E0 1 0 s.length), (1, cv16 x), (6, tvi 1)], [(E0, rowB s)])
theorem put16_spec (s : List UInt8) (x : Int) (hs : s.length ≤ 2 ^ 40) : LSpec Tryz.prog 183 [.rsl E0 1 0 s.length, cv16 x] [(E0, rowB s)] (fun r hl => r = .rsl 24 1 0 (s ++ be2 x).length ∧ hl = [(24, rowB (s ++ be2 x))]) := by
  refine LSpec.run (tysOk) followsB Tryz.func183 (by decide) rfl Tryz.ntmps183 (Nat.le_of_ble_eq_true rfl) rfl rfl fun w0 R0 Lo hGw => ?_
  conv => whnf
  refine ⟨by first | omega | (simp only [Int.toNat_natCast]; omega) | (simp; done) | (simp; omega), ?_⟩
  conv => whnf
  refine ALoop.introR tysOk followsB (fun k : {k // k ≤ 2} => Sp2 s x k.1) (fun k => k.1) ⟨2, by omega⟩ ⟨.refl _, .refl _, .refl _, OLe.refl _, trivial⟩ ?_
  rintro ⟨k, hk⟩
  dsimp only
  match k, hk with
  | 2, _ =>
    have hl : (s ++ []).length ≤ 2 ^ 40 + 2 := by simp only [List.length_append, List.length_cons, List.length_nil]; omega
    conv => whnf
    refine ⟨by first | omega | (simp only [Int.toNat_natCast]; omega) | (simp; done) | (simp; omega), ?_⟩
    conv => whnf
    refine ⟨by first | omega | (simp only [Int.toNat_natCast]; omega) | (simp; done) | (simp; omega), ?_⟩
    conv => whnf
    refine ⟨⟨⟨rfl, by omega, by simp only [ty5]; omega⟩, by omega⟩, ?_⟩
    conv => whnf
    refine ⟨by first | omega | (simp only [Int.toNat_natCast]; omega) | (simp; done) | (simp; omega), ?_⟩
    conv => whnf
    refine ⟨⟨1, by omega⟩, [], by dsimp only; omega, .of_eq (congrArg (AVal.rsl 24 1 0) (by simp [be2])), .refl _, .refl _, ⟨rfl, rfl, by simp [be2], ?_⟩, trivial⟩
    simpa using put_row s [] (x.fdiv 256) _ rfl
  | 1, _ =>
    have hl : (s ++ [u8 (x.fdiv 256)]).length ≤ 2 ^ 40 + 2 := by simp only [List.length_append, List.length_cons, List.length_nil]; omega
    conv => whnf
    refine ⟨by first | omega | (simp only [Int.toNat_natCast]; omega) | (simp; done) | (simp; omega), ?_⟩
    conv => whnf
    refine ⟨by first | omega | (simp only [Int.toNat_natCast]; omega) | (simp; done) | (simp; omega), ?_⟩
    conv => whnf
    refine ⟨⟨⟨rfl, by omega, by simp only [ty5]; omega⟩, by omega⟩, ?_⟩
    conv => whnf
    refine ⟨by first | omega | (simp only [Int.toNat_natCast]; omega) | (simp; done) | (simp; omega), ?_⟩
    conv => whnf
    refine ⟨⟨0, by omega⟩, [], by dsimp only; omega, .of_eq (congrArg (AVal.rsl 24 1 0) (by simp [be2])), .refl _, .refl _, ⟨rfl, rfl, by simp [be2], ?_⟩, trivial⟩
    exact put_row s [u8 (x.fdiv 256)] x _ (by rw [show shrOp .u16 x (8 * 0) = x from by simp [shrOp]]; rfl)
  | 0, _ =>
    conv => whnf
    refine ⟨_, _, .refl _, ?_, rfl, rfl⟩
    exact ⟨OLe.refl _, trivial⟩
/-- The bytes of numbers. -/
abbrev enc32 (x : Int) : List D := [.i .u32 x]
abbrev Sr32 (s : List UInt8) (l : List Int) (id k : Nat) : Env × Heap := ([(0, .rsl id 1 0 (s ++ (l.take k).flatMap be4).length), (7, .d (slT 1 enc32 l)), (8, tvi l.length), (9, tvi k)], [(id, rowB (s ++ (l.take k).flatMap be4))])
theorem take32 (l : List Int) (k : Nat) (h : k < l.length) : (l.take (k + 1)).flatMap be4 = (l.take k).flatMap be4 ++ be4 (l.getD k default) := by
  rw [List.take_add_one, List.flatMap_append, List.getD_eq_getElem?_getD, List.getElem?_eq_getElem h]
  simp
theorem len32 (l : List Int) : (l.flatMap be4).length = 4 * l.length := by
  induction l with
  | nil => rfl
  | cons x r ih => rw [List.flatMap_cons, List.length_append, ih, show (be4 x).length = 4 from rfl, List.length_cons]; omega
theorem rows32_spec (s : List UInt8) (l : List Int) (hs : s.length ≤ 2 ^ 39) (hl : l.length ≤ 2 ^ 30) (h0 : l ≠ []) : LSpec Tryz.prog 154 [.rsl E0 1 0 s.length, .d (slT 1 enc32 l)] [(E0, rowB s)] (fun r hl => r = .rsl 1000 1 0 (s ++ l.flatMap be4).length ∧ hl = [(1000, rowB (s ++ l.flatMap be4))]) := by
  refine LSpec.run (tysXOk false [] [(156, [])] []) followsB Tryz.func154 (by decide) rfl Tryz.ntmps154 (Nat.le_of_ble_eq_true rfl) rfl rfl fun w0 R0 Lo hGw => ?_
  conv => whnf
  refine ALoop.introR (tysXOk false [] [(156, [])] []) followsB (fun k : {k // k ≤ l.length} => Sr32 s l (match k.1 with | 0 => E0 | _ + 1 => 1000) k.1) (fun k => l.length - k.1) ⟨0, by omega⟩ ⟨.of_eq (congrArg (AVal.rsl E0 1 0) (by simp)), .refl _, .refl _, .refl _, ⟨rfl, rfl, by simp, fun k hk => by simp⟩, trivial⟩ ?_
  rintro ⟨k, hk⟩
  have hlt : 0 < l.length := List.length_pos_iff.2 h0
  dsimp only
  have hb : (s ++ (l.take k).flatMap be4).length ≤ 2 ^ 40 := by
    rw [List.length_append, len32, List.length_take]; omega
  have round : ∀ (h1 : k < l.length) (w' : List UInt8), w' = s ++ (l.take k).flatMap be4 ++ be4 (l.getD k default) → w' = s ++ (l.take (k + 1)).flatMap be4 := by
    intro h1 w' e
    rw [e, take32 l k h1, List.append_assoc]
  rcases k with _ | k
  · conv => whnf
    split <;> rename_i h1
    · have h1 : 0 < l.length := hlt
      conv => whnf
      refine ⟨by first | omega | (simp only [Int.toNat_natCast]; omega) | (simp; done) | (simp; omega), ?_⟩
      conv => whnf
      refine ⟨_, put32_spec _ _ hb, ?_⟩
      rintro q hq ⟨rfl, rfl⟩
      conv => whnf
      refine ⟨by first | omega | (simp only [Int.toNat_natCast]; omega) | (simp; done) | (simp; omega), ?_⟩
      conv => whnf
      refine ⟨⟨1, by omega⟩, [(16000, 1000)], by dsimp only; omega, .of_eq (congrArg (fun q => AVal.rsl 1000 1 0 (List.length q)) (round h1 _ rfl)), .refl _, .refl _, .refl _, ?_, trivial⟩
      rw [← round h1 _ rfl]
      exact OLe.refl _
    · exact absurd (Int.ofNat_lt.2 hlt) (of_decide_eq_false h1)
  · conv => whnf
    split <;> rename_i h1
    · have h1 : k + 1 < l.length := Int.ofNat_lt.1 (of_decide_eq_true h1)
      conv => whnf
      refine ⟨by first | omega | (simp only [Int.toNat_natCast]; omega) | (simp; done) | (simp; omega), ?_⟩
      conv => whnf
      refine ⟨_, put32_spec _ _ hb, ?_⟩
      rintro q hq ⟨rfl, rfl⟩
      conv => whnf
      refine ⟨by first | omega | (simp only [Int.toNat_natCast]; omega) | (simp; done) | (simp; omega), ?_⟩
      conv => whnf
      refine ⟨⟨k + 1 + 1, by omega⟩, [(16000, 1000)], by dsimp only; omega, .of_eq (congrArg (fun q => AVal.rsl 1000 1 0 (List.length q)) (round h1 _ rfl)), .refl _, .refl _, .refl _, ?_, trivial⟩
      rw [← round h1 _ rfl]
      exact OLe.refl _
    · have h1 : ¬ k + 1 < l.length := fun h => of_decide_eq_false h1 (Int.ofNat_lt.2 h)
      have e : l.take (k + 1) = l := List.take_of_length_le (by omega)
      conv => whnf
      rw [e]
      refine ⟨_, _, .refl _, ?_, rfl, rfl⟩
      exact ⟨OLe.refl _, trivial⟩
/-- The bytes of numbers. -/
abbrev enc16 (x : Int) : List D := [.i .u16 x]
abbrev Sr16 (s : List UInt8) (l : List Int) (id k : Nat) : Env × Heap := ([(0, .rsl id 1 0 (s ++ (l.take k).flatMap be2).length), (7, .d (slT 1 enc16 l)), (8, tvi l.length), (9, tvi k)], [(id, rowB (s ++ (l.take k).flatMap be2))])
theorem take16 (l : List Int) (k : Nat) (h : k < l.length) : (l.take (k + 1)).flatMap be2 = (l.take k).flatMap be2 ++ be2 (l.getD k default) := by
  rw [List.take_add_one, List.flatMap_append, List.getD_eq_getElem?_getD, List.getElem?_eq_getElem h]
  simp
theorem len16 (l : List Int) : (l.flatMap be2).length = 2 * l.length := by
  induction l with
  | nil => rfl
  | cons x r ih => rw [List.flatMap_cons, List.length_append, ih, show (be2 x).length = 2 from rfl, List.length_cons]; omega
theorem rows16_spec (s : List UInt8) (l : List Int) (hs : s.length ≤ 2 ^ 39) (hl : l.length ≤ 2 ^ 30) (h0 : l ≠ []) : LSpec Tryz.prog 155 [.rsl E0 1 0 s.length, .d (slT 1 enc16 l)] [(E0, rowB s)] (fun r hl => r = .rsl 1000 1 0 (s ++ l.flatMap be2).length ∧ hl = [(1000, rowB (s ++ l.flatMap be2))]) := by
  refine LSpec.run (tysXOk false [] [(183, [])] []) followsB Tryz.func155 (by decide) rfl Tryz.ntmps155 (Nat.le_of_ble_eq_true rfl) rfl rfl fun w0 R0 Lo hGw => ?_
  conv => whnf
  refine ALoop.introR (tysXOk false [] [(183, [])] []) followsB (fun k : {k // k ≤ l.length} => Sr16 s l (match k.1 with | 0 => E0 | _ + 1 => 1000) k.1) (fun k => l.length - k.1) ⟨0, by omega⟩ ⟨.of_eq (congrArg (AVal.rsl E0 1 0) (by simp)), .refl _, .refl _, .refl _, ⟨rfl, rfl, by simp, fun k hk => by simp⟩, trivial⟩ ?_
  rintro ⟨k, hk⟩
  have hlt : 0 < l.length := List.length_pos_iff.2 h0
  dsimp only
  have hb : (s ++ (l.take k).flatMap be2).length ≤ 2 ^ 40 := by
    rw [List.length_append, len16, List.length_take]; omega
  have round : ∀ (h1 : k < l.length) (w' : List UInt8), w' = s ++ (l.take k).flatMap be2 ++ be2 (l.getD k default) → w' = s ++ (l.take (k + 1)).flatMap be2 := by
    intro h1 w' e
    rw [e, take16 l k h1, List.append_assoc]
  rcases k with _ | k
  · conv => whnf
    split <;> rename_i h1
    · have h1 : 0 < l.length := hlt
      conv => whnf
      refine ⟨by first | omega | (simp only [Int.toNat_natCast]; omega) | (simp; done) | (simp; omega), ?_⟩
      conv => whnf
      refine ⟨_, put16_spec _ _ hb, ?_⟩
      rintro q hq ⟨rfl, rfl⟩
      conv => whnf
      refine ⟨by first | omega | (simp only [Int.toNat_natCast]; omega) | (simp; done) | (simp; omega), ?_⟩
      conv => whnf
      refine ⟨⟨1, by omega⟩, [(16000, 1000)], by dsimp only; omega, .of_eq (congrArg (fun q => AVal.rsl 1000 1 0 (List.length q)) (round h1 _ rfl)), .refl _, .refl _, .refl _, ?_, trivial⟩
      rw [← round h1 _ rfl]
      exact OLe.refl _
    · exact absurd (Int.ofNat_lt.2 hlt) (of_decide_eq_false h1)
  · conv => whnf
    split <;> rename_i h1
    · have h1 : k + 1 < l.length := Int.ofNat_lt.1 (of_decide_eq_true h1)
      conv => whnf
      refine ⟨by first | omega | (simp only [Int.toNat_natCast]; omega) | (simp; done) | (simp; omega), ?_⟩
      conv => whnf
      refine ⟨_, put16_spec _ _ hb, ?_⟩
      rintro q hq ⟨rfl, rfl⟩
      conv => whnf
      refine ⟨by first | omega | (simp only [Int.toNat_natCast]; omega) | (simp; done) | (simp; omega), ?_⟩
      conv => whnf
      refine ⟨⟨k + 1 + 1, by omega⟩, [(16000, 1000)], by dsimp only; omega, .of_eq (congrArg (fun q => AVal.rsl 1000 1 0 (List.length q)) (round h1 _ rfl)), .refl _, .refl _, .refl _, ?_, trivial⟩
      rw [← round h1 _ rfl]
      exact OLe.refl _
    · have h1 : ¬ k + 1 < l.length := fun h => of_decide_eq_false h1 (Int.ofNat_lt.2 h)
      have e : l.take (k + 1) = l := List.take_of_length_le (by omega)
      conv => whnf
      rw [e]
      refine ⟨_, _, .refl _, ?_, rfl, rfl⟩
      exact ⟨OLe.refl _, trivial⟩
end Go.Proofs.YtbghocipmlobnaaGreat
