/- Chapter 6: the iterator: what is handed on, round by round. -/
import Derived.RangeFuncNested
import Derived.RangeFuncBox
import Derived.RangeFuncBound
import Derived.RangeFuncCalls
import Derived.RangeFuncLeaves
import Derived.Shelf.Abstract
import Derived.Shelf.RegionOpen
import Derived.WalkKit
import Derived.OwnWalkIn
import Derived.TacticsInMore
import Derived.LoopNIn
import Derived.LoopIn
import Derived.Maps.AppendAt
import Derived.Test.YtcdondbegnbdgaaDoorTlvE
namespace Go.Proofs.YtcdondbegnbdgaaDoor
open Go Go.RowKit Go.Shelf Towline Towline.Tlv
set_option linter.unusedVariables false
set_option linter.unusedSimpArgs false
attribute [local go_sem] Oper.semAt_some
abbrev strV (s : List UInt8) : Value := .string ⟨s.toArray⟩
abbrev itV (x : Tlv.It) : Value := .agg #[.int .i64 x.ty, strV x.v]
abbrev plV (r : Rd) : Value := .agg #[.int .i64 (r.place : Int), .int .i64 r.err]
/-- What a contract says of numbers and texts, as a call. -/
theorem first_calls (s : List UInt8) (h : s.length ≤ 2 ^ 40) (w : World) : Calls Tryd.prog 91 #[strV s] w fun e w' => e = .returned (.tuple #[itV (firstL s).1, .int .i64 ((firstL s).2.1 : Int), .int .i64 (firstL s).2.2]) ∧ Below w.heap.size w w' := by
  refine ((first_spec s h).2 w (fun _ => False) #[strV s] (fun b hb => hb.elim) rfl (fun i x hx => ?_)).mono ?_
  · match i, hx with
    | 0, hx => cases hx; exact .d (.s s)
  · rintro e w' ⟨v, r, rfl, rfl, hb, hd, hr⟩
    refine ⟨?_, hb⟩
    cases hr with
    | @tup _ _ vs hz hr =>
      obtain ⟨l⟩ := vs
      match l, hz with
      | [a, b, c], _ =>
        have h0 := hr 0 _ rfl
        have h1 : b = .int .i64 ((firstL s).2.1 : Int) := repA_i (hr 1 _ rfl)
        have h2 : c = .int .i64 (firstL s).2.2 := repA_i (hr 2 _ rfl)
        rw [h1, h2]
        cases h0 with
        | @agg _ _ vs hz _ hr0 =>
          obtain ⟨l⟩ := vs
          match l, hz with
          | [a, b], _ =>
            have h0 : a = .int .i64 (firstL s).1.ty := repA_i (hr0 0 _ rfl)
            have h1 : b = strV (firstL s).1.v := repA_s (hr0 1 _ rfl)
            rw [h0, h1]
set_option maxRecDepth 100000 in
set_option maxHeartbeats 1000000 in
theorem items_in (n : Nat) (s : List UInt8) (w : World) :
    CallsIn Fence.wide n Tryd.prog 85 #[strV s] w fun e w' => e = .returned (.func (.func 90) #[] #[.pointer (some ⟨w.heap.size, 0, none⟩)]) ∧ w' = w.alloc (.cells #[strV s] 9) := by
  refine callsIn_of_wp Tryd.func85 rfl trivial ?_ rfl
  simp only [Tryd.ntmps85, List.size_toArray, List.length_cons, List.length_nil, Nat.reduceAdd, Nat.reduceSub, Array.replicate_succ, Array.replicate_zero, List.push_toArray, List.append_toArray, List.nil_append, List.cons_append]
  gi_wp2
  go_ret
  exact ⟨rfl, rfl⟩
abbrev encsR (r : Rd) : Array Value := #[plV r, itV r.x]
theorem ex_drop (s : List UInt8) (k : Nat) : (⟨s.toArray⟩ : ByteArray).extract k s.length = ⟨(s.drop k).toArray⟩ := by
  apply ByteArray.ext
  rw [ByteArray.data_extract]
  apply Array.toList_inj.1
  rw [Array.toList_extract]
  simp only [List.extract_eq_take_drop]
  exact List.take_of_length_le (by rw [List.length_drop]; omega)
theorem wrap_step {k f : Nat} (h : k + f ≤ 2 ^ 41) : wrap64 ((k : Int) + (f : Int)) = ((k + f : Nat) : Int) := by
  unfold wrap64
  omega
theorem Below.abides {β : Type} {B : Nat} {J : β → World → Prop} (hJ : AbidesFrom B J) {s : β} {W W' : World} (h : Below W.heap.size W W') (hs : J s W) : J s W' :=
  hJ s W W' none hs ⟨h.os, h.tape, h.output, h.size, fun k hk _ => h.block k hk⟩ (fun r e => by cases e)
theorem AbidesFrom.alloc {β : Type} {B : Nat} {J : β → World → Prop} (hJ : AbidesFrom B J) {s : β} {W : World} (o : Obj) (hs : J s W) : J s (W.alloc o) :=
  hJ s W _ none hs (World.grownBy_alloc W o none) (fun r e => by cases e)
/-- What a round keeps: what lay below n₀, and the text in its box. -/
def KpS (Bn n₀ : Nat) (s : List UInt8) (W W' : World) : Prop := Below n₀ W W' ∧ (W.cell? ⟨Bn, 0, none⟩ = some (strV s) → W'.cell? ⟨Bn, 0, none⟩ = some (strV s))
set_option maxRecDepth 100000 in
set_option maxHeartbeats 2000000 in
theorem items1_in (n : Nat) (hn : 2 ≤ n) (l Bn n₀ : Nat) (s : List UInt8) (hs : s.length ≤ 2 ^ 40) (J Jx : List Rd → World → Prop) (W0 : World) (hJ : AbidesFrom W0.heap.size J)
    (hY : ∀ pre x W, J pre W → pre.length < (yl s 0).length → YieldAt Fence.wide (n - 1) Tryd.prog l (encsR x) W fun e W' =>
      (e = .returned (.bool true) ∧ J (pre ++ [x]) W' ∧ KpS Bn n₀ s W W') ∨ (e = .returned (.bool false) ∧ Jx (pre ++ [x]) W'))
    (hBn : W0.cell? ⟨Bn, 0, none⟩ = some (strV s)) (h0 : J [] W0) :
    CallsIn Fence.wide n Tryd.prog 90 #[.func (.yield l) #[] #[], .pointer (some ⟨Bn, 0, none⟩)] W0 fun e W' => (∃ v, e = .returned v) ∧
      ((∃ ys, ys = yl s 0 ∧ J ys W') ∨ (∃ pre, pre <+: yl s 0 ∧ Jx pre W')) := by
  refine callsIn_of_wp Tryd.func90 rfl trivial ?_ rfl
  simp only [Tryd.ntmps90, List.size_toArray, List.length_cons, List.length_nil, Nat.reduceAdd, Nat.reduceSub, Array.replicate_succ, Array.replicate_zero, List.push_toArray, List.append_toArray, List.nil_append, List.cons_append]
  gi_wp2
  gi_loopw [3] (fun p wr => ∃ (pre : List Rd) (k : Nat), p = .int .i64 (k : Int) ∧ k ≤ s.length ∧ yl s 0 = pre ++ yl (s.drop k) k ∧ wr.cell? ⟨Bn, 0, none⟩ = some (strV s) ∧ J pre wr)
    (fun p wr => s.length - (intOf p).toNat)
  case atStart =>
    exact ⟨[], 0, rfl, by omega, rfl, hBn, h0⟩
  case round =>
    obtain ⟨pre, k, rfl, hk, hy, hc, hJs⟩ := hrel
    by_cases hk2 : k < s.length
    · have hlen : (s.drop k).length = s.length - k := List.length_drop
      have hex : (⟨s.toArray⟩ : ByteArray).extract k s.length = ⟨(s.drop k).toArray⟩ := ex_drop s k
      gi_wp2_with (refine ⟨trivial, fun _ => (by omega), ?_⟩)
      refine (callsIn_wide.2 (first_calls (s.drop k) (by omega) _)).mono ?_
      rintro e w1 ⟨rfl, hb1⟩
      dsimp only
      have hJ2 := AbidesFrom.alloc hJ (.cells #[.int .i64 (firstL (s.drop k)).1.ty, strV (firstL (s.drop k)).1.v] 80) (Below.abides hJ hb1 hJs)
      have hc1 : w1.cell? ⟨Bn, 0, none⟩ = some (strV s) := (hb1.cell (p := ⟨Bn, 0, none⟩) (cell_lt hc)).trans hc
      have hc2 : (w1.alloc (.cells #[.int .i64 (firstL (s.drop k)).1.ty, strV (firstL (s.drop k)).1.v] 80)).cell? ⟨Bn, 0, none⟩ = some (strV s) := (((Below.refl _ w1).alloc (Nat.le_refl _) _).cell (p := ⟨Bn, 0, none⟩) (cell_lt hc1)).trans hc1
      have hne : (yl (s.drop k) k).length ≠ 0 := by
        by_cases h2 : (firstL (s.drop k)).2.2 = 0
        · rw [yl_go (by omega) h2]; simp
        · rw [yl_bad (by omega) h2]; simp
      obtain ⟨fn, tmps, assign, body, hyy, hR⟩ := hY pre ⟨k, (firstL (s.drop k)).2.2, (firstL (s.drop k)).1⟩ _ hJ2 (by rw [hy, List.length_append]; omega)
      try dsimp only at hyy
      gi_wp2
      refine ⟨fun _ => by omega, hR.mono ?_⟩
      rintro e W3 (⟨rfl, hJ3, hk3⟩ | ⟨rfl, hJx3⟩)
      · gi_wp2
        · have h2 : (firstL (s.drop k)).2.2 ≠ 0 := by
            intro h2
            simp_all
          refine bodyPost_ret (results_none rfl _ _ _) rfl ?_
          exact ⟨⟨_, rfl⟩, .inl ⟨_, by rw [hy, yl_bad (by omega) h2], hJ3⟩⟩
        · have h2 : (firstL (s.drop k)).2.2 = 0 := by simp_all
          have h3 := firstL_pos h2
          rw [h2] at hJ3
          go_roundw
          case rel =>
            refine ⟨pre ++ [⟨k, 0, (firstL (s.drop k)).1⟩], k + (firstL (s.drop k)).2.1, ?_, by omega, ?_, hk3.2 hc2, hJ3⟩
            · rw [wrap_step (by omega)]
            · rw [hy, yl_go (by omega) h2, List.append_assoc, List.drop_drop]
              rfl
          case measure =>
            rw [wrap_step (by omega)]
            show s.length - (k + (firstL (s.drop k)).2.1) < s.length - k
            omega
      · gi_wp2
        refine bodyPost_ret (results_none rfl _ _ _) rfl ?_
        refine ⟨⟨_, rfl⟩, .inr ⟨_, ?_, hJx3⟩⟩
        rw [hy]
        by_cases h2 : (firstL (s.drop k)).2.2 = 0
        · rw [yl_go (by omega) h2, h2]
          exact ⟨yl ((s.drop k).drop (firstL (s.drop k)).2.1) (k + (firstL (s.drop k)).2.1), by rw [List.append_assoc]; rfl⟩
        · rw [yl_bad (by omega) h2]
          exact ⟨[], by rw [List.append_nil]⟩
    · gi_wp2
      go_end0
      have e : yl (s.drop k) k = [] := yl_nil (by rw [List.length_drop]; omega)
      exact ⟨⟨_, rfl⟩, .inl ⟨pre, by rw [hy, e, List.append_nil], hJs⟩⟩
theorem items_stops (n : Nat) (hn : 2 ≤ n) (Bn n₀ : Nat) (s : List UInt8) (hs : s.length ≤ 2 ^ 40) (w : World)
    (hc : w.cell? ⟨Bn, 0, none⟩ = some (strV s)) :
    SeqStopsK Fence.wide n Tryd.prog 90 #[.pointer (some ⟨Bn, 0, none⟩)] encsR (KpS Bn n₀ s) (fun ys => ys = yl s 0) (fun pre => pre <+: yl s 0) (yl s 0).length w := fun l J Jx W hW hJ _ hY h0 =>
  items1_in n hn l Bn n₀ s hs J Jx W hJ hY ((hW.cell (p := ⟨Bn, 0, none⟩) (cell_lt hc)).trans hc) h0
theorem kpS_t {Bn n₀ : Nat} {s : List UInt8} {A B C : World} (h : KpS Bn n₀ s A B) (k : KpS Bn n₀ s B C) : KpS Bn n₀ s A C := ⟨h.1.trans k.1, fun hc => k.2 (h.2 hc)⟩
theorem kpS_b {Bn n₀ : Nat} {s : List UInt8} {w : World} (hn : n₀ ≤ w.heap.size) (W : World) (l : Nat) (o o' : Obj) (hl : w.heap.size ≤ l) (h : W.heap[l]? = some o) (h1 : o.isCells = false) (h2 : o.isWalk = false) : KpS Bn n₀ s W (W.putObj l o') :=
  ⟨belowK_b hn W l o o' hl h h1 h2, fun hc => cell_kept hc (grownBy_putObj' W l o') (fun r e => by cases e; exact ⟨_, h, h1⟩)⟩
/-- A block of cells. -/
def CellsAt (W : World) (B : Nat) (t : TypeId) (vs : Array Value) : Prop := W.heap[B]? = some (.cells vs t (0, 0))
theorem CellsAt.lt {W : World} {B : Nat} {t : TypeId} {vs : Array Value} (h : CellsAt W B t vs) : B < W.heap.size := (Array.getElem?_eq_some_iff.1 h).1
theorem CellsAt.kept {W W' : World} {row : Option Nat} {B : Nat} {t : TypeId} {vs : Array Value} (h : CellsAt W B t vs) (hg : W.grownBy W' row) (hne : some B ≠ row) : CellsAt W' B t vs := (hg.block B h.lt hne).trans h
theorem CellsAt.alloc {W : World} {B : Nat} {t : TypeId} {vs : Array Value} (h : CellsAt W B t vs) (o : Obj) : CellsAt (W.alloc o) B t vs := h.kept (World.grownBy_alloc W o none) (by simp)
theorem CellsAt.new (W : World) (t : TypeId) (vs : Array Value) : CellsAt (W.alloc (.cells vs t)) W.heap.size t vs := World.alloc_heap_new W _
theorem CellsAt.cell {W : World} {B : Nat} {t : TypeId} {vs : Array Value} (h : CellsAt W B t vs) (k : Nat) : W.cell? ⟨B, k, none⟩ = vs[k]? := by simp [World.cell?, show W.heap[B]? = _ from h]
theorem cellsAt_own {β : Type} (B : Nat) (t : TypeId) (vs : Array Value) : Own (fun (_ : β) W => CellsAt W B t vs) := fun s X Y row hs hg hrow =>
  hs.kept hg (fun e' => by obtain ⟨o, ho, hc⟩ := hrow B e'.symm; rw [show X.heap[B]? = _ from hs] at ho; cases ho; cases hc)
end Go.Proofs.YtcdondbegnbdgaaDoor
