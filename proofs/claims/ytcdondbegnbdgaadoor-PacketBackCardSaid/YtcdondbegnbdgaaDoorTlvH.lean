/- Chapter 6: Parse, walked. -/
import Derived.Test.YtcdondbegnbdgaaDoorTlvF
namespace Go.Proofs.YtcdondbegnbdgaaDoor
open Go Go.RowKit Go.Shelf Towline Towline.Tlv
set_option linter.unusedVariables false
set_option linter.unusedSimpArgs false
attribute [local go_sem] Oper.semAt_some
theorem infoI : (Tryd.prog.info? 80).map (fun i => (i.zero, i.size, i.bytes)) = some (some (.agg #[.int .i64 0, .string ⟨#[]⟩]), 2, 24) := by kernel_rfl
abbrev cellsI (l : List Rd) : List Value := l.flatMap fun r => [.int .i64 r.x.ty, strV r.x.v]
/-- What lies between two rounds. -/
def PI (w : World) (s : List UInt8) (pre : List Rd) (W : World) : Prop :=
  ((pre.all okR = true ∧ Boxed W w.heap.size 33 (.slice none 0 0) ∧ Boxed W (w.heap.size + 1) 3 (.int .i64 0) ∧ Boxed W (w.heap.size + 1 + 1) 39 (.int .i64 0) ∧ Boxed W (w.heap.size + 1 + 1 + 1 + 1) 9 (strV s)) ∧
    (∃ v, Boxed W (w.heap.size + 1 + 1 + 1) 33 v ∧ W.ownsRow w.heap.size 80 2 v pre.length (cellsI pre) ∧ True)) ∧ Below w.heap.size w W
/-- What lies when a round has left. -/
def PX (w : World) (c : Code) (pre : List Rd) (W : World) : Prop :=
  (c = .ret ∧ ∃ q r, pre = q ++ [r] ∧ r.err ≠ 0 ∧ Boxed W w.heap.size 33 (.slice none 0 0) ∧ Boxed W (w.heap.size + 1) 3 (.int .i64 (r.place : Int)) ∧ Boxed W (w.heap.size + 1 + 1) 39 (.int .i64 r.err)) ∧ Below w.heap.size w W
def PA (w : World) (s : List UInt8) (f : Nat → Nat → Act) (x : Rd) (a : Act) (W : World) : Prop :=
  ∃ Bp Bx, w.heap.size + 1 + 1 + 1 + 1 < Bp ∧ w.heap.size + 1 + 1 + 1 + 1 < Bx ∧ CellsAt W Bp 149 #[.int .i64 (x.place : Int), .int .i64 x.err] ∧ CellsAt W Bx 80 #[.int .i64 x.x.ty, strV x.x.v] ∧ a = f Bp Bx
theorem boxed_keep {W W' : World} {row : Option Nat} {B : Nat} {t : TypeId} {v : Value} (h : Boxed W B t v) (hg : W.grownBy W' row) (hr : ∀ r, row = some r → ∃ o : Obj, W.heap[r]? = some o ∧ o.isCells = false) : Boxed W' B t v :=
  boxed_own (β := Unit) B t (fun _ => v) () W W' row h hg hr
theorem pi_own {w : World} {s : List UInt8} {B : Nat} (hB : w.heap.size ≤ B) : OwnFrom B (PI w s) :=
  OwnFrom.and (OwnFrom.and (Own.from (fun q X Y row hs hg hr => ⟨hs.1, boxed_keep hs.2.1 hg hr, boxed_keep hs.2.2.1 hg hr, boxed_keep hs.2.2.2.1 hg hr, boxed_keep hs.2.2.2.2 hg hr⟩) _)
    (Own.from (holdsRow_own w.heap.size (w.heap.size + 1 + 1 + 1) 33 80 2 (fun pre => pre.length) (fun pre => cellsI pre) (fun _ _ => True)) _)) (ownFrom_below (Nat.le_refl _) hB)
theorem px_own {w : World} {B : Nat} (hB : w.heap.size ≤ B) (c : Code) : OwnFrom B (PX w c) :=
  OwnFrom.and (Own.from (fun q X Y row hs hg hr => by
    obtain ⟨h, q, r, e, he, h0, h1, h2⟩ := hs
    exact ⟨h, q, r, e, he, boxed_keep h0 hg hr, boxed_keep h1 hg hr, boxed_keep h2 hg hr⟩) _) (ownFrom_below (Nat.le_refl _) hB)
theorem pa_own {w : World} {s : List UInt8} {B : Nat} (f : Nat → Nat → Act) (x : Rd) (a : Act) : OwnFrom B (fun (_ : Unit) W => PA w s f x a W) :=
  Own.from (fun q X Y row hs hg hr => by
    obtain ⟨Bp, Bx, k1, k2, h1, h2, e⟩ := hs
    exact ⟨Bp, Bx, k1, k2, cellsAt_own (β := Unit) Bp _ _ () X Y row h1 hg hr, cellsAt_own (β := Unit) Bx _ _ () X Y row h2 hg hr, e⟩) _
theorem cell_two_new (w : World) (x y : Value) (t : TypeId) : ∀ j u, [x, y][j]? = some u → (w.alloc (.cells #[x, y] t)).cell? ((⟨w.heap.size, 0, none⟩ : Addr).add j) = some u := by
  intro j u hj
  match j, hj with
  | 0, hj =>
    simp at hj
    subst hj
    simp [Addr.add]
  | 1, hj =>
    simp at hj
    subst hj
    simp [Addr.add]
theorem row_set {W : World} {base B e t : Nat} {v u x : Value} {size k : Nat} {xs : List Value} (hb : Boxed W B t u) (hte : t ≠ e) (hrow : W.ownsRow base e size v k xs) : (W.setCell ⟨B, 0, none⟩ x).ownsRow base e size v k xs :=
  hrow.kept (grownBy_setCell' W B x) (.inr (hb.not_row hte hrow).symm)
theorem boxed_put {W : World} {B t D : Nat} {u : Value} (hb : Boxed W B t u) (hK : W.heap[D]? = some (.deferred (some []))) (o : Obj) : Boxed (W.putObj D o) B t u :=
  boxed_keep hb (grownBy_putObj' W D o) (fun r e => by cases e; exact ⟨_, hK, rfl⟩)
theorem parse_all {s : List UInt8} (hs : s.length ≤ 4000) (h : (yl s 0).all Tlv.okR = true) : parseL s = ((yl s 0).map (·.x), 0, 0) := by
  unfold parseL parseY
  rw [if_neg (by omega), if_pos h]
theorem parse_not {s : List UInt8} (hs : s.length ≤ 4000) {q : List Rd} {r : Rd} (h : q ++ [r] <+: yl s 0) (he : r.err ≠ 0) : parseL s = ([], (r.place : Int), r.err) := by
  have h := yl_stop he h
  have h1 : ¬ (yl s 0).all Tlv.okR = true := by
    rw [← h]
    simp [Tlv.okR, he]
  unfold parseL parseY
  rw [if_neg (by omega), if_neg h1, ← h]
  simp [List.getLastD_eq_getLast?]
set_option maxRecDepth 100000 in
set_option maxHeartbeats 1000000 in
theorem parse_in (n : Nat) (hn : 4 ≤ n) (s : List UInt8) (hs : s.length ≤ 4000) (w : World) :
    CallsIn Fence.wide n Tryd.prog 76 #[strV s] w fun e W' => ∃ v, e = .returned (.tuple #[v, .int .i64 (parseL s).2.1, .int .i64 (parseL s).2.2]) ∧ Below w.heap.size w W' ∧
      W'.ownsRow w.heap.size 80 2 v (parseL s).1.length ((parseL s).1.flatMap fun x => [.int .i64 x.ty, strV x.v]) := by
  obtain ⟨i0, hi, hz0, hz1, hz2⟩ := info_parts infoI
  refine callsIn_of_wp_marks Tryd.func76 rfl trivial ?_ rfl
  simp only [Tryd.ntmps76, List.size_toArray, List.length_cons, List.length_nil, Nat.reduceAdd, Nat.reduceSub, Array.replicate_succ, Array.replicate_zero, List.push_toArray, List.append_toArray, List.nil_append, List.cons_append]
  gi_wp2
  refine ⟨trivial, fun _ => by omega, ?_⟩
  refine (items_in (n - 1) s _).mono ?_
  rintro e w' ⟨rfl, rfl⟩
  dsimp only
  gi_wp2
  have b0 := Boxed.new w 33 (.slice none 0 0)
  have b1 := Boxed.new (w.alloc (.cells #[.slice none 0 0] 33)) 3 (.int .i64 0)
  have b2 := Boxed.new ((w.alloc (.cells #[.slice none 0 0] 33)).alloc (.cells #[.int .i64 0] 3)) 39 (.int .i64 0)
  have b3 := Boxed.new (((w.alloc (.cells #[.slice none 0 0] 33)).alloc (.cells #[.int .i64 0] 3)).alloc (.cells #[.int .i64 0] 39)) 33 (.slice none 0 0)
  have b4 := Boxed.new ((((w.alloc (.cells #[.slice none 0 0] 33)).alloc (.cells #[.int .i64 0] 3)).alloc (.cells #[.int .i64 0] 39)).alloc (.cells #[.slice none 0 0] 33)) 9 (strV s)
  simp only [World.size_alloc] at b1 b2 b3 b4 ⊢
  have hB0 : Below w.heap.size w (((((w.alloc (.cells #[.slice none 0 0] 33)).alloc (.cells #[.int .i64 0] 3)).alloc (.cells #[.int .i64 0] 39)).alloc (.cells #[.slice none 0 0] 33)).alloc (.cells #[strV s] 9)) :=
    (((((Below.refl _ w).alloc (Nat.le_refl _) _).alloc (by simp) _).alloc (by simp; omega) _).alloc (by simp; omega) _).alloc (by simp; omega) _
  have hsz : (((((w.alloc (.cells #[.slice none 0 0] 33)).alloc (.cells #[.int .i64 0] 3)).alloc (.cells #[.int .i64 0] 39)).alloc (.cells #[.slice none 0 0] 33)).alloc (.cells #[strV s] 9)).heap.size = w.heap.size + 1 + 1 + 1 + 1 + 1 := by simp
  have hI0 : PI w s [] (((((w.alloc (.cells #[.slice none 0 0] 33)).alloc (.cells #[.int .i64 0] 3)).alloc (.cells #[.int .i64 0] 39)).alloc (.cells #[.slice none 0 0] 33)).alloc (.cells #[strV s] 9)) :=
    ⟨⟨⟨rfl, (((b0.alloc _).alloc _).alloc _).alloc _, ((b1.alloc _).alloc _).alloc _, (b2.alloc _).alloc _, b4⟩, _, b3.alloc _, World.ownsRow_nil _ _ _ _, trivial⟩, hB0⟩
  obtain ⟨W0, hW0⟩ : ∃ W0, (((((w.alloc (.cells #[.slice none 0 0] 33)).alloc (.cells #[.int .i64 0] 3)).alloc (.cells #[.int .i64 0] 39)).alloc (.cells #[.slice none 0 0] 33)).alloc (.cells #[strV s] 9)) = W0 := ⟨_, rfl⟩
  rw [hW0] at hI0 hsz b4 hB0 ⊢
  clear b0 b1 b2 b3 hW0
  refine wpIn_rangeFunc_ownH rfl (by omega) (gf := 90) (lb := #[.pointer (some ⟨w.heap.size + 1 + 1 + 1 + 1, 0, none⟩)]) rfl trivial (enters_of Tryd.func90 (by kernel_rfl) rfl)
    (items_stops (n - 1) (by omega) (w.heap.size + 1 + 1 + 1 + 1) w.heap.size s (by omega) W0 b4.cell) kpS_t (kpS_b (by omega)) (Below.refl _ _) (fun _ => rfl)
    (PI w s) (PX w) (pi_own (by omega)) (px_own (by omega)) hI0
    (fun x => PA w s (fun Bp Bx => { tmps := #[strV s, undef, .pointer (some ⟨w.heap.size, 0, none⟩), .pointer (some ⟨w.heap.size + 1, 0, none⟩), .pointer (some ⟨w.heap.size + 1 + 1, 0, none⟩), .pointer (some ⟨w.heap.size + 1 + 1 + 1, 0, none⟩), .pointer (some ⟨Bp, 0, none⟩), .pointer (some ⟨Bx, 0, none⟩), strV s, .int .i64 s.length, .bool (decide (4000 < (s.length : Int))), strV s, .func (.func 90) #[] #[.pointer (some ⟨w.heap.size + 1 + 1 + 1 + 1, 0, none⟩)], plV x, itV x.x, undef, undef, undef, undef, undef, undef, undef, undef, undef, undef, undef, undef], defers := [] }) x)
    (fun x a' => pa_own (s := s) _ x a') ?assign ?body ?done ?stop
  case assign =>
    rintro l pre x W K hi hK
    gi_wp2
    have h4 := hi.1.1.2.2.2.2.lt
    have hc2 := CellsAt.new (W.alloc (.cells #[.int .i64 (x.place : Int), .int .i64 x.err] 149)) 80 #[.int .i64 x.x.ty, strV x.x.v]
    rw [World.size_alloc] at hc2
    exact hK _ _ (((KeepsOthers.alloc _ _).trans (KeepsOthers.alloc _ _)).from _) ⟨((Below.refl _ W).alloc (by omega) _).alloc (by simp; omega) _, fun hc => ((hi.1.1.2.2.2.2.alloc _).alloc _).cell⟩
      ((pi_own (Nat.le_refl _)).alloc _ ((pi_own (Nat.le_refl _)).alloc _ hi)) ⟨W.heap.size, W.heap.size + 1, by omega, by omega, (CellsAt.new W _ _).alloc _, hc2, rfl⟩
  case body =>
    rintro l pre x a' W hl hr hi ⟨Bp, Bx, k1, k2, hp, hx, rfl⟩ hlt
    have hp0 := hp.cell 0
    have hp1 := hp.cell 1
    have hx0 := hx.cell 0
    have hx1 := hx.cell 1
    obtain ⟨⟨⟨hok, b0, b1, b2, b4'⟩, v, b3, hrow, -⟩, hB⟩ := hi
    have c0 := b0.cell
    have c1 := b1.cell
    have c2 := b2.cell
    have c3 := b3.cell
    have f0 := b0.frozen
    have f1 := b1.frozen
    have f2 := b2.frozen
    have f3 := b3.frozen
    have hmx : Tryd.prog.follows .mixedOrders = true := by kernel_rfl
    have hpl : pre.length ≤ 4000 := by have := yl_len s 0; omega
    by_cases he : x.err = 0
    · have hn : (x.err != 0) = false := by simp [he]
      gi_wp2_with (gi_at_builtin; refine wpListIn_append_own _ rfl _ _ 33 rfl w.heap.size 80 i0 _ 2 24 Tryd.underlying33 hi hz0 hz1 hz2 rfl (by decide) _ _ _ rfl (hrow.alloc _) ⟨W.heap.size, 0, none⟩ 1 1 [.int .i64 x.x.ty, strV x.x.v] rfl rfl (cell_two_new _ _ _ _) (by simp [Value.oneCell']) (by simp only [maxLen]; omega) (by omega) (by have := hB.size; simp; omega) ?_; intro v' w1 hown' hgrow _; obtain ⟨g', cap', rfl⟩ := ownsRow_succ hown'; obtain ⟨hv1, hv2, hr2, hk2, hb2⟩ := b3.appended (by decide) hrow hB.size (by omega) hown' hgrow; have hc1 := hv1.cell; have hf1 := hv1.frozen)
      have k0 := ((b0.alloc _).kept hgrow (b0.not_row (by decide) hrow)).other (B' := w.heap.size + 1 + 1 + 1) (by omega) (.slice (some ⟨g', 0, none⟩) (pre.length + 1) cap')
      have k1 := ((b1.alloc _).kept hgrow (b1.not_row (by decide) hrow)).other (B' := w.heap.size + 1 + 1 + 1) (by omega) (.slice (some ⟨g', 0, none⟩) (pre.length + 1) cap')
      have k2 := ((b2.alloc _).kept hgrow (b2.not_row (by decide) hrow)).other (B' := w.heap.size + 1 + 1 + 1) (by omega) (.slice (some ⟨g', 0, none⟩) (pre.length + 1) cap')
      have k4 := ((b4'.alloc _).kept hgrow (b4'.not_row (by decide) hrow)).other (B' := w.heap.size + 1 + 1 + 1) (by omega) (.slice (some ⟨g', 0, none⟩) (pre.length + 1) cap')
      refine ⟨hk2.from _, ⟨hb2, fun _ => k4.cell⟩, ⟨⟨?_, k0, k1, k2, k4⟩, _, hv2, ?_, trivial⟩, hB.trans hb2⟩
      · simp [hok, Tlv.okR, he]
      · have e1 : (pre ++ [x]).length = pre.length + 1 := by simp
        have e2 : cellsI (pre ++ [x]) = cellsI pre ++ [.int .i64 x.x.ty, strV x.x.v] := by simp [cellsI]
        rw [e1, e2]
        exact hr2
    · have hn : (x.err != 0) = true := by simp [he]
      have hret : ∀ a, ownPostG W0.heap.size (KpS (w.heap.size + 1 + 1 + 1 + 1) w.heap.size s) (PI w s) (PX w) (pre ++ [x]) W Exit.ret a (((W.setCell ⟨w.heap.size, 0, none⟩ (.slice none 0 0)).setCell ⟨w.heap.size + 1, 0, none⟩ (.int .i64 (x.place : Int))).setCell ⟨w.heap.size + 1 + 1, 0, none⟩ (.int .i64 x.err)).drew := fun a =>
        ⟨((((KeepsOthers.setCell _ _ _).trans (KeepsOthers.setCell _ _ _)).trans (KeepsOthers.setCell _ _ _)).trans (KeepsOthers.drew _)).from _,
          ⟨rfl, pre, x, rfl, he, ((b0.set _).other (by omega) _).other (by omega) _, ((b1.other (by omega) _).set _).other (by omega) _, ((b2.other (by omega) _).other (by omega) _).set _⟩,
          (((hB.setCell (p := ⟨w.heap.size, 0, none⟩) (Nat.le_refl _) _).setCell (p := ⟨w.heap.size + 1, 0, none⟩) (by simp) _).setCell (p := ⟨w.heap.size + 1 + 1, 0, none⟩) (by simp; omega) _).drew⟩
      gi_wp2
      gi_region_o
      all_goals gi_wp2
      all_goals (try go_bits)
      all_goals exact hret _
  case done =>
    rintro D ys W hD rfl ⟨⟨⟨hok, b0, b1, b2, b4'⟩, v, b3, hrow, -⟩, hB⟩ hK
    have c0 := b0.cell
    have c1 := b1.cell
    have c2 := b2.cell
    have c3 := b3.cell
    have f0 := b0.frozen
    have f1 := b1.frozen
    have f2 := b2.frozen
    have hv : ∃ ad k cap, v = .slice ad k cap := by
      rcases hrow.2 with ⟨rfl, _⟩ | ⟨g, cap, cur, rfl, _⟩
      · exact ⟨_, _, _, rfl⟩
      · exact ⟨_, _, _, rfl⟩
    obtain ⟨ad, k, cap, rfl⟩ := hv
    gi_wp2
    have b0' := ((b0.set (.slice ad k cap)).other (B' := w.heap.size + 1) (by omega) (.int .i64 0)).other (B' := w.heap.size + 1 + 1) (by omega) (.int .i64 0)
    have b1' := ((b1.other (B' := w.heap.size) (by omega) (.slice ad k cap)).set (.int .i64 0)).other (B' := w.heap.size + 1 + 1) (by omega) (.int .i64 0)
    have b2' := ((b2.other (B' := w.heap.size) (by omega) (.slice ad k cap)).other (B' := w.heap.size + 1) (by omega) (.int .i64 0)).set (.int .i64 0)
    have r1 := row_set (x := .slice ad k cap) b0 (by decide) hrow
    have r2 := row_set (x := .int .i64 0) (b1.other (B' := w.heap.size) (by omega) (.slice ad k cap)) (by decide) r1
    have r3 := row_set (x := .int .i64 0) ((b2.other (B' := w.heap.size) (by omega) (.slice ad k cap)).other (B' := w.heap.size + 1) (by omega) (.int .i64 0)) (by decide) r2
    have hB3 := ((hB.setCell (p := ⟨w.heap.size, 0, none⟩) (Nat.le_refl _) (.slice ad k cap)).setCell (p := ⟨w.heap.size + 1, 0, none⟩) (by simp) (.int .i64 0)).setCell (p := ⟨w.heap.size + 1 + 1, 0, none⟩) (by simp; omega) (.int .i64 0)
    have hK' := (((KeepsOthers.setCell W ⟨w.heap.size, 0, none⟩ (.slice ad k cap)).trans (KeepsOthers.setCell _ ⟨w.heap.size + 1, 0, none⟩ (.int .i64 0))).trans (KeepsOthers.setCell _ ⟨w.heap.size + 1 + 1, 0, none⟩ (.int .i64 0))).same D _ hK rfl
    refine ⟨by simp, .inl ⟨_, _, rfl, run_takeDeferred hK', ?_⟩⟩
    have k0 := (boxed_put b0' hK' (.deferred none)).cell
    have k1 := (boxed_put b1' hK' (.deferred none)).cell
    have k2 := (boxed_put b2' hK' (.deferred none)).cell
    rw [parse_all (by omega) hok]
    refine ⟨.tuple #[.slice ad k cap, .int .i64 0, .int .i64 0], ?_, .slice ad k cap, rfl, hB3.trans (belowK_b (w := w) (Nat.le_refl _) _ D _ _ (by omega) hK' rfl rfl), ?_⟩
    · simp [results, Tryd.f76, go_sem, k0, k1, k2]
    · have e := ownsRow_putObj r3 (.deferred none) hK' rfl
      rw [show (((yl s 0).map (·.x)).flatMap fun x => [Value.int .i64 x.ty, strV x.v]) = cellsI (yl s 0) from by rw [List.flatMap_map], List.length_map]
      exact e
  case stop =>
    rintro D c pre W hD hpre ⟨⟨rfl, q, r, rfl, he, b0, b1, b2⟩, hB⟩ hK
    gi_wp2
    refine ⟨by simp, .inl ⟨_, _, rfl, run_takeDeferred hK, ?_⟩⟩
    have k0 := (boxed_put b0 hK (.deferred none)).cell
    have k1 := (boxed_put b1 hK (.deferred none)).cell
    have k2 := (boxed_put b2 hK (.deferred none)).cell
    rw [parse_not (by omega) hpre he]
    refine ⟨.tuple #[.slice none 0 0, .int .i64 (r.place : Int), .int .i64 r.err], ?_, .slice none 0 0, rfl, hB.trans (belowK_b (w := w) (Nat.le_refl _) W D _ _ (by omega) hK rfl rfl), World.ownsRow_nil _ _ _ _⟩
    simp [results, Tryd.f76, go_sem, k0, k1, k2]
end Go.Proofs.YtcdondbegnbdgaaDoor
