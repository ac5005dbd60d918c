/- The engine, part five: all plain operations in one theorem. Over any program. -/
import Derived.Test.YtjdmnfjgmbnlbaaGreatDoorEngD
namespace Towline
open Go Go.RowKit
set_option linter.unusedVariables false
section
variable {P : Program} {T : Tys} {w : World} {gd : Nat → Prop} {L : Lay} {g : Nat → AVal} {h : Nat → Option AObj} {a : Act}
theorem box_ok {o : Oper} {l : List AVal} {tag : Option TypeId} {cs : Array Value} {t : TypeId} (htag : ∀ t', tag = some t' → t = t') (hrun : (execOp a.eval o).run P w = .ok (.value (.pointer (some ⟨w.heap.size, 0, none⟩))) (w.alloc (.cells cs t)))
    (hz : cs.size = l.length) (h1 : ∀ i, i < l.length → (cs.getD i undef).oneCell' = true) (hr : ∀ i x, l[i]? = some x → RepA w L gd x (cs.getD i undef)) (d : Nat) (hf : ∀ (i : Nat) (x : AVal), l[i]? = some x → x.free d = true) :
    MakesOk P w gd L a o d (.ptr d 0) (.box l tag) := by
  refine ⟨_, some w.heap.size, 0, _, hrun, (Below.refl _ _).alloc (Nat.le_refl _) _, fun b hb => by cases hb; simp, fun gd' hst _ => ⟨?_, ?_⟩⟩
  · refine .box htag (by simp [Lay.upd]) (heap_alloc_new w _) hz h1 fun i x hx => ?_
    refine RepA.mono (L := L) (L' := L.upd d (some w.heap.size) 0) (by simp) (· != d) (fun j hj => ?_) (fun b hlt hb => ⟨hb, heap_alloc_old w _ hlt⟩) (hr i x hx) hst (fun j hj => ?_)
    · have : j ≠ d := by simpa using hj
      simp [Lay.upd, this]
    · have : j = d := by simpa using hj
      rw [this]; exact hf i x hx
  · exact .ptr (by simp [Lay.upd])
theorem opnd_free {d : Nat} (hf : ∀ t, (g t).free d = true) (x : Operand) : (opnd g x).free d = true := by
  cases x with
  | tmp t => exact hf t
  | const v => cases v <;> rfl
  | global n => exact globV_free n d
  | func f => rfl
theorem cells_one {v : Value} (h : v.oneCell' = true) : v.cells = #[v] := by cases v <;> first | rfl | cases h
theorem dval_rep {x : D} (h : (x.val.oneCell' && match x with | .sl .. => false | .cl .. => false | .o => false | .pt _ => false | _ => true) = true) : RepD w gd x x.val := by
  cases x with
  | i k n => exact .i k n
  | b x => exact .b x
  | s l => exact .s l
  | v x => exact .v x (by simpa [D.val] using h)
  | sl => simp at h
  | cl => simp at h
  | o => simp at h
  | pt => simp at h
theorem zeroVal_cells {t : TypeId} {d : TyD} (hok : TyOk P t d) : d.zeroVal.cells.size = d.zero.length ∧ ∀ (i : Nat) (x : D), d.zero[i]? = some x → d.zeroVal.cells.getD i undef = x.val ∧ x.val.oneCell' = true ∧ RepD w gd x x.val := by
  have hall := hok.zone
  rw [List.all_eq_true] at hall
  have hone : ∀ (i : Nat) (x : D), d.zero[i]? = some x → x.val.oneCell' = true ∧ RepD w gd x x.val := by
    intro i x hx
    have := hall x (List.mem_of_getElem? hx)
    exact ⟨by simp at this; exact this.1, dval_rep this⟩
  unfold TyD.zeroVal
  cases hs : isStr d.kind with
  | true =>
    refine ⟨by simp [Value.cells], fun i x hx => ⟨?_, hone i x hx⟩⟩
    simp only [Value.cells, Array.getD_eq_getD_getElem?, List.getElem?_toArray, List.getElem?_map, hx]
    rfl
  | false =>
    have hw := hok.zwf
    rw [hs] at hw
    have hl : d.zero.length = 1 := by simpa using hw
    obtain ⟨y, hy⟩ := List.length_eq_one_iff.1 hl
    have h1 := hone 0 y (by rw [hy]; rfl)
    simp only [hy]
    rw [cells_one h1.1]
    refine ⟨rfl, fun i x hx => ?_⟩
    cases i with
    | zero => simp only [List.getElem?_cons_zero, Option.some.injEq] at hx; subst hx; exact ⟨rfl, h1⟩
    | succ i => simp at hx
theorem fieldAt_get : ∀ {n : Nat} {l : List (Nat × Nat × TypeId)} {x}, fieldAt n l = some x → l[n]? = some x
  | 0, x :: _, y, h => by simpa [fieldAt] using h
  | n + 1, _ :: r, y, h => by simp only [fieldAt] at h; simpa using fieldAt_get h
  | 0, [], y, h => by simp [fieldAt] at h
  | n + 1, [], y, h => by simp [fieldAt] at h
theorem listAt_get {α : Type} : ∀ {n : Nat} {l : List α} {x}, listAt n l = some x → l[n]? = some x
  | 0, x :: _, y, h => by simpa [listAt] using h
  | n + 1, _ :: r, y, h => by simp only [listAt] at h; simpa using listAt_get h
  | 0, [], y, h => by simp [listAt] at h
  | n + 1, [], y, h => by simp [listAt] at h
/-- What is filled into a struct. -/
theorem fold_over (vs : List Value) : ∀ (j off : Nat) (cs : Array Value), off + j + vs.length ≤ cs.size →
    ((vs.zipIdx j).foldl (fun cs (p : Value × Nat) => cs.setIfInBounds (off + p.2) p.1) cs).size = cs.size ∧
    ∀ i, ((vs.zipIdx j).foldl (fun cs (p : Value × Nat) => cs.setIfInBounds (off + p.2) p.1) cs).getD i undef = if off + j ≤ i ∧ i < off + j + vs.length then vs.getD (i - (off + j)) undef else cs.getD i undef := by
  induction vs with
  | nil => intro j off cs _; exact ⟨rfl, fun i => by rw [if_neg (by simp)]; rfl⟩
  | cons v vs ih =>
    intro j off cs hle
    simp only [List.length_cons] at hle
    obtain ⟨h1, h2⟩ := ih (j + 1) off (cs.setIfInBounds (off + j) v) (by simp; omega)
    simp only [List.zipIdx_cons, List.foldl_cons]
    refine ⟨by rw [h1]; simp, fun i => ?_⟩
    rw [h2 i]
    by_cases hi : i = off + j
    · subst hi
      rw [if_neg (by omega), if_pos (by simp)]
      simp [Array.getD_eq_getD_getElem?, show off + j < cs.size from by omega]
    · by_cases hc : off + (j + 1) ≤ i ∧ i < off + (j + 1) + vs.length
      · rw [if_pos hc, if_pos (by simp; omega)]
        rw [show i - (off + j) = (i - (off + (j + 1))) + 1 from by omega]
        simp
      · rw [if_neg hc, if_neg (by simp; omega)]
        simp only [Array.getD_eq_getD_getElem?, Array.getElem?_setIfInBounds]
        rw [if_neg (by omega)]
theorem aParts_ok (H : Holds w gd L g h a) {fs : List (Nat × Nat × TypeId)} {place : Nat → Option (Nat × Nat)} (hpl : ∀ (j : Nat) (x : Nat × Nat × TypeId), fs[j]? = some x → place j = some (x.1, x.2.1)) :
    ∀ (ps : List (Nat × Operand)) (l l' : List AVal) (cs : Array Value), aParts fs g ps l = some l' → cs.size = l.length → (∀ i, i < l.length → (cs.getD i undef).oneCell' = true) → (∀ i x, l[i]? = some x → RepA w L gd x (cs.getD i undef)) →
      ∃ cs', Instr.fill place cs (ps.map fun p => (p.1, a.eval p.2)) = some cs' ∧ cs'.size = l'.length ∧ (∀ i, i < l'.length → (cs'.getD i undef).oneCell' = true) ∧ ∀ i x, l'[i]? = some x → RepA w L gd x (cs'.getD i undef) := by
  intro ps
  induction ps with
  | nil => intro l l' cs hp hz h1 hr; simp only [aParts, Option.some.injEq] at hp; subst hp; exact ⟨cs, rfl, hz, h1, hr⟩
  | cons p ps ih =>
    intro l l' cs hp hz h1 hr
    obtain ⟨j, x⟩ := p
    simp only [aParts] at hp
    cases hf : fieldAt j fs with
    | none => rw [hf] at hp; cases hp
    | some fx =>
      obtain ⟨off, size, ft⟩ := fx
      rw [hf] at hp
      simp only at hp
      have hv := H.opnd x
      have hplace := hpl j _ (fieldAt_get hf)
      have key : ∀ vs : List AVal, (a.eval x).cells.size = vs.length → (∀ i, i < vs.length → ((a.eval x).cells.getD i undef).oneCell' = true) → (∀ i y, vs[i]? = some y → RepA w L gd y ((a.eval x).cells.getD i undef)) →
          vs.length = size → ∀ m, overF l off vs = some m → aParts fs g ps m = some l' →
          ∃ cs', Instr.fill place cs (((j, x) :: ps).map fun p => (p.1, a.eval p.2)) = some cs' ∧ cs'.size = l'.length ∧ (∀ i, i < l'.length → (cs'.getD i undef).oneCell' = true) ∧ ∀ i x, l'[i]? = some x → RepA w L gd x (cs'.getD i undef) := by
        intro vs k1 k2 k3 k4 m hm hrest
        obtain ⟨e1, e2, e3⟩ := overF_eq hm
        obtain ⟨f1, f2⟩ := fold_over (a.eval x).cells.toList 0 off cs (by simp; omega)
        simp only [Nat.add_zero, Array.length_toList] at f1 f2
        obtain ⟨cs', r1, r2⟩ := ih m l' _ hrest (by rw [f1]; omega) (fun i hi => by
            rw [f2 i]
            split
            · have := k2 (i - off) (by omega)
              simpa [List.getD_eq_getElem?_getD, Array.getD_eq_getD_getElem?] using this
            · exact h1 i (by omega)) (fun i y hy => by
            rw [f2 i]
            rw [e3] at hy
            by_cases hc : off ≤ i ∧ i < off + vs.length
            · rw [if_pos hc] at hy
              rw [if_pos (by omega)]
              have := k3 (i - off) y hy
              simpa [List.getD_eq_getElem?_getD, Array.getD_eq_getD_getElem?] using this
            · rw [if_neg hc] at hy
              rw [if_neg (by omega)]
              exact hr i y hy)
        refine ⟨cs', ?_, r2⟩
        simp only [List.map_cons, Instr.fill, hplace]
        rw [if_neg (by simp; omega)]
        rw [← Array.foldl_toList, Array.toList_zipIdx]
        exact r1
      cases hx : opnd g x with
      | any => rw [hx] at hp; cases hp
      | tup => rw [hx] at hp; cases hp
      | agg vl =>
        rw [hx] at hp hv
        simp only [AVal.cells] at hp
        cases hb : Nat.beq vl.length size with
        | false => rw [hb] at hp; cases hp
        | true =>
          rw [hb] at hp
          simp only at hp
          cases hm : overF l off vl with
          | none => rw [hm] at hp; cases hp
          | some m =>
            rw [hm] at hp
            obtain ⟨ws, hw, k1, k2, k3⟩ := repA_agg hv
            refine key vl ?_ ?_ ?_ (Nat.eq_of_beq_eq_true hb) m hm hp
            · rw [hw]; exact k1
            · rw [hw]; exact k2
            · rw [hw]; exact k3
      | _ =>
        rw [hx] at hp hv
        have hone := repA_one hv rfl
        have hcell := cells_one hone
        simp only [AVal.cells] at hp
        cases hb : Nat.beq (List.length [_]) size with
        | false => rw [hb] at hp; cases hp
        | true =>
          rw [hb] at hp
          simp only at hp
          cases hm : overF l off [_] with
          | none => rw [hm] at hp; cases hp
          | some m =>
            rw [hm] at hp
            refine key _ ?_ ?_ ?_ (Nat.eq_of_beq_eq_true hb) m hm hp
            · rw [hcell]; rfl
            · rw [hcell]; intro i hi; have : i = 0 := by simpa using hi
              subst this; exact hone
            · rw [hcell]; intro i y hy
              cases i with
              | zero => simp only [List.getElem?_cons_zero, Option.some.injEq] at hy; subst hy; exact hv
              | succ i => simp at hy
theorem places_of (P : Program) : ∀ (l : List Field), l.all (fun f => (P.info? f.type).isSome) = true →
    l.mapM (fun f => (P.info? f.type).map fun i => (f.offset, i.size)) = some ((l.map fun f => (f.offset, match P.info? f.type with | some i => i.size | none => 0, f.type)).map fun x => (x.1, x.2.1))
  | [], _ => rfl
  | f :: r, h => by
    simp only [List.all_cons, Bool.and_eq_true] at h
    obtain ⟨i, hi⟩ := Option.isSome_iff_exists.1 h.1
    simp only [List.mapM_cons, hi, Option.map_some, places_of P r h.2, Option.bind_eq_bind, Option.bind_some, Option.pure_def, List.map_cons]
theorem build_ok (hT : TysOk P T) (H : Holds w gd L g h a) {t : TypeId} {fs : List (Nat × Nat × TypeId)} {sz by_ : Nat} {z : List D} (ht : lookT t T = some ⟨.struct fs, sz, by_, z⟩) {ps : Array (Nat × Operand)} {l l' : List AVal}
    (hl : liftF z = some l) (hp : aParts fs g ps.toList l = some l') {o : Oper} (ho : o.op = .build t ps) : (Res.val (.agg l')).Ok P w gd L g h a o := by
  have hd := hT.get ht
  obtain ⟨fields, hu, hfs⟩ := hd.struct rfl
  obtain ⟨c1, c2⟩ := zeroVal_cells (w := w) (gd := gd) hd
  have hl' := liftF_eq hl
  generalize hd0 : (⟨.struct fs, sz, by_, z⟩ : TyD) = d0 at *
  have hz0 : d0.zero = z := by rw [← hd0]
  have hlen : d0.zeroVal.cells.size = l.length := by rw [c1, hl', hz0]; simp
  have hfok := hd.fok
  rw [hu] at hfok
  have hplaces : (fields.toList.mapM fun f => Functor.map (Prod.mk f.offset) (Go.sizeOf f.type)).run P w = .ok (fs.map fun x => (x.1, x.2.1)) w := by
    rw [← hfs]
    exact run_places (P := P) w fields.toList _ (places_of P fields.toList hfok)
  have hget : ∀ (i : Nat) (x : AVal), l[i]? = some x → ∃ y, d0.zero[i]? = some y ∧ x = .d y := by
    intro i x hx
    rw [hl', List.getElem?_map] at hx
    rw [hz0]
    cases hy : z[i]? with
    | none => rw [hy] at hx; cases hx
    | some y => rw [hy] at hx; simp only [Option.map_some, Option.some.injEq] at hx; exact ⟨y, rfl, hx.symm⟩
  obtain ⟨cs', r1, r2, r3, r4⟩ := aParts_ok H (fs := fs) (place := ((fs.map fun x => (x.1, x.2.1)).toArray[·]?)) (fun j x hj => by simp [hj]) ps.toList l l' d0.zeroVal.cells hp hlen
    (fun i hi => by
      obtain ⟨y, hy, _⟩ := hget i l[i] (List.getElem?_eq_getElem hi)
      obtain ⟨e1, e2, _⟩ := c2 i y hy
      rw [e1]; exact e2)
    (fun i x hx => by
      obtain ⟨y, hy, rfl⟩ := hget i x hx
      obtain ⟨e1, _, e3⟩ := c2 i y hy
      rw [e1]; exact .d e3)
  refine ⟨.agg cs', ?_, .agg r2 r3 r4⟩
  have hparts : (ps.map fun p => (p.1, a.eval p.2)).toList = ps.toList.map fun p => (p.1, a.eval p.2) := by simp
  simp only [execOp, ho, Instr.build, Sem.run_bind, hd.zeroValue w, run_underlying hu, Result.andThen_ok, Array.mapM_eq_mapM_toList, Sem.run_map, Sem.run_pure]
  have e : (fields.toList.mapM fun f => do pure (f.offset, ← Go.sizeOf f.type)) = (fields.toList.mapM fun f => Functor.map (Prod.mk f.offset) (Go.sizeOf f.type)) := by
    congr 1
  rw [show (List.mapM (fun f => do let __do_lift ← Go.sizeOf f.type; pure (f.offset, __do_lift)) fields.toList) = (fields.toList.mapM fun f => Functor.map (Prod.mk f.offset) (Go.sizeOf f.type)) from e, hplaces]
  simp only [Result.andThen_ok]
  rw [hparts, r1]
  rfl
theorem arrF_get (s e : Nat) : ∀ (n off j : Nat) (x : Nat × Nat × Nat), (arrF s e n off)[j]? = some x → some (off + j * s, s) = some (x.1, x.2.1)
  | 0, off, j, x, h => by simp [arrF] at h
  | n + 1, off, 0, x, h => by
    simp only [arrF, List.getElem?_cons_zero, Option.some.injEq] at h
    subst h
    simp
  | n + 1, off, j + 1, x, h => by
    simp only [arrF, List.getElem?_cons_succ] at h
    rw [← arrF_get s e n (off + s) j x h, Nat.add_mul]
    congr 2
    omega
theorem buildA_ok (hT : TysOk P T) (H : Holds w gd L g h a) {t e : TypeId} {n sz by_ : Nat} {z : List D} (ht : lookT t T = some ⟨.array n e, sz, by_, z⟩) {de : TyD} (he : lookT e T = some de) {ps : Array (Nat × Operand)} {l l' : List AVal}
    (hl : liftF z = some l) (hp : aParts (arrF de.size e n 0) g ps.toList l = some l') {o : Oper} (ho : o.op = .build t ps) : (Res.val (.agg l')).Ok P w gd L g h a o := by
  have hd := hT.get ht
  have hu := hd.array rfl
  have hsz := (hT.get he).sizeOf w
  obtain ⟨c1, c2⟩ := zeroVal_cells (w := w) (gd := gd) hd
  have hl' := liftF_eq hl
  generalize hd0 : (⟨.array n e, sz, by_, z⟩ : TyD) = d0 at *
  have hz0 : d0.zero = z := by rw [← hd0]
  have hlen : d0.zeroVal.cells.size = l.length := by rw [c1, hl', hz0]; simp
  have hget : ∀ (i : Nat) (x : AVal), l[i]? = some x → ∃ y, d0.zero[i]? = some y ∧ x = .d y := by
    intro i x hx
    rw [hl', List.getElem?_map] at hx
    rw [hz0]
    cases hy : z[i]? with
    | none => rw [hy] at hx; cases hx
    | some y => rw [hy] at hx; simp only [Option.map_some, Option.some.injEq] at hx; exact ⟨y, rfl, hx.symm⟩
  obtain ⟨cs', r1, r2, r3, r4⟩ := aParts_ok H (fs := arrF de.size e n 0) (place := fun i => some (i * de.size, de.size)) (fun j x hj => by have := arrF_get _ _ _ _ _ _ hj; rw [Nat.zero_add] at this; exact this) ps.toList l l' d0.zeroVal.cells hp hlen
    (fun i hi => by
      obtain ⟨y, hy, _⟩ := hget i l[i] (List.getElem?_eq_getElem hi)
      obtain ⟨e1, e2, _⟩ := c2 i y hy
      rw [e1]; exact e2)
    (fun i x hx => by
      obtain ⟨y, hy, rfl⟩ := hget i x hx
      obtain ⟨e1, _, e3⟩ := c2 i y hy
      rw [e1]; exact .d e3)
  refine ⟨.agg cs', ?_, .agg r2 r3 r4⟩
  have hparts : (ps.map fun p => (p.1, a.eval p.2)).toList = ps.toList.map fun p => (p.1, a.eval p.2) := by simp
  simp only [execOp, ho, Instr.build, Sem.run_bind, hd.zeroValue w, run_underlying hu, Result.andThen_ok, hsz, Sem.run_pure]
  rw [hparts, r1]
  rfl
end
end Towline
