/- The engine, part four: every single operation does what its plain form says. Over any program. -/
import Derived.Test.YtjdmnfjgmbnlbaaGreatDoorEngC
namespace Towline
open Go Go.RowKit
set_option linter.unusedVariables false
section
variable {P : Program} {T : Tys} {w : World} {gd : Nat → Prop} {L : Lay} {g : Nat → AVal} {h : Nat → Option AObj} {a : Act}
theorem stays_alloc (w : World) (o : Obj) (gd : Nat → Prop) : Stays w (w.alloc o) gd gd := fun b hb hg => ⟨hg, heap_alloc_old w o hb⟩
/-- The cells of a value that is stored. -/
theorem aStored_ok (hT : TysOk P T) {t : TypeId} {d : TyD} (ht : lookT t T = some d) {x : AVal} {v : Value} (hv : RepA w L gd x v) {vs : List AVal} (hs : aStored d x = some vs) :
    v.cells.size = vs.length ∧ (∀ i, i < vs.length → (v.cells.getD i undef).oneCell' = true) ∧ ∀ i y, vs[i]? = some y → RepA w L gd y (v.cells.getD i undef) := by
  have one : ∀ {x : AVal} {v : Value}, RepA w L gd x v → x.sure = true → vs = [x] →
      v.cells.size = vs.length ∧ (∀ i, i < vs.length → (v.cells.getD i undef).oneCell' = true) ∧ ∀ i y, vs[i]? = some y → RepA w L gd y (v.cells.getD i undef) := by
    intro x v hv hx hvs
    have h1 := repA_one hv hx
    have hc : v.cells = #[v] := by cases v <;> first | rfl | cases h1
    rw [hc, hvs]
    refine ⟨rfl, fun i hi => ?_, fun i y hy => ?_⟩
    · have : i = 0 := by simpa using hi
      subst this; exact h1
    · cases i with
      | zero => simp only [List.getElem?_cons_zero, Option.some.injEq] at hy; subst hy; exact hv
      | succ i => simp at hy
  cases hk : isStr d.kind with
  | true =>
    cases x with
    | agg l =>
      simp only [aStored, hk, Option.some.injEq] at hs
      subst hs
      obtain ⟨ws, rfl, h1, h2, h3⟩ := repA_agg hv
      exact ⟨h1, h2, h3⟩
    | any => simp [aStored] at hs
    | tup => simp [aStored] at hs
    | _ => simp [aStored, hk] at hs
  | false =>
    cases x with
    | agg l => simp [aStored, hk] at hs
    | any => simp [aStored] at hs
    | tup => simp [aStored] at hs
    | _ =>
      simp only [aStored, hk, Option.some.injEq] at hs
      exact one hv rfl hs.symm
theorem run_storeCells_mk (P : Program) (g o : Nat) (t : TypeId) (mk : Nat × Nat) : ∀ (vs : List Value) (i : Nat) (cur : Array Value) (w : World), w.heap[g]? = some (.cells cur t mk) → (mk = (0, 0) ∨ cur.size ≤ mk.1) → o + i + vs.length ≤ cur.size → (∀ v ∈ vs, v.oneCell' = true) →
    (storeCells ⟨g, o, none⟩ vs i).run P w = .ok () (w.setRow g (cur.toList.take (o + i) ++ vs ++ cur.toList.drop (o + i + vs.length)).toArray)
  | [], i, cur, w, hg, _, _, _ => by
    simp only [storeCells, List.append_nil, List.length_nil, Nat.add_zero, List.take_append_drop, Array.toArray_toList]
    rw [setRow_self w g cur t mk hg]
    rfl
  | v :: rest, i, cur, w, hg, hk, hl, h1 => by
    have hi : o + i < cur.size := by simp at hl; omega
    have hadd : (⟨g, o, none⟩ : Addr).add i = ⟨g, o + i, none⟩ := by unfold Addr.add; split <;> simp_all
    have hcell : w.cell? ⟨g, o + i, none⟩ = some cur[o + i] := by simp [World.cell?, hg, hi]
    have hfro : w.frozen? ⟨g, o + i, none⟩ = false := by
      obtain ⟨lo, hh⟩ := mk
      rcases hk with hk | hk
      · cases hk; simp [World.frozen?, hg]
      · have hk : cur.size ≤ lo := hk
        simp [World.frozen?, hg, show ¬ lo ≤ o + i from by omega]
    have hst : (store ((⟨g, o, none⟩ : Addr).add i) v).run P w = .ok () (w.setRow g (cur.setIfInBounds (o + i) v)) := by
      rw [hadd, run_store P w _ v _ (h1 v (by simp)), hcell]
      simp [hfro, setCell_eq_setRow w g (o + i) cur t mk v hg]
    have ih := run_storeCells_mk P g o t mk rest (i + 1) (cur.setIfInBounds (o + i) v) (w.setRow g (cur.setIfInBounds (o + i) v)) (setRow_heap w g cur _ t _ hg) (by simpa using hk) (by simp at hl ⊢; omega) (fun x hx => h1 x (by simp [hx]))
    simp only [storeCells, Sem.run_bind, hst, Result.andThen_ok, ih, setRow_setRow]
    congr 3
    have e := list_seg_step cur.toList (o + i) v rest (by simp at hl ⊢; omega)
    simpa [Array.toList_setIfInBounds, Nat.add_assoc] using e
theorem storeAt_run (hT : TysOk P T) {t : TypeId} {d : TyD} (ht : lookT t T = some d) {v : Value} (hz : v.cells.size = d.size) {b o : Nat} {e : TypeId} {cur : Array Value} {mk : Nat × Nat} (hb : w.heap[b]? = some (.cells cur e mk)) (hk : mk = (0, 0) ∨ cur.size ≤ mk.1)
    (hfit : o + v.cells.size ≤ cur.size) (h1 : ∀ u ∈ v.cells.toList, u.oneCell' = true) :
    (Instr.storeAt t (.pointer (some ⟨b, o, none⟩)) v).run P w = .ok () (w.setRow b (cur.toList.take o ++ v.cells.toList ++ cur.toList.drop (o + v.cells.size)).toArray) := by
  have hd := hT.get ht
  have hst := run_storeCells_mk P b o e mk v.cells.toList 0 cur w hb hk (by simpa using hfit) h1
  simp only [Nat.add_zero, Array.length_toList] at hst
  simp [Instr.storeAt, Instr.sureAddr, storeVar, hd.sizeOf w, hz, hst]
theorem over_getD (cur : Array Value) (o : Nat) (vs : List Value) (hfit : o + vs.length ≤ cur.size) (i : Nat) :
    (cur.toList.take o ++ vs ++ cur.toList.drop (o + vs.length)).toArray.getD i undef = if o ≤ i ∧ i < o + vs.length then vs.getD (i - o) undef else cur.getD i undef := by
  rw [Array.getD_eq_getD_getElem?]
  simp only [List.getElem?_toArray, List.getElem?_append, List.length_append, List.length_take, Array.length_toList, Nat.min_eq_left (show o ≤ cur.size from by omega)]
  by_cases h1 : i < o
  · rw [if_pos (by omega), if_pos h1, if_neg (by omega), List.getElem?_take, if_pos h1]
    simp [Array.getD_eq_getD_getElem?]
  · by_cases h2 : i < o + vs.length
    · rw [if_pos h2, if_neg h1, if_pos ⟨by omega, h2⟩]
      simp [List.getD_eq_getElem?_getD]
    · rw [if_neg h2, if_neg (by omega), List.getElem?_drop]
      rw [show o + vs.length + (i - (o + vs.length)) = i from by omega]
      simp [Array.getD_eq_getD_getElem?]
theorem cells_mem {v : Value} {n : Nat} (hn : v.cells.size = n) (h : ∀ i, i < n → (v.cells.getD i undef).oneCell' = true) : ∀ u ∈ v.cells.toList, u.oneCell' = true := by
  intro u hu
  obtain ⟨i, hi, rfl⟩ := List.mem_iff_getElem.1 hu
  have := h i (by simpa [hn] using hi)
  rw [Array.getD_eq_getD_getElem?] at this
  simpa [show i < v.cells.size from by simpa using hi] using this
/-- Cells of a box are written. -/
theorem storeBox_ok (hT : TysOk P T) (H : Holds w gd L g h a) {t : TypeId} {d : TyD} (ht : lookT t T = some d) {p x : Operand} {r : Res} {xv : AVal} (hv : RepA w L gd xv (a.eval x)) {id off b : Nat} (hb : L.blk id = some b) (hpv : a.eval p = .pointer (some ⟨b, off, none⟩)) {cells : List AVal} {tag0 : Option TypeId} (hobj : h id = some (.box cells tag0))
    (hr : (match aStored d xv with
      | some vs => match Nat.beq vs.length d.size with
        | true => match overF cells off vs with
          | some l => some (Res.set id (.box l tag0))
          | none => none
        | false => none
      | none => none) = some r) {o : Oper} (ho : o.op = .store t p x) : r.Ok P w gd L g h a o := by
  cases hs : aStored d xv with
  | none => rw [hs] at hr; cases hr
  | some vs =>
    rw [hs] at hr
    simp only at hr
    cases hbq : Nat.beq vs.length d.size with
    | false => rw [hbq] at hr; cases hr
    | true =>
      rw [hbq] at hr
      simp only at hr
      cases hov : overF cells off vs with
      | none => rw [hov] at hr; cases hr
      | some l =>
        rw [hov] at hr
        simp only [Option.some.injEq] at hr
        subst hr
        have hlen := Nat.eq_of_beq_eq_true hbq
        obtain ⟨e1, e2, e3⟩ := overF_eq hov
        obtain ⟨s1, s2, s3⟩ := aStored_ok hT ht hv hs
        have hro := H.obj id _ hobj
        cases hro with
        | @box _ tag cs ty b' htag hb' hh hz h1 hrep =>
          rw [hb] at hb'
          cases hb'
          have hfit : off + (a.eval x).cells.size ≤ cs.size := by omega
          have hrun := storeAt_run (P := P) hT ht (by omega) hh (.inl rfl) hfit (cells_mem s1 s2)
          have hg := over_getD cs off (a.eval x).cells.toList (by simpa using hfit)
          simp only [Array.length_toList] at hg
          refine ⟨⟨_, hobj⟩, b, (w.setRow b (cs.toList.take off ++ (a.eval x).cells.toList ++ cs.toList.drop (off + (a.eval x).cells.size)).toArray), hb, .inl (by simp [execOp, ho, hpv, hrun]), rfl, rfl, rfl, by simp, fun b' hne => setRow_other w b b' _ hne, fun gd' hst htop => ?_⟩
          refine .box htag hb (setRow_heap w b cs _ ty (0, 0) hh) (by simp; omega) (fun i hi => ?_) (fun i y hy => ?_)
          · rw [hg]
            split
            · have := s2 (i - off) (by omega)
              simpa [List.getD_eq_getElem?_getD, Array.getD_eq_getD_getElem?] using this
            · exact h1 i (by omega)
          · rw [hg]
            rw [e3] at hy
            have hsz : w.heap.size ≤ (w.setRow b (cs.toList.take off ++ (a.eval x).cells.toList ++ cs.toList.drop (off + (a.eval x).cells.size)).toArray).heap.size := by simp
            by_cases hc : off ≤ i ∧ i < off + vs.length
            · rw [if_pos hc] at hy
              rw [if_pos (by omega)]
              have := (s3 (i - off) y hy).mono1 hsz hst htop
              simpa [List.getD_eq_getElem?_getD, Array.getD_eq_getD_getElem?] using this
            · rw [if_neg hc] at hy
              rw [if_neg (by omega)]
              exact (hrep i y hy).mono1 hsz hst htop
theorem aStore_ok (hT : TysOk P T) (H : Holds w gd L g h a) {t : TypeId} {d : TyD} (ht : lookT t T = some d) {p x : Operand} {r : Res} (hr : aStore h d (opnd g x) (opnd g p) = some r) {o : Oper} (ho : o.op = .store t p x) :
    r.Ok P w gd L g h a o := by
  have hv := H.opnd x
  have hp := H.opnd p
  generalize opnd g x = xv at *
  generalize opnd g p = pv at *
  generalize hpv : a.eval p = pval at *
  cases hp with
  | @ptr _ id off b hb =>
    simp only [aStore] at hr
    cases hobj : h id with
    | none => rw [hobj] at hr; cases hr
    | some ob =>
      rw [hobj] at hr
      cases ob with
      | row => cases hr
      | mp => cases hr
      | vrow => cases hr
      | dmp => cases hr
      | box cells tag0 => exact storeBox_ok hT H ht hv hb hpv hobj hr ho
  | @rptr _ id sz k off b hb =>
    simp only [aStore] at hr
    cases hobj : h id with
    | none => rw [hobj] at hr; cases hr
    | some ob =>
      rw [hobj] at hr
      cases ob with
      | mp => cases hr
      | vrow => cases hr
      | dmp => cases hr
      | box cells tag0 => exact storeBox_ok hT H ht hv hb hpv hobj hr ho
      | row ty sz' n f =>
        simp only at hr
        cases hsq : Nat.beq sz sz' with
        | false => rw [hsq] at hr; cases hr
        | true =>
          rw [hsq] at hr
          simp only at hr
          have := Nat.eq_of_beq_eq_true hsq
          subst this
          cases hs : aStored d xv with
          | none => rw [hs] at hr; cases hr
          | some vs =>
            rw [hs] at hr
            simp only at hr
            cases hbq : Nat.beq vs.length d.size with
            | false => rw [hbq] at hr; cases hr
            | true =>
              rw [hbq] at hr
              simp only at hr
              cases hul : unliftF vs with
              | none => rw [hul] at hr; cases hr
              | some us =>
                rw [hul] at hr
                simp only at hr
                cases hov : overF (f k) off us with
                | none => rw [hov] at hr; cases hr
                | some l =>
                  rw [hov] at hr
                  simp only [Option.some.injEq] at hr
                  subst hr
                  refine ⟨⟨_, hobj⟩, fun hk => ?_⟩
                  have hlen := Nat.eq_of_beq_eq_true hbq
                  obtain ⟨e1, e2, e3⟩ := overF_eq hov
                  obtain ⟨s1, s2, s3⟩ := aStored_ok hT ht hv hs
                  have hul' := unliftF_eq hul
                  have hul2 : vs.length = us.length := by rw [hul']; simp
                  have hro := H.obj id _ hobj
                  cases hro with
                  | row0 => omega
                  | @row _ _ _ _ cs b' t2 mk hb' hh hn hm hz hf hrep hty hmk hcap0 =>
                    rw [hb] at hb'
                    cases hb'
                    have hfk := hf k hk
                    have hcap : k * sz + sz ≤ cs.size := by
                      have := Nat.mul_le_mul_right sz (show k + 1 ≤ L.cap id from by omega)
                      rw [Nat.add_mul] at this; omega
                    have hfit : k * sz + off + (a.eval x).cells.size ≤ cs.size := by omega
                    have hrun := storeAt_run (P := P) hT ht (by omega) hh (hmk.imp (fun h => h) fun h => h.2) hfit (cells_mem s1 s2)
                    have hg := over_getD cs (k * sz + off) (a.eval x).cells.toList (by simpa using hfit)
                    simp only [Array.length_toList] at hg
                    refine ⟨b, (w.setRow b (cs.toList.take (k * sz + off) ++ (a.eval x).cells.toList ++ cs.toList.drop (k * sz + off + (a.eval x).cells.size)).toArray), hb, .inl (by simp [execOp, ho, hpv, hrun]), rfl, rfl, rfl, by simp, fun b' hne => setRow_other w b b' _ hne, fun gd' hst htop => ?_⟩
                    have hsz : w.heap.size ≤ (w.setRow b (cs.toList.take (k * sz + off) ++ (a.eval x).cells.toList ++ cs.toList.drop (k * sz + off + (a.eval x).cells.size)).toArray).heap.size := by simp
                    refine .row hb (setRow_heap w b cs _ t2 mk hh) hn hm (by simp; omega) (fun j hj => ?_) (fun j hj i y hy => ?_) hty (hmk.imp (fun h => h) fun h => ⟨h.1, by have := h.2; simp; omega⟩) hcap0
                    · unfold fupd
                      split
                      · rw [e2]; rename_i e; exact hfk
                      · exact hf j hj
                    · rw [hg]
                      unfold fupd at hy
                      by_cases hjk : j = k
                      · subst hjk
                        rw [if_pos rfl, e3] at hy
                        by_cases hc : off ≤ i ∧ i < off + us.length
                        · rw [if_pos hc] at hy
                          rw [if_pos (by omega)]
                          have h3 := s3 (i - off) (.d y) (by rw [hul', List.getElem?_map, hy]; rfl)
                          rw [show j * sz + i - (j * sz + off) = i - off from by omega]
                          have h3' := h3.mono1 hsz hst htop
                          cases h3' with
                          | d h3' => simpa [List.getD_eq_getElem?_getD, Array.getD_eq_getD_getElem?] using h3'
                        · rw [if_neg hc] at hy
                          have hi : i < sz := by rw [← hfk]; exact (List.getElem?_eq_some_iff.1 hy).1
                          rw [if_neg (by omega)]
                          exact (hrep j hj i y hy).mono hsz hst
                      · rw [if_neg hjk] at hy
                        have hi : i < sz := by rw [← hf j hj]; exact (List.getElem?_eq_some_iff.1 hy).1
                        have hne : ¬(k * sz + off ≤ j * sz + i ∧ j * sz + i < k * sz + off + (a.eval x).cells.size) := by
                          rintro ⟨h1, h2⟩
                          rcases Nat.lt_or_gt_of_ne hjk with h3 | h3
                          · have := Nat.mul_le_mul_right sz (show j + 1 ≤ k from h3)
                            rw [Nat.add_mul] at this; omega
                          · have := Nat.mul_le_mul_right sz (show k + 1 ≤ j from h3)
                            rw [Nat.add_mul] at this; omega
                        rw [if_neg hne]
                        exact (hrep j hj i y hy).mono hsz hst
  | _ => simp [aStore] at hr
end
end Towline
