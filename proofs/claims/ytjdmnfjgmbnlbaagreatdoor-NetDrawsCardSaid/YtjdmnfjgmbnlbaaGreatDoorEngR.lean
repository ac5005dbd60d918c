/- The engine: rows of elements: written out, made, appended to. Over any program. -/
import Derived.Test.YtjdmnfjgmbnlbaaGreatDoorEngF
import Derived.Laws.MakeOwn
import Derived.Maps.AppendAt
namespace Towline
open Go Go.RowKit
set_option linter.unusedVariables false
section
variable {P : Program} {T : Tys} {w : World} {gd : Nat → Prop} {L : Lay} {g : Nat → AVal} {h : Nat → Option AObj} {a : Act}
theorem unlift_len {vs : List AVal} {us : List D} (h : unliftF vs = some us) : vs.length = us.length := by rw [unliftF_eq h]; simp
/-- The cells of a slice that is written out. -/
theorem elems_ok (hT : TysOk P T) (H : Holds w gd L g h a) {e : TypeId} {d : TyD} (he : lookT e T = some d) : ∀ (ps : List (Nat × Operand)) (l l' : List (List D)) (cs : Array Value), aElems d g ps l = some l' → cs.size = l.length * d.size →
    (∀ k, k < l.length → (l.getD k []).length = d.size) → (∀ k, k < l.length → ∀ (j : Nat) x, (l.getD k [])[j]? = some x → RepD w gd x (cs.getD (k * d.size + j) undef)) →
    ∃ cs', Instr.fill (fun i => some (i * d.size, d.size)) cs (ps.map fun p => (p.1, a.eval p.2)) = some cs' ∧ l'.length = l.length ∧ cs'.size = l'.length * d.size ∧
      (∀ k, k < l'.length → (l'.getD k []).length = d.size) ∧ ∀ k, k < l'.length → ∀ (j : Nat) x, (l'.getD k [])[j]? = some x → RepD w gd x (cs'.getD (k * d.size + j) undef) := by
  intro ps
  induction ps with
  | nil => intro l l' cs hp hz h1 hr; simp only [aElems, Option.some.injEq] at hp; subst hp; exact ⟨cs, rfl, rfl, hz, h1, hr⟩
  | cons p ps ih =>
    intro l l' cs hp hz h1 hr
    obtain ⟨j, x⟩ := p
    simp only [aElems] at hp
    cases hs : aStored d (opnd g x) with
    | none => rw [hs] at hp; cases hp
    | some vs =>
      rw [hs] at hp
      simp only at hp
      cases hb : Nat.beq vs.length d.size with
      | false => rw [hb] at hp; cases hp
      | true =>
        rw [hb] at hp
        simp only at hp
        cases hu : unliftF vs with
        | none => rw [hu] at hp; cases hp
        | some us =>
          rw [hu] at hp
          simp only at hp
          cases hset : setF j us l with
          | none => rw [hset] at hp; cases hp
          | some m =>
            rw [hset] at hp
            obtain ⟨hj, rfl⟩ := setF_eq hset
            have hlen := Nat.eq_of_beq_eq_true hb
            have hul := unlift_len hu
            have hul' := unliftF_eq hu
            obtain ⟨s1, s2, s3⟩ := aStored_ok hT he (H.opnd x) hs
            have hfit : j * d.size + (a.eval x).cells.size ≤ cs.size := by
              rw [hz, s1, hlen]
              have := Nat.mul_le_mul_right d.size (show j + 1 ≤ l.length from hj)
              rw [Nat.add_mul] at this; omega
            obtain ⟨f1, f2⟩ := fold_over (a.eval x).cells.toList 0 (j * d.size) cs (by simpa using hfit)
            simp only [Nat.add_zero, Array.length_toList] at f1 f2
            obtain ⟨cs', r1, r2, r3⟩ := ih (l.set j us) l' _ hp (by rw [f1]; simpa using hz) (fun k hk => by
                simp only [List.length_set] at hk
                simp only [List.getD_eq_getElem?_getD, List.getElem?_set]
                by_cases e : j = k
                · subst e; simp [hj]; omega
                · simpa [e, List.getD_eq_getElem?_getD] using h1 k hk) (fun k hk i y hy => by
                simp only [List.length_set] at hk
                rw [f2]
                by_cases e : j = k
                · subst e
                  have hy' : us[i]? = some y := by simpa [List.getD_eq_getElem?_getD, List.getElem?_set, hj] using hy
                  have hi : i < us.length := (List.getElem?_eq_some_iff.1 hy').1
                  rw [if_pos (by omega)]
                  have h3 := s3 i (.d y) (by rw [hul', List.getElem?_map, hy']; rfl)
                  cases h3 with
                  | d h3 =>
                    rw [show j * d.size + i - j * d.size = i from by omega]
                    simpa [List.getD_eq_getElem?_getD, Array.getD_eq_getD_getElem?] using h3
                · have hy' : (l.getD k [])[i]? = some y := by simpa [List.getD_eq_getElem?_getD, List.getElem?_set, e] using hy
                  have hi : i < d.size := by rw [← h1 k hk]; exact (List.getElem?_eq_some_iff.1 hy').1
                  rw [if_neg (by
                    rintro ⟨q1, q2⟩
                    rcases Nat.lt_or_gt_of_ne e with h3 | h3
                    · have := Nat.mul_le_mul_right d.size (show j + 1 ≤ k from h3)
                      rw [Nat.add_mul] at this; omega
                    · have := Nat.mul_le_mul_right d.size (show k + 1 ≤ j from h3)
                      rw [Nat.add_mul] at this; omega)]
                  exact hr k hk i y hy')
            refine ⟨cs', ?_, by simpa using r2, r3⟩
            simp only [List.map_cons, Instr.fill]
            rw [if_neg (by simp; omega)]
            rw [← Array.foldl_toList, Array.toList_zipIdx]
            exact r1
theorem zeros_get (z : Array Value) (n k j : Nat) (hk : k < n) (hj : j < z.size) : (madeCells z (n * z.size)).getD (k * z.size + j) undef = z.getD j undef := by
  have hlt : k * z.size + j < n * z.size := by
    have := Nat.mul_le_mul_right z.size (show k + 1 ≤ n from hk)
    rw [Nat.add_mul] at this; omega
  have hmod : (k * z.size + j) % z.size = j := by rw [Nat.add_comm, Nat.add_mul_mod_self_right]; exact Nat.mod_eq_of_lt hj
  simp [madeCells, Array.getD_eq_getD_getElem?, hlt, hmod, hj]
theorem row_makes {o : Oper} {e : TypeId} {sz n c : Nat} {f : Nat → List D} {cs : Array Value} (hrun : (execOp a.eval o).run P w = .ok (.value (.slice (some ⟨w.heap.size, 0, none⟩) n c)) (w.alloc (.cells cs e)))
    (hnc : n ≤ c) (hcm : c ≤ maxLen) (hz : cs.size = c * sz) (hf : ∀ k, k < n → (f k).length = sz) (hr : ∀ k, k < n → ∀ (j : Nat) x, (f k)[j]? = some x → RepD w gd x (cs.getD (k * sz + j) undef)) (d : Nat) (he : e < markT) :
    MakesOk P w gd L a o d (.rsl d sz 0 n) (.row e sz n f) := by
  refine ⟨_, some w.heap.size, c, _, hrun, (Below.refl _ _).alloc (Nat.le_refl _) _, fun b hb => by cases hb; simp, fun gd' hst _ => ⟨?_, ?_⟩⟩
  · refine .row (b := w.heap.size) (cs := cs) (by simp [Lay.upd]) (heap_alloc_new w _) (by simpa [Lay.upd] using hnc) (by simpa [Lay.upd] using hcm) (by simpa [Lay.upd] using hz) hf (fun k hk j x hx => (hr k hk j x hx).mono (by simp) hst) (fun _ => rfl) (.inl rfl) (fun m hm => absurd he (Nat.not_lt.2 (hm ▸ Nat.le_trans (show markT ≤ arT by decide) (Nat.le_add_right arT m))))
  · have : RepA (w.alloc (.cells cs e)) (L.upd d (some w.heap.size) c) gd' (.rsl d sz 0 n) (.slice (((L.upd d (some w.heap.size) c).blk d).map fun b => ⟨b, 0 * sz, none⟩) n ((L.upd d (some w.heap.size) c).cap d - 0)) :=
      .rsl (by simpa [Lay.upd] using hnc) (fun _ => ⟨_, by simp [Lay.upd]; rfl⟩) (fun _ => rfl)
    simpa [Lay.upd] using this
/-- A new box, as a slice of it. -/
theorem boxrow_makes {o : Oper} {e : TypeId} {sz n : Nat} {cells : List AVal} {cs : Array Value} (hrun : (execOp a.eval o).run P w = .ok (.value (.slice (some ⟨w.heap.size, 0, none⟩) n n)) (w.alloc (.cells cs e)))
    (hz : cs.size = cells.length) (h1 : ∀ i, i < cells.length → (cs.getD i undef).oneCell' = true) (d : Nat)
    (hr : ∀ gd', Stays w (w.alloc (.cells cs e)) gd gd' → ∀ i x, cells[i]? = some x → RepA (w.alloc (.cells cs e)) (L.upd d (some w.heap.size) n) gd' x (cs.getD i undef)) :
    MakesOk P w gd L a o d (.rsl d sz 0 n) (.box cells) := by
  refine ⟨_, some w.heap.size, n, _, hrun, (Below.refl _ _).alloc (Nat.le_refl _) _, fun b hb => by cases hb; simp, fun gd' hst _ => ⟨?_, ?_⟩⟩
  · exact .box (b := w.heap.size) (cs := cs) (fun t' e => by cases e) (by simp [Lay.upd]) (heap_alloc_new w _) hz h1 (hr gd' hst)
  · have : RepA (w.alloc (.cells cs e)) (L.upd d (some w.heap.size) n) gd' (.rsl d sz 0 n) (.slice (((L.upd d (some w.heap.size) n).blk d).map fun b => ⟨b, 0 * sz, none⟩) n ((L.upd d (some w.heap.size) n).cap d - 0)) :=
      .rsl (by simp [Lay.upd]) (fun _ => ⟨_, by simp [Lay.upd]; rfl⟩) (fun _ => rfl)
    simpa [Lay.upd] using this
/-- A new row may be data at once. -/
theorem _root_.Towline.Res.Ok.pub {o : Oper} {e : TypeId} {sz n : Nat} {f : Nat → List D} (hk : (Res.mkrow e sz n f none).Ok P w gd L g h a o) : (Res.newv (.row 0 1 0 fun _ => []) (fun _ => .d (.sl sz n f)) none).Ok P w gd L g h a o := by
  intro _ d _
  obtain ⟨w', nb, nc, u, h1, h2, h3, h4⟩ := hk (fun q hq => by cases hq) d
  refine ⟨w', none, 0, u, h1, h2, fun b hb => (by cases hb), fun gd' hst hng => ⟨.row0 (by simp [Lay.upd]) (by simp [Lay.upd]), ?_⟩⟩
  obtain ⟨ho, hu⟩ := h4 gd' hst fun b hb1 hb2 _ => hng b hb1 hb2 (by simp)
  have hb : ∀ b, (L.upd d nb nc).blk d = some b → gd' b ∧ b < w'.heap.size := fun b hb => by
    simp only [Lay.upd, if_true] at hb
    exact ⟨hng b (h3 b hb).1 (h3 b hb).2 (by simp), (h3 b hb).2⟩
  cases hu with
  | @rsl _ _ _ _ _ ad hcap hblk ha =>
    have ha := ha (.inl rfl)
    cases ho with
    | row0 _ hc =>
      rw [hc]
      exact .d (.sl0 _ _ _ _ (by unfold maxLen; omega))
    | @row _ _ _ _ cs b t2 mk hbk hh hn hm hz hf hr hty hmk hcap0 =>
      by_cases h0 : n = 0
      · subst h0
        exact .d (.sl0 _ _ _ _ (by omega))
      · rw [ha, hbk]
        obtain ⟨g1, g2⟩ := hb b hbk
        have hd : RepD w' gd' (.sl sz n f) (.slice (some ⟨b, 0, none⟩) n ((L.upd d nb nc).cap d - 0)) := by
          refine .sl sz n f b 0 _ (fun k j => cs.getD (k * sz + j) undef) (by omega) (by omega) (by omega) g1 g2 hf (fun k hk j hj => ?_) (fun k hk j x hx => hr k hk j x hx)
          have hlt : k * sz + j < cs.size := by
            have := Nat.mul_le_mul_right sz (show k + 1 ≤ (L.upd d nb nc).cap d from by omega)
            rw [Nat.add_mul] at this; omega
          rw [Nat.zero_add, cell_of_row w' b _ cs t2 mk hh, Array.getD_eq_getD_getElem?, Array.getElem?_eq_getElem hlt]
          rfl
        refine .d ?_
        simpa using hd
theorem buildSlice_ok (hT : TysOk P T) (H : Holds w gd L g h a) {t e : TypeId} {sz by_ : Nat} {z : List D} (ht : lookT t T = some ⟨.slice e, sz, by_, z⟩) {d : TyD} (he : lookT e T = some d) {len : Nat} {ps : Array (Nat × Operand)} {l : List (List D)}
    (hle : Nat.ble (len + len * d.size) 16777216 = true) (hl : aElems d g ps.toList (replF len d.zero) = some l) {o : Oper} (ho : o.op = .buildSlice t len ps) : (Res.mkrow e d.size len (fun k => l.getD k []) none).Ok P w gd L g h a o := by
  intro _ id
  have hu := (hT.get ht).slice rfl
  have hd := hT.get he
  have hle' : len + len * d.size ≤ 16777216 := Nat.le_of_ble_eq_true hle
  obtain ⟨c1, c2⟩ := zeroVal_cells (w := w) (gd := gd) hd
  rw [replF_eq] at hl
  rw [hd.zlen] at c1
  obtain ⟨cs', r1, r2, r3, r4, r5⟩ := elems_ok hT H he ps.toList (List.replicate len d.zero) l (madeCells d.zeroVal.cells (len * d.size)) hl (by simp [size_madeCells]) (fun k hk => by
      have hk' : k < len := by simpa using hk
      simp [List.getD_eq_getElem?_getD, hk', hd.zlen]) (fun k hk j x hx => by
      have hk' : k < len := by simpa using hk
      have hx' : d.zero[j]? = some x := by simpa [List.getD_eq_getElem?_getD, hk'] using hx
      have hj : j < d.size := by rw [← hd.zlen]; exact (List.getElem?_eq_some_iff.1 hx').1
      obtain ⟨e1, _, e3⟩ := c2 j x hx'
      have := zeros_get d.zeroVal.cells len k j hk' (by omega)
      rw [c1] at this
      rw [this, e1]; exact e3)
  have hlen : l.length = len := by simpa using r2
  have hps : (ps.map fun p => (p.1, a.eval p.2)).toList = ps.toList.map fun p => (p.1, a.eval p.2) := by simp
  refine row_makes (cs := cs') (c := len) ?_ (Nat.le_refl _) ?_ (by rw [r3, hlen]) (fun k hk => r4 k (by omega)) (fun k hk => r5 k (by omega)) id (hT.get he).lt
  · have hn : ¬ len * d.size > 2 ^ 24 := by omega
    by_cases h0 : len * d.size = 0
    · have hm : madeCells d.zeroVal.cells (len * d.size) = #[] := by rw [h0]; simp [madeCells]
      have hm0 : (Array.range (len * d.size)).map (fun x => (#[] : Array Value)[x % (#[] : Array Value).size]!) = #[] := by rw [h0]; simp
      rw [hm] at r1
      simp only [execOp, ho, Instr.buildSlice, Sem.run_bind, run_underlying hu, Result.andThen_ok, hd.sizeOf w, Sem.run_ite, if_neg hn, Sem.run_pure, if_pos h0, hm0, hps, r1]
      simp [newRow]
    · have hm : (Array.range (len * d.size)).map (fun x => d.zeroVal.cells[x % d.zeroVal.cells.size]!) = madeCells d.zeroVal.cells (len * d.size) := rfl
      simp only [execOp, ho, Instr.buildSlice, Sem.run_bind, run_underlying hu, Result.andThen_ok, hd.sizeOf w, Sem.run_ite, if_neg hn, Sem.run_pure, if_neg h0, hd.zeroValue w, hm, hps, r1]
      simp [newRow]
  · unfold maxLen; omega
theorem makeSlice_ok (hT : TysOk P T) (H : Holds w gd L g h a) {t e : TypeId} {sz by_ : Nat} {z : List D} (ht : lookT t T = some ⟨.slice e, sz, by_, z⟩) {d : TyD} (he : lookT e T = some d) {x y : Operand} {k k' : IntKind} {n m : Int} (hx : opnd g x = .d (.i k n)) (hy : opnd g y = .d (.i k' m))
    {o : Oper} (ho : o.op = .makeSlice t x y) : (Res.mkrow e d.size n.toNat (fun _ => d.zero) (some (0 ≤ n ∧ n ≤ m ∧ d.bytes * m ≤ 281474976710656 ∧ m ≤ 9223372036854775807))).Ok P w gd L g h a o := by
  intro hq id
  obtain ⟨q1, q2, q3, q4⟩ := hq _ rfl
  have hu := (hT.get ht).slice rfl
  have hd := hT.get he
  obtain ⟨i, i1, i2, i3, i4⟩ := hd.info'
  have hv := repA_i (hx ▸ H.opnd x)
  have hw := repA_i (hy ▸ H.opnd y)
  obtain ⟨c1, c2⟩ := zeroVal_cells (w := w) (gd := gd) hd
  rw [hd.zlen] at c1
  have hrun := run_make (P := P) w t e i _ hu i1 i2 k k' n m q1 q2 (by rw [i4]; exact q3) q4
  rw [i3] at hrun
  refine row_makes (c := m.toNat) (cs := madeCells d.zeroVal.cells (m.toNat * d.size)) (by simp [execOp, ho, hv, hw, hrun]) (by omega) (by unfold maxLen; omega) (by simp [size_madeCells]) (fun _ _ => hd.zlen) (fun q hq j x hx => ?_) id hd.lt
  have hj : j < d.size := by rw [← hd.zlen]; exact (List.getElem?_eq_some_iff.1 hx).1
  obtain ⟨e1, _, e3⟩ := c2 j x hx
  have := zeros_get d.zeroVal.cells m.toNat q j (by omega) (by omega)
  rw [c1] at this
  rw [this, e1]; exact e3
theorem makeBox_ok (hT : TysOk P T) (H : Holds w gd L g h a) {t e : TypeId} {sz by_ : Nat} {z : List D} (ht : lookT t T = some ⟨.slice e, sz, by_, z⟩) {d : TyD} (he : lookT e T = some d) {x y : Operand} {k k' : IntKind} {n m : Nat} (hx : opnd g x = .d (.i k (.ofNat n))) (hy : opnd g y = .d (.i k' (.ofNat m))) (hnm : n = m)
    {cells : List AVal} (hc : liftF (copyF n d.zero) = some cells) {o : Oper} (ho : o.op = .makeSlice t x y) : (Res.newv (.box cells) (fun id => .rsl id d.size 0 n) (some (d.bytes * n ≤ 281474976710656 ∧ n ≤ 9223372036854775807))).Ok P w gd L g h a o := by
  intro hq id _
  subst hnm
  obtain ⟨q3, q4⟩ := hq _ rfl
  have hu := (hT.get ht).slice rfl
  have hd := hT.get he
  obtain ⟨i, i1, i2, i3, i4⟩ := hd.info'
  have hv : a.eval x = .int k (n : Int) := repA_i (hx ▸ H.opnd x)
  have hw : a.eval y = .int k' (n : Int) := repA_i (hy ▸ H.opnd y)
  obtain ⟨c1, c2⟩ := zeroVal_cells (w := w) (gd := gd) hd
  rw [hd.zlen] at c1
  have hrun := run_make (P := P) w t e i _ hu i1 i2 k k' (n : Int) (n : Int) (Int.natCast_nonneg n) (Int.le_refl _) (by rw [i4]; exact Int.ofNat_le.2 q3) (Int.ofNat_le.2 q4)
  rw [i3] at hrun
  have hce := liftF_eq hc
  have hlen : cells.length = n * d.size := by rw [hce, List.length_map, copyF_len, hd.zlen]
  have key : ∀ i x, cells[i]? = some x → ∃ y, x = .d y ∧ ∃ u, (madeCells d.zeroVal.cells (n * d.size)).getD i undef = u ∧ u.oneCell' = true ∧ ∀ w' gd', RepD w' gd' y u := by
    intro i x hx
    rw [hce, List.getElem?_map] at hx
    cases hy : (copyF n d.zero)[i]? with
    | none => rw [hy] at hx; cases hx
    | some y =>
      rw [hy] at hx
      cases hx
      obtain ⟨k, j, k1, k2, k3, k4⟩ := copyF_get _ _ _ _ hy
      rw [hd.zlen] at k2 k3
      obtain ⟨e1, e2, e3⟩ := c2 j y k4
      have hz := zeros_get d.zeroVal.cells n k j k1 (by omega)
      rw [c1] at hz
      exact ⟨y, rfl, y.val, by rw [k3, hz, e1], e2, fun w' gd' => ((zeroVal_cells (w := w') (gd := gd') hd).2 j y k4).2.2⟩
  have hn : ((n : Nat) : Int).toNat = n := Int.toNat_natCast n
  rw [hn] at hrun
  refine boxrow_makes (e := e) (cs := madeCells d.zeroVal.cells (n * d.size)) (by simp [execOp, ho, hv, hw, hrun]) (by simp [size_madeCells, hlen]) (fun i hi => ?_) id (fun gd' _ i x hx => ?_)
  · obtain ⟨y, _, u, e1, e2, _⟩ := key i _ (List.getElem?_eq_getElem hi)
    rw [e1]; exact e2
  · obtain ⟨y, rfl, u, e1, _, e3⟩ := key i x hx
    rw [e1]; exact .d (e3 _ _)
theorem aStored_free {d : TyD} {x : AVal} {vs : List AVal} (hs : aStored d x = some vs) {q : Nat} (hx : x.free q = true) (y : AVal) (hy : y ∈ vs) : y.free q = true := by
  cases x with
  | agg l =>
    simp only [aStored] at hs
    split at hs
    · cases hs
      obtain ⟨i, hi⟩ := List.mem_iff_getElem?.1 hy
      exact AVal.freeL_get hx i y hi
    · cases hs
  | any => cases hs
  | tup => cases hs
  | _ =>
    simp only [aStored] at hs
    split at hs
    · cases hs
    · cases hs
      simp only [List.mem_singleton] at hy
      rw [hy]; exact hx
theorem elemsA_ok (hT : TysOk P T) (H : Holds w gd L g h a) {e : TypeId} {d : TyD} (he : lookT e T = some d) : ∀ (ps : List (Nat × Operand)) (l l' : List AVal) (cs : Array Value), aElemsA d g ps l = some l' → cs.size = l.length →
    (∀ i, i < l.length → (cs.getD i undef).oneCell' = true) → (∀ i x, l[i]? = some x → RepA w L gd x (cs.getD i undef)) →
    ∃ cs', Instr.fill (fun i => some (i * d.size, d.size)) cs (ps.map fun p => (p.1, a.eval p.2)) = some cs' ∧ l'.length = l.length ∧ cs'.size = l'.length ∧ (∀ i, i < l'.length → (cs'.getD i undef).oneCell' = true) ∧
      (∀ i x, l'[i]? = some x → RepA w L gd x (cs'.getD i undef)) ∧ ∀ q, (∀ t, (g t).free q = true) → (∀ x ∈ l, x.free q = true) → ∀ x ∈ l', x.free q = true := by
  intro ps
  induction ps with
  | nil => intro l l' cs hp hz h1 hr; simp only [aElemsA, Option.some.injEq] at hp; subst hp; exact ⟨cs, rfl, rfl, hz, h1, hr, fun q _ h => h⟩
  | cons p ps ih =>
    intro l l' cs hp hz h1 hr
    obtain ⟨j, x⟩ := p
    simp only [aElemsA] at hp
    cases hs : aStored d (opnd g x) with
    | none => rw [hs] at hp; cases hp
    | some vs =>
      rw [hs] at hp
      simp only at hp
      cases hb : Nat.beq vs.length d.size with
      | false => rw [hb] at hp; cases hp
      | true =>
        rw [hb] at hp
        simp only at hp
        cases hov : overF l (j * d.size) vs with
        | none => rw [hov] at hp; cases hp
        | some m =>
          rw [hov] at hp
          simp only at hp
          have hlen := Nat.eq_of_beq_eq_true hb
          obtain ⟨o1, o2, o3⟩ := overF_eq hov
          obtain ⟨s1, s2, s3⟩ := aStored_ok hT he (H.opnd x) hs
          have hfit : j * d.size + (a.eval x).cells.size ≤ cs.size := by omega
          obtain ⟨f1, f2⟩ := fold_over (a.eval x).cells.toList 0 (j * d.size) cs (by simpa using hfit)
          simp only [Nat.add_zero, Array.length_toList] at f1 f2
          obtain ⟨cs', r1, r2, r3, r4, r5, r6⟩ := ih m l' _ hp (by rw [f1]; omega) (fun i hi => by
              rw [f2]
              split
              · rename_i hc
                have := s2 (i - j * d.size) (by omega)
                simpa [List.getD_eq_getElem?_getD, Array.getD_eq_getD_getElem?] using this
              · exact h1 i (by omega)) (fun i y hy => by
              rw [f2]
              rw [o3] at hy
              by_cases hc : j * d.size ≤ i ∧ i < j * d.size + vs.length
              · rw [if_pos hc] at hy
                rw [if_pos (by omega)]
                have := s3 (i - j * d.size) y hy
                simpa [List.getD_eq_getElem?_getD, Array.getD_eq_getD_getElem?] using this
              · rw [if_neg hc] at hy
                rw [if_neg (by omega)]
                exact hr i y hy)
          refine ⟨cs', ?_, by omega, r3, r4, r5, fun q hq hl => r6 q hq fun y hy => ?_⟩
          · simp only [List.map_cons, Instr.fill]
            rw [if_neg (by simp; omega)]
            rw [← Array.foldl_toList, Array.toList_zipIdx]
            exact r1
          · obtain ⟨i, hi⟩ := List.mem_iff_getElem?.1 hy
            rw [o3] at hi
            split at hi
            · exact aStored_free hs (opnd_free hq x) y (List.mem_of_getElem? hi)
            · exact hl y (List.mem_of_getElem? hi)
theorem buildBox_ok (hT : TysOk P T) (H : Holds w gd L g h a) {t e : TypeId} {sz by_ : Nat} {z : List D} (ht : lookT t T = some ⟨.slice e, sz, by_, z⟩) {d : TyD} (he : lookT e T = some d) {len : Nat} {ps : Array (Nat × Operand)} {l l0 : List AVal}
    (hle : Nat.ble (len + len * d.size) 16777216 = true) (hc : liftF (copyF len d.zero) = some l0) (hl : aElemsA d g ps.toList l0 = some l) {o : Oper} (ho : o.op = .buildSlice t len ps) : (Res.newv (.box l) (fun id => .rsl id d.size 0 len) none).Ok P w gd L g h a o := by
  intro _ id hf
  have hu := (hT.get ht).slice rfl
  have hd := hT.get he
  have hle' : len + len * d.size ≤ 16777216 := Nat.le_of_ble_eq_true hle
  obtain ⟨c1, c2⟩ := zeroVal_cells (w := w) (gd := gd) hd
  rw [hd.zlen] at c1
  have hce := liftF_eq hc
  have hlen0 : l0.length = len * d.size := by rw [hce, List.length_map, copyF_len, hd.zlen]
  have key : ∀ i x, l0[i]? = some x → ∃ y, x = .d y ∧ ((madeCells d.zeroVal.cells (len * d.size)).getD i undef).oneCell' = true ∧ RepD w gd y ((madeCells d.zeroVal.cells (len * d.size)).getD i undef) := by
    intro i x hx
    rw [hce, List.getElem?_map] at hx
    cases hy : (copyF len d.zero)[i]? with
    | none => rw [hy] at hx; cases hx
    | some y =>
      rw [hy] at hx
      cases hx
      obtain ⟨k, j, k1, k2, k3, k4⟩ := copyF_get _ _ _ _ hy
      rw [hd.zlen] at k2 k3
      obtain ⟨e1, e2, e3⟩ := c2 j y k4
      have hz := zeros_get d.zeroVal.cells len k j k1 (by omega)
      rw [c1] at hz
      rw [k3, hz, e1]
      exact ⟨y, rfl, e2, e3⟩
  obtain ⟨cs', r1, r2, r3, r4, r5, r6⟩ := elemsA_ok hT H he ps.toList l0 l (madeCells d.zeroVal.cells (len * d.size)) hl (by simp [size_madeCells, hlen0]) (fun i hi => by
      obtain ⟨y, _, e1, _⟩ := key i _ (List.getElem?_eq_getElem hi)
      exact e1) (fun i x hx => by
      obtain ⟨y, rfl, _, e2⟩ := key i x hx
      exact .d e2)
  have hps : (ps.map fun p => (p.1, a.eval p.2)).toList = ps.toList.map fun p => (p.1, a.eval p.2) := by simp
  refine boxrow_makes (e := e) (cs := cs') ?_ r3 r4 id (fun gd' hst i x hx => ?_)
  · have hn : ¬ len * d.size > 2 ^ 24 := by omega
    by_cases h0 : len * d.size = 0
    · have hm : madeCells d.zeroVal.cells (len * d.size) = #[] := by rw [h0]; simp [madeCells]
      have hm0 : (Array.range (len * d.size)).map (fun x => (#[] : Array Value)[x % (#[] : Array Value).size]!) = #[] := by rw [h0]; simp
      rw [hm] at r1
      simp only [execOp, ho, Instr.buildSlice, Sem.run_bind, run_underlying hu, Result.andThen_ok, hd.sizeOf w, Sem.run_ite, if_neg hn, Sem.run_pure, if_pos h0, hm0, hps, r1]
      simp [newRow]
    · have hm : (Array.range (len * d.size)).map (fun x => d.zeroVal.cells[x % d.zeroVal.cells.size]!) = madeCells d.zeroVal.cells (len * d.size) := rfl
      simp only [execOp, ho, Instr.buildSlice, Sem.run_bind, run_underlying hu, Result.andThen_ok, hd.sizeOf w, Sem.run_ite, if_neg hn, Sem.run_pure, if_neg h0, hd.zeroValue w, hm, hps, r1]
      simp [newRow]
  · have hfree : x.free id = true := r6 id hf (fun y hy => by
      obtain ⟨i, hi⟩ := List.mem_iff_getElem?.1 hy
      obtain ⟨z, rfl, _⟩ := key i y hi
      rfl) x (List.mem_of_getElem? hx)
    refine RepA.mono (L := L) (L' := L.upd id (some w.heap.size) len) (by simp) (· != id) (fun j hj => ?_) (fun b hlt hb => ⟨hb, heap_alloc_old w _ hlt⟩) (r5 i x hx) hst (fun j hj => ?_)
    · have : j ≠ id := by simpa using hj
      simp [Lay.upd, this]
    · have : j = id := by simpa using hj
      rw [this]; exact hfree
/-- What is appended: its cells, one by one. -/
theorem aSrc_ok (H : Holds w gd L g h a) {sz : Nat} {x : Operand} {m : Nat} {f : Nat → List D} {c : Option Prop} (hs : aSrc h sz (opnd g x) = some (m, f, c)) (hc : ∀ q, c = some q → q) :
    (m = 0 ∧ ∃ c', a.eval x = .slice none 0 c') ∨ (∃ ad c', a.eval x = .slice (some ad) m c' ∧ ∃ news : List Value, news.length = m * sz ∧ (∀ (j : Nat) u, news[j]? = some u → w.cell? (ad.add j) = some u) ∧ (∀ u ∈ news, u.oneCell' = true) ∧ (∀ k, k < m → (f k).length = sz) ∧
      ∀ k, k < m → ∀ (j : Nat) y, (f k)[j]? = some y → RepD w gd y (news.getD (k * sz + j) undef)) := by
  have hv := H.opnd x
  generalize hxv : a.eval x = xv at hv
  have flat : ∀ (b o : Nat) (cs : Nat → Nat → Value), (∀ k, k < m → (f k).length = sz) → (∀ k, k < m → ∀ j, j < sz → w.cell? ⟨b, o + k * sz + j, none⟩ = some (cs k j)) → (∀ k, k < m → ∀ (j : Nat) y, (f k)[j]? = some y → RepD w gd y (cs k j)) →
      ∃ news : List Value, news.length = m * sz ∧ (∀ (j : Nat) u, news[j]? = some u → w.cell? ((⟨b, o, none⟩ : Addr).add j) = some u) ∧ (∀ u ∈ news, u.oneCell' = true) ∧ (∀ k, k < m → (f k).length = sz) ∧
      ∀ k, k < m → ∀ (j : Nat) y, (f k)[j]? = some y → RepD w gd y (news.getD (k * sz + j) undef) := by
    intro b o cs hz hcell hrep
    have hcut : ∀ q, q < m * sz → q / sz < m ∧ q % sz < sz ∧ q / sz * sz + q % sz = q := by
      intro q hq
      have hs : 0 < sz := by
        rcases Nat.eq_zero_or_pos sz with h0 | h0
        · rw [h0] at hq; omega
        · exact h0
      exact ⟨(Nat.div_lt_iff_lt_mul hs).2 hq, Nat.mod_lt _ hs, by rw [Nat.mul_comm]; exact Nat.div_add_mod q sz⟩
    have hget : ∀ q, q < m * sz → ((List.range (m * sz)).map fun q => cs (q / sz) (q % sz))[q]? = some (cs (q / sz) (q % sz)) := by
      intro q hq; simp [hq]
    refine ⟨(List.range (m * sz)).map fun q => cs (q / sz) (q % sz), by simp, fun j u hj => ?_, fun u hu => ?_, hz, fun k hk j y hy => ?_⟩
    · have hlt : j < m * sz := by simpa using (List.getElem?_eq_some_iff.1 hj).1
      rw [hget j hlt] at hj
      cases hj
      obtain ⟨h1, h2, h3⟩ := hcut j hlt
      rw [addr_add0, ← hcell _ h1 _ h2, Nat.add_assoc, h3]
    · obtain ⟨q, hq, rfl⟩ := List.mem_map.1 hu
      have hq' : q < m * sz := by simpa using hq
      obtain ⟨h1, h2, h3⟩ := hcut q hq'
      have hlen := hz _ h1
      exact (hrep _ h1 (q % sz) _ (List.getElem?_eq_getElem (by omega))).one
    · have hj : j < sz := by rw [← hz k hk]; exact (List.getElem?_eq_some_iff.1 hy).1
      have hlt : k * sz + j < m * sz := by
        have := Nat.mul_le_mul_right sz (show k + 1 ≤ m from hk)
        rw [Nat.add_mul] at this; omega
      rw [List.getD_eq_getElem?_getD, hget _ hlt]
      have hs : 0 < sz := by omega
      have e1 : (k * sz + j) / sz = k := by rw [Nat.mul_comm, Nat.mul_add_div hs, Nat.div_eq_of_lt hj]; omega
      have e2 : (k * sz + j) % sz = j := by rw [Nat.mul_comm, Nat.mul_add_mod]; exact Nat.mod_eq_of_lt hj
      rw [e1, e2]
      exact hrep k hk j y hy
  unfold aSrc at hs
  split at hs
  · rename_i sz' m' f' e
    rw [e] at hv
    cases hb : Nat.beq sz' sz with
    | false => rw [hb] at hs; cases hs
    | true =>
      rw [hb] at hs
      have := Nat.eq_of_beq_eq_true hb
      subst this
      simp only [Option.some.injEq, Prod.mk.injEq] at hs
      obtain ⟨rfl, rfl, rfl⟩ := hs
      have hd := repA_sl hv
      cases hd with
      | sl0 _ _ A c' hc' =>
        cases A with
        | none => exact .inl ⟨rfl, c', rfl⟩
        | some ad => exact .inr ⟨ad, c', rfl, [], by simp, fun j u hj => by simp at hj, fun u hu => by simp at hu, fun k hk => by omega, fun k hk => by omega⟩
      | sl _ _ _ b off c' cs hn hcc hm hg hbb hz hcell hrep => exact .inr ⟨_, c', rfl, flat b off cs hz hcell hrep⟩
  · rename_i c0 e
    simp only [Option.some.injEq, Prod.mk.injEq] at hs
    obtain ⟨rfl, rfl, rfl⟩ := hs
    rw [e] at hv
    have := repA_v hv
    exact .inl ⟨rfl, c0, this⟩
  · rename_i id sz' o' m' e
    split at hs
    · split at hs
      · rename_i t2 sz2 n2 f2 hrow
        cases hb : Nat.beq sz' sz with
        | false => rw [hb] at hs; cases hs
        | true =>
          rw [hb] at hs
          have := Nat.eq_of_beq_eq_true hb
          subst this
          simp only at hs
          cases hb2 : Nat.beq sz2 sz' with
          | false => rw [hb2] at hs; cases hs
          | true =>
            rw [hb2] at hs
            have := Nat.eq_of_beq_eq_true hb2
            subst this
            simp only [Option.some.injEq, Prod.mk.injEq] at hs
            obtain ⟨rfl, rfl, rfl⟩ := hs
            have hle : m' ≤ n2 := hc _ rfl
            rw [e] at hv
            have hro := H.obj id _ hrow
            cases hv with
            | rsl hcap hblk had =>
              have had := had (.inl rfl)
              subst had
              cases hro with
              | row0 hb1 hc1 =>
                have : m' = 0 := by omega
                subst this
                exact .inl ⟨rfl, _, by rw [hb1]; rfl⟩
              | @row _ _ _ _ cs b t9 mk hb1 hh hn hm hz hf hrep hty hmk hcap0 =>
                refine .inr ⟨⟨b, 0, none⟩, L.cap id - 0, by rw [hb1]; simp, flat b 0 (fun k j => cs.getD (k * sz2 + j) undef) (fun k hk => hf k (by omega)) (fun k hk j hj => ?_) (fun k hk j y hy => hrep k (by omega) j y hy)⟩
                have hlt : k * sz2 + j < cs.size := by
                  have := Nat.mul_le_mul_right sz2 (show k + 1 ≤ L.cap id from by omega)
                  rw [Nat.add_mul] at this; omega
                rw [Nat.zero_add, cell_of_row w b _ cs t9 mk hh, Array.getD_eq_getD_getElem?, Array.getElem?_eq_getElem hlt]
                rfl
      · cases hs
    · cases hs
  · cases hs
def capOf : Value → Nat
  | .slice _ _ c => c
  | _ => 0
/-- A row that the call owns, as an object. -/
theorem row_of_own {w' : World} {gd' : Nat → Prop} {base e : TypeId} {sz N : Nat} {v' : Value} {ys : List Value} (hown : w'.ownsRow base e sz v' N ys) {F : Nat → List D} (hF : ∀ k, k < N → (F k).length = sz)
    (hr : ∀ k, k < N → ∀ (j : Nat) x, (F k)[j]? = some x → RepD w' gd' x (ys.getD (k * sz + j) undef)) (L : Lay) (d : Nat) (he : e < markT) :
    RepO w' gd' (L.upd d v'.ownBlock (capOf v')) d (.row e sz N F) ∧ RepA w' (L.upd d v'.ownBlock (capOf v')) gd' (.rsl d sz 0 N) v' := by
  obtain ⟨h1, ⟨rfl, rfl⟩ | ⟨g, cap, cur, rfl, hg, hh, hc, hcap, hcur, hx⟩⟩ := hown
  · refine ⟨.row0 (by simp [Lay.upd, Value.ownBlock]) (by simp [Lay.upd, capOf]), ?_⟩
    have : RepA w' (L.upd d none 0) gd' (.rsl d sz 0 0) (.slice (((L.upd d none 0).blk d).map fun b => ⟨b, 0 * sz, none⟩) 0 ((L.upd d none 0).cap d - 0)) := .rsl (by simp [Lay.upd]) (fun h => by omega) (fun _ => rfl)
    simpa [Lay.upd, Value.ownBlock, capOf] using this
  · refine ⟨?_, ?_⟩
    · refine .row (b := g) (cs := cur) (by simp [Lay.upd, Value.ownBlock]) hh (by simpa [Lay.upd, capOf] using hc) (by simpa [Lay.upd, capOf] using hcap) (by simpa [Lay.upd, capOf] using hcur) hF (fun k hk j x hxx => ?_) (fun _ => rfl) (.inl rfl) (fun m hm => absurd he (Nat.not_lt.2 (hm ▸ Nat.le_trans (show markT ≤ arT by decide) (Nat.le_add_right arT m))))
      have := hr k hk j x hxx
      have hj : j < sz := by rw [← hF k hk]; exact (List.getElem?_eq_some_iff.1 hxx).1
      have hlt : k * sz + j < N * sz := by
        have := Nat.mul_le_mul_right sz (show k + 1 ≤ N from hk)
        rw [Nat.add_mul] at this; omega
      rw [← hx, List.getD_eq_getElem?_getD, List.getElem?_take, if_pos hlt] at this
      simpa [Array.getD_eq_getD_getElem?] using this
    · have : RepA w' (L.upd d (some g) cap) gd' (.rsl d sz 0 N) (.slice (((L.upd d (some g) cap).blk d).map fun b => ⟨b, 0 * sz, none⟩) N ((L.upd d (some g) cap).cap d - 0)) := .rsl (by simpa [Lay.upd] using hc) (fun _ => ⟨g, by simp [Lay.upd]⟩) (fun _ => rfl)
      simpa [Lay.upd, Value.ownBlock, capOf] using this
theorem own_lt {w' : World} {base e : TypeId} {sz N : Nat} {v' : Value} {ys : List Value} (hown : w'.ownsRow base e sz v' N ys) : ∀ b, v'.ownBlock = some b → b < w'.heap.size := by
  intro b hb
  obtain ⟨h1, ⟨rfl, rfl⟩ | ⟨g, cap, cur, rfl, hg, hh, _⟩⟩ := hown
  · cases hb
  · simp only [Value.ownBlock, Option.some.injEq] at hb
    subst hb
    exact (Array.getElem?_eq_some_iff.1 hh).1
theorem andC_left {p : Prop} {c : Option Prop} (h : andC p c) : p ∧ ∀ q, c = some q → q := by
  cases c with
  | none => exact ⟨h, fun q hq => by cases hq⟩
  | some c => exact ⟨h.1, fun q hq => by cases hq; exact h.2⟩
theorem append_run {o : Oper} {s x : Operand} {t : TypeId} {as : Array Operand} {ts : Array TypeId} (has : as.toList = [s, x]) (hts : ts.toList = [t, t]) (ho : o.op = .call { callee := .builtin .append, args := as, argTypes := ts }) {v u v' : Value} {w' : World} (hs : a.eval s = v) (hx : a.eval x = u)
    (hrun : (Builtin.append_ #[t, t] o.type #[v, u]).run P w = .ok v' w') : (execOp a.eval o).run P w = .ok (.value v') w' := by
  obtain ⟨l1⟩ := as
  obtain ⟨l2⟩ := ts
  simp only at has hts
  subst has hts
  simp only [execOp, ho, resolve, invoke, builtin, Sem.run_bind, Sem.run_pure, Result.andThen_ok, List.map_toArray, List.map_cons, List.map_nil, hs, hx, hrun]
theorem append_ok (hT : TysOk P T) (H : Holds w gd L g h a) {t e : TypeId} {sz by_ : Nat} {z : List D} (ht : lookT t T = some ⟨.slice e, sz, by_, z⟩) {d : TyD} (he : lookT e T = some d) {s x : Operand} {r : Res} (hr : aAppend e d h (opnd g s) (opnd g x) = some r) {as : Array Operand} {ts : Array TypeId}
    (has : as.toList = [s, x]) (hts : ts.toList = [t, t]) {o : Oper} (ho : o.op = .call { callee := .builtin .append, args := as, argTypes := ts }) : r.Ok P w gd L g h a o := by
  have hu := (hT.get ht).slice rfl
  have hd := hT.get he
  obtain ⟨i, i1, i2, i3, i4⟩ := hd.info'
  obtain ⟨c1, _⟩ := zeroVal_cells (w := w) (gd := gd) hd
  rw [hd.zlen] at c1
  unfold aAppend at hr
  split at hr
  · cases hr
  · rename_i szp hszp
    have hpos : 0 < d.size := by omega
    split at hr
    · rename_i m f2 c hsrc
      split at hr
      · -- onto nil
        rename_i es
        simp only [Option.some.injEq] at hr
        subst hr
        intro hq id
        obtain ⟨⟨q1, q2⟩, q3⟩ := andC_left (hq _ rfl)
        have hsv := repA_v (es ▸ H.opnd s)
        rcases aSrc_ok H hsrc q3 with ⟨rfl, c', hxv⟩ | ⟨ad, c', hxv, news, n1, n2, n3, n4, n5⟩
        · have hrun : (Builtin.append_ #[t, t] o.type #[.slice none 0 0, .slice none 0 c']).run P w = .ok (.slice none 0 0) w := by
            simp [Builtin.append_, run_underlying hu, Go.sizeOf, typeInfo, i1, Builtin.lenOf, Builtin.firstCells]
          exact ⟨w, none, 0, _, append_run has hts ho hsv hxv hrun, Below.refl _ _, fun b hb => (by cases hb), fun gd' hst _ => row_of_own (World.ownsRow_nil w 0 e d.size) (fun k hk => by omega) (fun k hk => by omega) L id (hT.get he).lt⟩
        · obtain ⟨v', w', hrun, hown, hgrown, hnil, hblk⟩ := run_append_own_at (P := P) w w.heap.size t o.type e i d.zeroVal d.size d.bytes hu i1 i2 i3 i4 c1 hpos (.slice none 0 0) 0 [] (World.ownsRow_nil _ _ _ _) ad m c' news n1 n2 n3
            (by unfold maxLen; omega) (by simpa using q2) (Nat.le_refl _)
          simp only [Nat.zero_add, List.nil_append] at hown
          have hb : Below w.heap.size w w' := (Below.refl _ _).grown hgrown (Nat.le_refl _) (fun k hk => by cases hk)
          refine ⟨w', v'.ownBlock, capOf v', v', append_run has hts ho hsv hxv hrun, hb, fun b e => ⟨?_, own_lt hown b e⟩, fun gd' hst _ => row_of_own hown n4 (fun k hk j y hy => (n5 k hk j y hy).mono hb.size hst) L id (hT.get he).lt⟩
          rcases hblk with e' | e'
          · rw [e'] at e; cases e
          · rw [e'] at e; cases e; exact Nat.le_refl _
      · -- onto a row
        rename_i id sz1 o1 n1 es
        split at hr
        · split at hr
          · rename_i e' sz2 n2 f hrow
            cases hb1 : eqT e' e with
            | false => rw [hb1] at hr; cases hr
            | true =>
              rw [hb1] at hr
              obtain ⟨this, hmt⟩ := eqT_ok hb1
              subst this
              simp only at hr
              cases hb2 : Nat.beq sz2 d.size with
              | false => rw [hb2] at hr; cases hr
              | true =>
                rw [hb2] at hr
                have hz2 := Nat.eq_of_beq_eq_true hb2
                subst hz2
                simp only at hr
                cases hb3 : Nat.beq sz1 d.size with
                | false => rw [hb3] at hr; cases hr
                | true =>
                  rw [hb3] at hr
                  have hz1 := Nat.eq_of_beq_eq_true hb3
                  subst hz1
                  simp only [Option.some.injEq] at hr
                  subst hr
                  refine ⟨⟨_, _, _, _, hrow⟩, fun hq hnot => ?_⟩
                  obtain ⟨⟨q0, q1, q2⟩, q3⟩ := andC_left hq
                  subst q0
                  have hsv := es ▸ H.opnd s
                  generalize hsval : a.eval s = sv at hsv
                  have hro := H.obj id _ hrow
                  -- the row, as the kit has it
                  have hold : ∃ xs, w.ownsRow 0 e' d.size sv n1 xs ∧ sv.ownBlock = L.blk id ∧ (∀ k, k < n1 → (f k).length = d.size) ∧ ∀ k, k < n1 → ∀ (j : Nat) y, (f k)[j]? = some y → RepD w gd y (xs.getD (k * d.size + j) undef) := by
                    cases hsv with
                    | rsl hcap hbb had =>
                      have had := had (.inl rfl)
                      subst had
                      cases hro with
                      | row0 hbk hck =>
                        refine ⟨[], ?_, ?_, fun k hk => by omega, fun k hk => by omega⟩
                        · rw [hbk, hck]; exact World.ownsRow_nil w 0 e' d.size
                        · rw [hbk]; rfl
                      | @row _ _ _ _ cs b t9 mk hbk hh hn hm hz hf hrep hty hmk hcap0 =>
                        have ht9 := hty hmt
                        subst ht9
                        have hmk0 : mk = (0, 0) := hmk.resolve_right fun h => absurd h.1 (by omega)
                        subst hmk0
                        refine ⟨cs.toList.take (n1 * d.size), ⟨?_, .inr ⟨b, L.cap id, cs, ?_, Nat.zero_le _, hh, hn, hm, hz, rfl⟩⟩, ?_, hf, fun k hk j y hy => ?_⟩
                        · rw [List.length_take, Array.length_toList, hz]
                          exact Nat.min_eq_left (Nat.mul_le_mul_right _ hn)
                        · rw [hbk]; simp
                        · rw [hbk]; rfl
                        · have hj : j < d.size := by rw [← hf k hk]; exact (List.getElem?_eq_some_iff.1 hy).1
                          have hlt : k * d.size + j < n1 * d.size := by
                            have := Nat.mul_le_mul_right d.size (show k + 1 ≤ n1 from hk)
                            rw [Nat.add_mul] at this; omega
                          have := hrep k hk j y hy
                          rw [List.getD_eq_getElem?_getD, List.getElem?_take, if_pos hlt]
                          simpa [Array.getD_eq_getD_getElem?] using this
                  obtain ⟨xs, hown0, hblk0, hf0, hr0⟩ := hold
                  rcases aSrc_ok H hsrc q3 with ⟨rfl, c', hxv⟩ | ⟨ad, c', hxv, news, n1', n2', n3', n4, n5⟩
                  · have hrun : (Builtin.append_ #[t, t] o.type #[sv, .slice none 0 c']).run P w = .ok sv w := by
                      rcases hown0.2 with ⟨rfl, rfl⟩ | ⟨g', cap, cur, rfl, _, _, hnc, _⟩
                      · simp [Builtin.append_, run_underlying hu, Go.sizeOf, typeInfo, i1, Builtin.lenOf, Builtin.firstCells]
                      · simp [Builtin.append_, run_underlying hu, Go.sizeOf, typeInfo, i1, Builtin.lenOf, Builtin.firstCells, hnc, storeCells]
                    refine ⟨w, sv.ownBlock, capOf sv, sv, append_run has hts ho hsval hxv hrun, rfl, rfl, rfl, Nat.le_refl _, fun _ _ _ => rfl, fun b hb => ⟨own_lt hown0 b hb, .inl (by rw [← hblk0]; exact hb.symm)⟩, fun dd gd' hst => ?_⟩
                    have hown1 : w.ownsRow 0 e' d.size sv (n1 + 0) xs := hown0
                    exact row_of_own hown1 (fun k hk => by unfold fcat; rw [if_pos (by omega)]; exact hf0 k (by omega)) (fun k hk j y hy => by
                      unfold fcat at hy
                      rw [if_pos (by omega)] at hy
                      exact (hr0 k (by omega) j y hy).mono (Nat.le_refl _) hst) L dd hmt
                  · obtain ⟨v', w', hrun, hown, hgrown, hnil, hblk⟩ := run_append_own_at (P := P) w 0 t o.type e' i d.zeroVal d.size d.bytes hu i1 i2 i3 i4 c1 hpos sv n1 xs hown0 ad m c' news n1' n2' n3'
                      (by unfold maxLen; omega) q2 (Nat.zero_le _)
                    have hxs := hown0.1
                    refine ⟨w', v'.ownBlock, capOf v', v', append_run has hts ho hsval hxv hrun, hgrown.os, hgrown.tape, hgrown.output, hgrown.size, fun b hb hne => hgrown.block b hb (by rw [hblk0]; exact hne), fun b hb => ⟨own_lt hown b hb, ?_⟩, fun dd gd' hst => ?_⟩
                    · rcases hblk with e' | e'
                      · left; rw [← hblk0, ← e']; exact hb.symm
                      · right; rw [e'] at hb; cases hb; exact Nat.le_refl _
                    · refine row_of_own hown (fun k hk => ?_) (fun k hk j y hy => ?_) L dd hmt
                      · unfold fcat
                        split
                        · exact hf0 k (by omega)
                        · exact n4 _ (by omega)
                      · unfold fcat at hy
                        rw [List.getD_eq_getElem?_getD, List.getElem?_append]
                        by_cases hkn : k < n1
                        · rw [if_pos hkn] at hy
                          have hj : j < d.size := by rw [← hf0 k hkn]; exact (List.getElem?_eq_some_iff.1 hy).1
                          have hlt : k * d.size + j < xs.length := by
                            have := Nat.mul_le_mul_right d.size (show k + 1 ≤ n1 from hkn)
                            rw [Nat.add_mul] at this; omega
                          rw [if_pos hlt]
                          have := (hr0 k hkn j y hy).mono hgrown.size hst
                          rwa [List.getD_eq_getElem?_getD] at this
                        · rw [if_neg hkn] at hy
                          have hge : ¬ k * d.size + j < xs.length := by
                            have := Nat.mul_le_mul_right d.size (show n1 ≤ k from by omega)
                            omega
                          rw [if_neg hge]
                          have := (n5 (k - n1) (by omega) j y hy).mono hgrown.size hst
                          rw [List.getD_eq_getElem?_getD] at this
                          have e2 : k * d.size + j - xs.length = (k - n1) * d.size + j := by
                            rw [hxs, Nat.sub_mul]
                            have := Nat.mul_le_mul_right d.size (show n1 ≤ k from by omega)
                            omega
                          rwa [e2]
          · cases hr
        · cases hr
      · cases hr
    · cases hr
end
end Towline
