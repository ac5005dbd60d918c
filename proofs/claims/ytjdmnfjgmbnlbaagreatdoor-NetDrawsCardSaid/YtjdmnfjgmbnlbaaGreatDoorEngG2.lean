/- The engine: rows that may hold objects of the call's own and grow; maps of data. Over any program. -/
import Derived.Test.YtjdmnfjgmbnlbaaGreatDoorEngG
namespace Towline
open Go Go.RowKit
set_option linter.unusedVariables false
section
variable {P : Program} {T : Tys} {w : World} {gd : Nat → Prop} {L : Lay} {g : Nat → AVal} {h : Nat → Option AObj} {a : Act}
theorem vLoad_ok (hT : TysOk P T) (H : Holds w gd L g h a) {t : TypeId} {d : TyD} (ht : lookT t T = some d) {x : Operand} {id sz k off : Nat} (hx : opnd g x = .rptr id sz k off) {t' : TypeId} {cells : List AVal} (hid : h id = some (.vrow t' cells))
    {v : AVal} (hp : aPart d (dropF (k * sz + off) cells) = some v) {o : Oper} (ho : o.op = .load t x) : (Res.val v).Ok P w gd L g h a o := by
  have hv := H.opnd x
  rw [hx] at hv
  generalize hxv : a.eval x = xv at hv
  cases hv with
  | @rptr _ _ _ _ _ b hb =>
    have hro := H.obj _ _ hid
    have hl : ∀ (i : Nat) y, (dropF (k * sz + off) cells)[i]? = some y → ∃ u, w.cell? ⟨b, k * sz + off + i, none⟩ = some u ∧ u.oneCell' = true ∧ RepA w L gd y u := by
      intro i y hy
      rw [dropF_eq, List.getElem?_drop] at hy
      have hlt := (List.getElem?_eq_some_iff.1 hy).1
      cases hro with
      | vrow0 => simp at hlt
      | @vrow _ _ cs b' hb' hh hn hm hz h1 hr =>
        rw [hb] at hb'
        cases hb'
        refine ⟨cs.getD (k * sz + off + i) undef, ?_, h1 _ hlt, hr _ _ hy⟩
        rw [cell_of_row w b _ cs _ (0, 0) hh, Array.getD_eq_getD_getElem?, Array.getElem?_eq_getElem (by omega)]
        rfl
    obtain ⟨u, h1, h2⟩ := loadAt_ok (P := P) hT ht hp hl
    exact ⟨u, by simp [execOp, ho, hxv, h1], h2⟩
theorem vStore_ok (hT : TysOk P T) (H : Holds w gd L g h a) {t : TypeId} {d : TyD} (ht : lookT t T = some d) {p x : Operand} {id sz k off : Nat} (hpo : opnd g p = .rptr id sz k off) {t' : TypeId} {cells : List AVal} (hobj : h id = some (.vrow t' cells))
    {vs l : List AVal} (hs : aStored d (opnd g x) = some vs) (hbq : Nat.beq vs.length d.size = true) (hov : overF cells (k * sz + off) vs = some l) {o : Oper} (ho : o.op = .store t p x) : (Res.set id (.vrow t' l)).Ok P w gd L g h a o := by
  have hv := H.opnd x
  have hp := H.opnd p
  rw [hpo] at hp
  generalize hpv : a.eval p = pval at hp
  cases hp with
  | @rptr _ _ _ _ _ b hb =>
    generalize hoff : k * sz + off = off' at *
    have hlen := Nat.eq_of_beq_eq_true hbq
    obtain ⟨e1, e2, e3⟩ := overF_eq hov
    obtain ⟨s1, s2, s3⟩ := aStored_ok hT ht hv hs
    have hro := H.obj id _ hobj
    cases hro with
    | vrow0 hb' _ => rw [hb] at hb'; cases hb'
    | @vrow _ _ cs b' hb' hh hn hm hz h1 hrep =>
      rw [hb] at hb'
      cases hb'
      have hfit : off' + (a.eval x).cells.size ≤ cs.size := by omega
      have hrun := storeAt_run (P := P) hT ht (by omega) hh (.inl rfl) hfit (cells_mem s1 s2)
      have hg := over_getD cs off' (a.eval x).cells.toList (by simpa using hfit)
      simp only [Array.length_toList] at hg
      refine ⟨⟨_, hobj⟩, b, (w.setRow b (cs.toList.take off' ++ (a.eval x).cells.toList ++ cs.toList.drop (off' + (a.eval x).cells.size)).toArray), hb, .inl (by simp [execOp, ho, hpv, hrun]), rfl, rfl, rfl, by simp, fun b' hne => setRow_other w b b' _ hne, fun gd' hst htop => ?_⟩
      refine .vrow hb (setRow_heap w b cs _ t' (0, 0) hh) (by omega) hm (by simp; omega) (fun i hi => ?_) (fun i y hy => ?_)
      · rw [hg]
        split
        · have := s2 (i - off') (by omega)
          simpa [List.getD_eq_getElem?_getD, Array.getD_eq_getD_getElem?] using this
        · exact h1 i (by omega)
      · rw [hg]
        rw [e3] at hy
        have hsz : w.heap.size ≤ (w.setRow b (cs.toList.take off' ++ (a.eval x).cells.toList ++ cs.toList.drop (off' + (a.eval x).cells.size)).toArray).heap.size := by simp
        by_cases hc : off' ≤ i ∧ i < off' + vs.length
        · rw [if_pos hc] at hy
          rw [if_pos (by omega)]
          have := (s3 (i - off') y hy).mono1 hsz hst htop
          simpa [List.getD_eq_getElem?_getD, Array.getD_eq_getD_getElem?] using this
        · rw [if_neg hc] at hy
          rw [if_neg (by omega)]
          exact (hrep i y hy).mono1 hsz hst htop
theorem findD0_lift (k : D) : ∀ (l : List (D × D)) (i : Nat), findM k (liftM l) i = (findD0 k l i).map (Option.map fun x => (x.1, AVal.d x.2))
  | [], i => rfl
  | (k', v) :: r, i => by
    show (match keyEq k k' with | some true => some (some (i, AVal.d v)) | some false => findM k (liftM r) (i + 1) | none => none) = Option.map _ (match keyEq k k' with | some true => some (some (i, v)) | some false => findD0 k r (i + 1) | none => none)
    cases keyEq k k' with
    | none => rfl
    | some b =>
      cases b with
      | true => rfl
      | false => exact findD0_lift k r (i + 1)
theorem findD_lift {k : D} {l : List (D × D)} {f : Option (Nat × D)} (hf : findD k l = some f) : findM k (liftM l) 0 = some (f.map fun x => (x.1, AVal.d x.2)) := by
  unfold findD at hf
  rw [findD0_lift, hf]
  rfl
/-- The map of data, seen as any map. -/
theorem aMapD_ok (H : Holds w gd L g h a) {t : TypeId} {m k : AVal} {id : Nat} {et : TypeId} {kd : D} {l : List (D × D)} (hm : aMapD T h t m k = some (id, et, kd, l)) :
    h id = some (.dmp l) ∧ Holds w gd L g (hput h id (.mp (liftM l))) a ∧ aMap T (hput h id (.mp (liftM l))) t m k = some (id, et, kd, liftM l) := by
  unfold aMapD at hm
  split at hm
  · rename_i kt et' sz by_ z ht
    split at hm
    · rename_i dk hkt
      split at hm
      · rename_i id'
        split at hm
        · rename_i l' hid
          split at hm
          · rename_i k'
            split at hm
            · rename_i hkk
              simp only [Option.some.injEq, Prod.mk.injEq] at hm
              obtain ⟨rfl, rfl, rfl, rfl⟩ := hm
              refine ⟨hid, ⟨H.slot, fun i o ho => ?_, H.glob⟩, ?_⟩
              · unfold hput at ho
                split at ho
                · rename_i e
                  cases ho
                  rw [e]
                  exact (H.obj _ _ hid).dmp_mp
                · exact H.obj i o ho
              · simp [aMap, ht, hkt, hput, hkk]
            · cases hm
          · cases hm
        · cases hm
      · cases hm
    · cases hm
  · cases hm
theorem WritesOk.dmp {o : Oper} {id : Nat} {l : List (D × D)} (h : WritesOk P w gd L a o id (.mp (liftM l))) : WritesOk P w gd L a o id (.dmp l) := by
  obtain ⟨b, w', h1, h2, h3, h4, h5, h6, h7, h8⟩ := h
  exact ⟨b, w', h1, h2, h3, h4, h5, h6, h7, fun gd' a1 a2 => (h8 gd' a1 a2).mp_dmp⟩
theorem putM_lift (f : Option (Nat × D)) (k x : D) (l : List (D × D)) : liftM (putM f k x l) = (match f.map (fun x => (x.1, AVal.d x.2)) with | some (i, _) => (liftM l).set i (k, .d x) | none => liftM l ++ [(k, .d x)]) := by
  unfold putM
  cases f with
  | none => simp [liftM]
  | some p => simp [liftM, List.map_set]
theorem eraseIdx_mp {α β : Type} (f : α → β) : ∀ (l : List α) (i : Nat), (l.eraseIdx i).map f = (l.map f).eraseIdx i
  | [], i => rfl
  | x :: r, 0 => rfl
  | x :: r, i + 1 => by simp [eraseIdx_mp f r i]
theorem delM_lift (f : Option (Nat × D)) (l : List (D × D)) : liftM (delM f l) = (match f.map (fun x => (x.1, AVal.d x.2)) with | some (i, _) => (liftM l).eraseIdx i | none => liftM l) := by
  unfold delM
  cases f with
  | none => rfl
  | some p => simp [liftM, eraseIdx_mp]
theorem dmpSet_ok (hT : TysOk P T) (H : Holds w gd L g h a) {t : TypeId} {m k x : Operand} {id : Nat} {et : TypeId} {kd xd : D} {l : List (D × D)} (hm : aMapD T h t (opnd g m) (opnd g k) = some (id, et, kd, l)) (hx : opnd g x = .d xd) {f : Option (Nat × D)} (hf : findD kd l = some f)
    {o : Oper} (ho : o.op = .mapUpdate t m k x ∨ o.op = .insert t m k x) : (Res.set id (.dmp (putM f kd xd l))).Ok P w gd L g h a o := by
  obtain ⟨hid, H', hm'⟩ := aMapD_ok H hm
  obtain ⟨_, h2⟩ := mapSet_ok (x := x) hT H' hm' (by rw [hx]; rfl) (findD_lift hf) ho
  refine ⟨⟨_, hid⟩, WritesOk.dmp ?_⟩
  rw [putM_lift, ← hx]
  cases f with
  | none => exact h2
  | some p => exact h2
theorem dmpDel_ok (hT : TysOk P T) (H : Holds w gd L g h a) {t t' : TypeId} {m k : Operand} {id : Nat} {et : TypeId} {kd : D} {l : List (D × D)} (hm : aMapD T h t (opnd g m) (opnd g k) = some (id, et, kd, l)) {f : Option (Nat × D)} (hf : findD kd l = some f)
    {as : Array Operand} {ts : Array TypeId} (has : as.toList = [m, k]) (hts : ts.toList = [t, t']) {o : Oper} (ho : o.op = .call { callee := .builtin .delete, args := as, argTypes := ts }) : (Res.set id (.dmp (delM f l))).Ok P w gd L g h a o := by
  obtain ⟨hid, H', hm'⟩ := aMapD_ok H hm
  obtain ⟨_, h2⟩ := mapDel_ok hT H' hm' (findD_lift hf) has hts ho
  refine ⟨⟨_, hid⟩, WritesOk.dmp ?_⟩
  rw [delM_lift]
  cases f with
  | none => exact h2
  | some p => exact h2
theorem dmpGet_ok (hT : TysOk P T) (H : Holds w gd L g h a) {t : TypeId} {m k : Operand} {ok : Bool} {id : Nat} {et : TypeId} {kd z : D} {l : List (D × D)} (hm : aMapD T h t (opnd g m) (opnd g k) = some (id, et, kd, l)) {d : TyD} (he : lookT et T = some d) (hs : isStr d.kind = false) (hz0 : d.zero = [z]) {f : Option (Nat × D)} (hf : findD kd l = some f)
    {o : Oper} (ho : o.op = .lookup t m k ok) : (Res.val (okM ok (match f with | some (_, v) => .d v | none => .d z) (match f with | some _ => true | none => false))).Ok P w gd L g h a o := by
  obtain ⟨hid, H', hm'⟩ := aMapD_ok H hm
  have h2 := mapGet_ok hT H' hm' he hs hz0 (findD_lift hf) ho
  cases f with
  | none => exact h2
  | some p => exact h2
theorem dmpLen_ok (hT : TysOk P T) (H : Holds w gd L g h a) {t kt et : TypeId} {sz by_ : Nat} {z : List D} (ht : lookT t T = some ⟨.map kt et, sz, by_, z⟩) {x : Operand} {id : Nat} {l : List (D × D)} (hx : opnd g x = .mref id) (hid : h id = some (.dmp l))
    {as : Array Operand} {ts : Array TypeId} (has : as.toList = [x]) (hts : ts.toList = [t]) {o : Oper} (ho : o.op = .call { callee := .builtin .len, args := as, argTypes := ts }) : (Res.val (.d (.i .i64 l.length))).Ok P w gd L g h a o := by
  have H' : Holds w gd L g (hput h id (.mp (liftM l))) a := ⟨H.slot, fun i o ho => by
    unfold hput at ho
    split at ho
    · rename_i e
      cases ho
      rw [e]
      exact (H.obj _ _ hid).dmp_mp
    · exact H.obj i o ho, H.glob⟩
  have h2 := lenMap_ok hT H' ht hx (show hput h id (.mp (liftM l)) id = some (.mp (liftM l)) by simp [hput]) has hts ho
  rw [show (liftM l).length = l.length by simp [liftM]] at h2
  exact h2
theorem dmpNew_ok {o : Oper} (h2 : (Res.newv (.mp []) (fun id => .mref id) none).Ok P w gd L g h a o) : (Res.newv (.dmp []) (fun id => .mref id) none).Ok P w gd L g h a o := by
  intro hq d hd
  obtain ⟨w', nb, nc, u, r1, r2, r3, r4⟩ := h2 hq d hd
  exact ⟨w', nb, nc, u, r1, r2, r3, fun gd' a1 a2 => ⟨RepO.mp_dmp (l := []) (r4 gd' a1 a2).1, (r4 gd' a1 a2).2⟩⟩
/-- A row that the call owns, as an object that may hold objects. -/
theorem vrow_of_own {w' : World} {gd' : Nat → Prop} {base e : TypeId} {N : Nat} {v' : Value} {ys : List Value} {cells : List AVal} (hN : cells.length = N) (hown : w'.ownsRow base e 1 v' N ys) (L : Lay) (d : Nat) (h1 : ∀ u ∈ ys, u.oneCell' = true)
    (hr : ∀ (i : Nat) x, cells[i]? = some x → RepA w' (L.upd d v'.ownBlock (capOf v')) gd' x (ys.getD i undef)) :
    RepO w' gd' (L.upd d v'.ownBlock (capOf v')) d (.vrow e cells) ∧ RepA w' (L.upd d v'.ownBlock (capOf v')) gd' (.rsl d 1 0 N) v' := by
  subst hN
  obtain ⟨hl, ⟨rfl, hnil⟩ | ⟨g, cap, cur, rfl, hg, hh, hc, hcap, hcur, hx⟩⟩ := hown
  · have hc0 : cells = [] := by
      cases cells with
      | nil => rfl
      | cons x r => simp at hnil
    subst hc0
    refine ⟨.vrow0 (by simp [Lay.upd, Value.ownBlock]) (by simp [Lay.upd, capOf]), ?_⟩
    have : RepA w' (L.upd d none 0) gd' (.rsl d 1 0 0) (.slice (((L.upd d none 0).blk d).map fun b => ⟨b, 0 * 1, none⟩) 0 ((L.upd d none 0).cap d - 0)) := .rsl (by simp [Lay.upd]) (fun h => by omega) (fun _ => rfl)
    simpa [Lay.upd, Value.ownBlock, capOf] using this
  · rw [Nat.mul_one] at hx hcur
    have hget : ∀ i, i < cells.length → ys.getD i undef = cur.getD i undef := fun i hi => by
      rw [← hx, List.getD_eq_getElem?_getD, List.getElem?_take, if_pos hi, Array.getD_eq_getD_getElem?]
      simp
    refine ⟨?_, ?_⟩
    · refine .vrow (b := g) (cs := cur) (by simp [Lay.upd, Value.ownBlock]) hh (by simpa [Lay.upd, capOf] using hc) (by simpa [Lay.upd, capOf] using hcap) (by simpa [Lay.upd, capOf] using hcur) (fun i hi => ?_) (fun i x hxx => ?_)
      · rw [← hget i hi]
        have hlt : i < ys.length := by rw [hl, Nat.mul_one]; exact hi
        rw [List.getD_eq_getElem?_getD, List.getElem?_eq_getElem hlt]
        exact h1 _ (List.getElem_mem hlt)
      · have hlt := (List.getElem?_eq_some_iff.1 hxx).1
        rw [← hget i hlt]
        exact hr i x hxx
    · have : RepA w' (L.upd d (some g) cap) gd' (.rsl d 1 0 cells.length) (.slice (((L.upd d (some g) cap).blk d).map fun b => ⟨b, 0 * 1, none⟩) cells.length ((L.upd d (some g) cap).cap d - 0)) := .rsl (by simpa [Lay.upd] using hc) (fun _ => ⟨g, by simp [Lay.upd]⟩) (fun _ => rfl)
      simpa [Lay.upd, Value.ownBlock, capOf] using this
theorem vSrc_ok (H : Holds w gd L g h a) {x : Operand} {new : List AVal} (hs : vSrc h (opnd g x) = some new) :
    (new = [] ∧ ∃ c', a.eval x = .slice none 0 c') ∨ (∃ ad c', a.eval x = .slice (some ad) new.length c' ∧ ∃ news : List Value, news.length = new.length ∧ (∀ (j : Nat) u, news[j]? = some u → w.cell? (ad.add j) = some u) ∧ (∀ u ∈ news, u.oneCell' = true) ∧
      ∀ (i : Nat) y, new[i]? = some y → RepA w L gd y (news.getD i undef)) := by
  have hv := H.opnd x
  generalize hxv : a.eval x = xv at hv
  have main : ∀ {b c : Nat} {cs : Array Value} {t2 : TypeId} {cells : List AVal}, w.heap[b]? = some (.cells cs t2 (0, 0)) → cells.length ≤ cs.size → (∀ i, i < cells.length → (cs.getD i undef).oneCell' = true) → (∀ (i : Nat) y, cells[i]? = some y → RepA w L gd y (cs.getD i undef)) →
      ∃ ad c', Value.slice (some ⟨b, 0, none⟩) cells.length c = .slice (some ad) cells.length c' ∧ ∃ news : List Value, news.length = cells.length ∧ (∀ (j : Nat) u, news[j]? = some u → w.cell? (ad.add j) = some u) ∧ (∀ u ∈ news, u.oneCell' = true) ∧
      ∀ (i : Nat) y, cells[i]? = some y → RepA w L gd y (news.getD i undef) := by
    intro b c cs t2 cells hh hle h1 hr
    refine ⟨_, c, rfl, cs.toList.take cells.length, by simp; omega, fun j u hu => ?_, fun u hu => ?_, fun i y hy => ?_⟩
    · rw [List.getElem?_take] at hu
      split at hu
      · rw [addr_add0, Nat.zero_add, cell_of_row w b j cs t2 (0, 0) hh]
        simpa using hu
      · cases hu
    · obtain ⟨i, hi, rfl⟩ := List.getElem_of_mem hu
      have hi' : i < cells.length := by simp at hi; omega
      have := h1 i hi'
      simpa [Array.getD_eq_getD_getElem?, Array.getElem?_eq_getElem (show i < cs.size by omega)] using this
    · have hlt := (List.getElem?_eq_some_iff.1 hy).1
      have := hr i y hy
      rw [List.getD_eq_getElem?_getD, List.getElem?_take, if_pos hlt]
      simpa [Array.getD_eq_getD_getElem?] using this
  unfold vSrc at hs
  split at hs
  · rename_i id sz o m e
    rw [e] at hv
    split at hs
    · rename_i hsz
      have := Nat.eq_of_beq_eq_true hsz
      subst this
      split at hs
      · split at hs
        · rename_i cells tag hid
          split at hs
          · rename_i hm
            have hm := Nat.eq_of_beq_eq_true hm
            cases hs
            subst hm
            cases hv with
            | rsl hcap hblk had =>
              have had := had (.inl rfl)
              subst had
              cases H.obj _ _ hid with
              | box htag hb hh hz h1 hr =>
                right
                rw [hb]
                exact main hh (by omega) h1 hr
          · cases hs
        · rename_i t2 cells hid
          split at hs
          · rename_i hm
            have hm := Nat.eq_of_beq_eq_true hm
            cases hs
            subst hm
            cases hv with
            | rsl hcap hblk had =>
              have had := had (.inl rfl)
              subst had
              cases H.obj _ _ hid with
              | vrow0 hb hc => left; exact ⟨rfl, _, by rw [hb]; rfl⟩
              | vrow hb hh hn hm2 hz h1 hr =>
                right
                rw [hb]
                exact main hh (by omega) h1 hr
          · cases hs
        · cases hs
      · cases hs
    · cases hs
  · rename_i c e
    cases hs
    rw [e] at hv
    left
    exact ⟨rfl, c, repA_v hv⟩
  · cases hs
theorem appV_ok (hT : TysOk P T) (H : Holds w gd L g h a) {t e : TypeId} {sz by_ : Nat} {z : List D} (ht : lookT t T = some ⟨.slice e, sz, by_, z⟩) {d : TyD} (he : lookT e T = some d) (hd1 : d.size = 1) {s x : Operand} {new : List AVal} (hsrc : vSrc h (opnd g x) = some new)
    {as : Array Operand} {ts : Array TypeId} (has : as.toList = [s, x]) (hts : ts.toList = [t, t]) {o : Oper} (ho : o.op = .call { callee := .builtin .append, args := as, argTypes := ts }) :
    (opnd g s = .d (.v (.slice none 0 0)) → (Res.mkv e new (new.length ≤ 9223372036854775807 ∧ new.length * d.bytes ≤ 140737488355328)).Ok P w gd L g h a o) ∧
    (∀ id old, opnd g s = .rsl id 1 0 old.length → h id = some (.vrow e old) → (Res.appv id e (old ++ new) (old.length + new.length ≤ 9223372036854775807 ∧ (old.length + new.length) * d.bytes ≤ 140737488355328)).Ok P w gd L g h a o) := by
  have hu := (hT.get ht).slice rfl
  have hd := hT.get he
  obtain ⟨i, i1, i2, i3, i4⟩ := hd.info'
  obtain ⟨c1, _⟩ := zeroVal_cells (w := w) (gd := gd) hd
  rw [hd.zlen] at c1
  have hpos : 0 < d.size := by omega
  have hupd : ∀ {dd : Nat} {nb : Option Nat} {nc : Nat} (j : Nat), (j != dd) = true → (L.upd dd nb nc).blk j = L.blk j ∧ (L.upd dd nb nc).cap j = L.cap j := by
    intro dd nb nc j hj
    have : j ≠ dd := by simpa using hj
    simp [Lay.upd, this]
  refine ⟨fun es hq id hfr => ?_, fun id old es hrow => ⟨⟨_, _, hrow⟩, fun hq hnot => ?_⟩⟩
  · obtain ⟨q1, q2⟩ := hq
    have hsv := repA_v (es ▸ H.opnd s)
    rcases vSrc_ok H hsrc with ⟨rfl, c', hxv⟩ | ⟨ad, c', hxv, news, n1, n2, n3, n5⟩
    · have hrun : (Builtin.append_ #[t, t] o.type #[.slice none 0 0, .slice none 0 c']).run P w = .ok (.slice none 0 0) w := by
        simp [Builtin.append_, run_underlying hu, Go.sizeOf, typeInfo, i1, Builtin.lenOf, Builtin.firstCells]
      exact ⟨w, none, 0, _, append_run has hts ho hsv hxv hrun, Below.refl _ _, fun b hb => (by cases hb), fun gd' hst _ => vrow_of_own (cells := []) rfl (World.ownsRow_nil w 0 e 1) L id (fun u hu => by cases hu) (fun i x hx => by simp at hx)⟩
    · obtain ⟨v', w', hrun, hown, hgrown, hnil, hblk⟩ := run_append_own_at (P := P) w w.heap.size t o.type e i d.zeroVal d.size d.bytes hu i1 i2 i3 i4 c1 hpos (.slice none 0 0) 0 [] (World.ownsRow_nil _ _ _ _) ad new.length c' news (by rw [n1, hd1, Nat.mul_one]) n2 n3
        (by unfold maxLen; omega) (by simpa using q2) (Nat.le_refl _)
      simp only [Nat.zero_add, List.nil_append] at hown
      rw [hd1] at hown
      have hb : Below w.heap.size w w' := (Below.refl _ _).grown hgrown (Nat.le_refl _) (fun k hk => by cases hk)
      refine ⟨w', v'.ownBlock, capOf v', v', append_run has hts ho hsv hxv hrun, hb, fun b e => ⟨?_, own_lt hown b e⟩, fun gd' hst hng => vrow_of_own rfl hown L id n3 (fun i y hy => (n5 i y hy).mono hb.size (· != id) hupd (fun b hlt hb' => ⟨hb', hb.block b hlt⟩) hst fun j hj => ?_)⟩
      · rcases hblk with e' | e'
        · rw [e'] at e; cases e
        · rw [e'] at e; cases e; exact Nat.le_refl _
      · obtain rfl : j = id := by simpa using hj
        exact AVal.freeL_get hfr i y hy
  · obtain ⟨q1, q2⟩ := hq
    have hsv := es ▸ H.opnd s
    generalize hsval : a.eval s = sv at hsv
    have hro := H.obj id _ hrow
    have hold : ∃ xs, w.ownsRow 0 e 1 sv old.length xs ∧ sv.ownBlock = L.blk id ∧ (∀ u ∈ xs, u.oneCell' = true) ∧ ∀ (i : Nat) y, old[i]? = some y → RepA w L gd y (xs.getD i undef) := by
      cases hsv with
      | rsl hcap hbb had =>
        have had := had (.inl rfl)
        subst had
        cases hro with
        | vrow0 hbk hck =>
          refine ⟨[], ?_, ?_, fun u hu => (by cases hu), fun i y hy => by simp at hy⟩
          · rw [hbk, hck]; exact World.ownsRow_nil w 0 e 1
          · rw [hbk]; rfl
        | @vrow _ _ cs b hbk hh hn hm hz h1 hr =>
          refine ⟨cs.toList.take old.length, ⟨?_, .inr ⟨b, L.cap id, cs, ?_, Nat.zero_le _, hh, hn, hm, by rw [Nat.mul_one]; exact hz, by rw [Nat.mul_one]⟩⟩, ?_, fun u hu => ?_, fun i y hy => ?_⟩
          · have : cs.toList.length = cs.size := by simp
            rw [List.length_take, this, hz, Nat.mul_one]
            exact Nat.min_eq_left hn
          · rw [hbk]; simp
          · rw [hbk]; rfl
          · obtain ⟨i, hi, rfl⟩ := List.getElem_of_mem hu
            have hi' : i < old.length := by simp at hi; omega
            have := h1 i hi'
            simpa [Array.getD_eq_getD_getElem?, Array.getElem?_eq_getElem (show i < cs.size by omega)] using this
          · have hlt := (List.getElem?_eq_some_iff.1 hy).1
            have := hr i y hy
            rw [List.getD_eq_getElem?_getD, List.getElem?_take, if_pos hlt]
            simpa [Array.getD_eq_getD_getElem?] using this
    obtain ⟨xs, hown0, hblk0, hx1, hr0⟩ := hold
    rcases vSrc_ok H hsrc with ⟨rfl, c', hxv⟩ | ⟨ad, c', hxv, news, n1', n2', n3', n5⟩
    · have hrun : (Builtin.append_ #[t, t] o.type #[sv, .slice none 0 c']).run P w = .ok sv w := by
        rcases hown0.2 with ⟨rfl, hnl⟩ | ⟨g', cap, cur, rfl, _, _, hnc, _⟩
        · simp [Builtin.append_, run_underlying hu, Go.sizeOf, typeInfo, i1, Builtin.lenOf, Builtin.firstCells]
        · simp [Builtin.append_, run_underlying hu, Go.sizeOf, typeInfo, i1, Builtin.lenOf, Builtin.firstCells, hnc, storeCells]
      refine ⟨w, sv.ownBlock, capOf sv, sv, append_run has hts ho hsval hxv hrun, rfl, rfl, rfl, Nat.le_refl _, fun _ _ _ => rfl, fun b hb => ⟨own_lt hown0 b hb, .inl (by rw [← hblk0]; exact hb.symm)⟩, fun dd gd' hfr hst hto => ?_⟩
      rw [List.append_nil] at hfr ⊢
      exact vrow_of_own rfl hown0 L dd hx1 fun i y hy => (hr0 i y hy).mono (Nat.le_refl _) (· != dd) hupd (fun b hlt hb' => ⟨hb', hto b hb'⟩) hst fun j hj => by
        obtain rfl : j = dd := by simpa using hj
        exact AVal.freeL_get hfr i y hy
    · obtain ⟨v', w', hrun, hown, hgrown, hnil, hblk⟩ := run_append_own_at (P := P) w 0 t o.type e i d.zeroVal d.size d.bytes hu i1 i2 i3 i4 c1 hpos sv old.length xs (by rw [hd1]; exact hown0) ad new.length c' news (by rw [n1', hd1, Nat.mul_one]) n2' n3'
        (by unfold maxLen; omega) q2 (Nat.zero_le _)
      rw [hd1] at hown
      have hxs : xs.length = old.length := by rw [hown0.1, Nat.mul_one]
      refine ⟨w', v'.ownBlock, capOf v', v', append_run has hts ho hsval hxv hrun, hgrown.os, hgrown.tape, hgrown.output, hgrown.size, fun b hb hne => hgrown.block b hb (by rw [hblk0]; exact hne), fun b hb => ⟨own_lt hown b hb, ?_⟩, fun dd gd' hfr hst hto => ?_⟩
      · rcases hblk with e' | e'
        · left; rw [← hblk0, ← e']; exact hb.symm
        · right; rw [e'] at hb; cases hb; exact Nat.le_refl _
      · have hmono : ∀ {y : AVal} {v : Value}, y.free dd = true → RepA w L gd y v → RepA w' (L.upd dd v'.ownBlock (capOf v')) gd' y v := fun hf hv => hv.mono hgrown.size (· != dd) hupd (fun b hlt hb' => ⟨hb', hto b hb'⟩) hst fun j hj => by
          obtain rfl : j = dd := by simpa using hj
          exact hf
        have hres := vrow_of_own (cells := old ++ new) (by simp) hown L dd (fun u hu => by
          rcases List.mem_append.1 hu with hu | hu
          · exact hx1 u hu
          · exact n3' u hu) fun i y hy => by
          have hfy := AVal.freeL_get hfr i y hy
          rw [List.getD_eq_getElem?_getD, List.getElem?_append]
          by_cases hi : i < old.length
          · rw [List.getElem?_append_left hi] at hy
            rw [if_pos (by omega), ← List.getD_eq_getElem?_getD]
            exact hmono hfy (hr0 i y hy)
          · rw [List.getElem?_append_right (by omega)] at hy
            rw [if_neg (by omega), hxs, ← List.getD_eq_getElem?_getD]
            exact hmono hfy (n5 _ y hy)
        simpa using hres
theorem newOp_ok (hT : TysOk P T) (H : Holds w gd L g h a) {o : Oper} {r : Res} (hr : newOp T g h o.op = some r) : r.Ok P w gd L g h a o := by
  generalize hop : o.op = op at hr
  unfold newOp at hr
  split at hr
  · -- load
    rename_i t x
    split at hr
    · rename_i id sz k off hx
      split at hr
      · rename_i t' cells hid
        split at hr
        · rename_i d ht
          split at hr
          · rename_i v hp
            cases hr
            exact vLoad_ok hT H ht hx hid hp hop
          · cases hr
        · cases hr
      · cases hr
    · cases hr
  · -- store
    rename_i t p x
    split at hr
    · rename_i id sz k off hx
      split at hr
      · rename_i t' cells hid
        split at hr
        · rename_i d ht
          split at hr
          · rename_i vs hs
            split at hr
            · rename_i hb
              split at hr
              · rename_i l hov
                cases hr
                exact vStore_ok hT H ht hx hid hs hb hov hop
              · cases hr
            · cases hr
          · cases hr
        · cases hr
      · cases hr
    · cases hr
  · -- lookup
    rename_i t m k ok
    split at hr
    · rename_i id et kd l hm
      split at hr
      · rename_i d he
        split at hr
        · rename_i hs
          split at hr
          · rename_i z hz
            cases hr
            intro f hf
            have := dmpGet_ok hT H hm he hs hz hf hop
            cases f <;> exact this
          · cases hr
        · cases hr
      · cases hr
    · cases hr
  · -- mapUpdate
    rename_i t m k x
    split at hr
    · rename_i id et kd l hm
      split at hr
      · rename_i xd hx
        cases hr
        exact ⟨⟨_, (aMapD_ok H hm).1⟩, fun f hf => (dmpSet_ok hT H hm hx hf (.inl hop)).2⟩
      · cases hr
    · cases hr
  · -- insert
    rename_i t m k x
    split at hr
    · rename_i id et kd l hm
      split at hr
      · rename_i xd hx
        cases hr
        exact ⟨⟨_, (aMapD_ok H hm).1⟩, fun f hf => (dmpSet_ok hT H hm hx hf (.inr hop)).2⟩
      · cases hr
    · cases hr
  · -- makeMap
    rename_i t
    split at hr
    · cases hr
      exact dmpNew_ok (aop0_ok (T := { T with tg := [mpT + t] }) (show TysOk P { T with tg := [mpT + t] } from hT) H (by rw [hop]; simp [aop0, tagMem]))
    · cases hr
  · rename_i t x
    split at hr
    · rename_i kt et sz by_ z k n ht hx
      split at hr
      · cases hr
        exact dmpNew_ok (aop0_ok (T := { T with tg := [mpT + t] }) (show TysOk P { T with tg := [mpT + t] } from hT) H (by rw [hop]; simp [aop0, tagMem, show lookT t { T with tg := [mpT + t] } = lookT t T from rfl, ht, hx]))
      · cases hr
    · cases hr
  · -- delete
    rename_i as ts
    split at hr
    · rename_i m k t t' has hts
      split at hr
      · rename_i id et kd l hm
        cases hr
        exact ⟨⟨_, (aMapD_ok H hm).1⟩, fun f hf => (dmpDel_ok hT H hm hf has hts hop).2⟩
      · cases hr
    · cases hr
  · -- len
    rename_i as ts
    split at hr
    · rename_i x t has hts
      split at hr
      · rename_i kt et sz by_ z ht
        split at hr
        · rename_i id hx
          split at hr
          · rename_i l hid
            cases hr
            exact dmpLen_ok hT H ht hx hid has hts hop
          · cases hr
        · cases hr
      · cases hr
    · cases hr
  · -- append
    rename_i as ts
    split at hr
    · rename_i s x t t' has hts
      split at hr
      · rename_i htt
        have := Nat.eq_of_beq_eq_true htt
        subst this
        split at hr
        · rename_i e sz by_ z ht
          split at hr
          · split at hr
            · rename_i d he
              split at hr
              · rename_i hd1
                have hd1 := Nat.eq_of_beq_eq_true hd1
                split at hr
                · rename_i new hsrc
                  obtain ⟨k1, k2⟩ := appV_ok hT H ht he hd1 hsrc has hts hop
                  split at hr
                  · rename_i hs
                    cases hr
                    exact k1 hs
                  · rename_i id sz' o' n hs
                    split at hr
                    · split at hr
                      · rename_i e' old hid
                        split at hr
                        · rename_i hee
                          obtain ⟨rfl, _⟩ := eqT_ok hee
                          split at hr
                          · rename_i hsz
                            have := Nat.eq_of_beq_eq_true hsz
                            subst this
                            split at hr
                            · rename_i hn
                              have := Nat.eq_of_beq_eq_true hn
                              subst this
                              cases hr
                              exact k2 _ _ hs hid
                            · cases hr
                          · cases hr
                        · cases hr
                      · cases hr
                    · cases hr
                  · cases hr
                · cases hr
              · cases hr
            · cases hr
          · cases hr
        · cases hr
      · cases hr
    · cases hr
  · cases hr
/-- An operation does what its plain form says. -/
theorem aop_ok (hT : TysOk P T) (H : Holds w gd L g h a) {o : Oper} {r : Res} (hr : aop T g h o.op = some r) : r.Ok P w gd L g h a o := by
  unfold aop at hr
  split at hr
  · rename_i h1; cases hr; exact newOp_ok hT H h1
  · split at hr
    · rename_i h1; cases hr; exact arrOp_ok hT H h1
    · exact aop0_ok hT H hr
end
end Towline
