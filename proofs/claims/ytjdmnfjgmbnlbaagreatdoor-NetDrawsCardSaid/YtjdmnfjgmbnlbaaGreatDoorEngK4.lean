/- The engine: statements that draw their order, as a rule for code. Over any program. -/
import Derived.Test.YtjdmnfjgmbnlbaaGreatDoorEngK3
namespace Towline
open Go Go.RowKit
set_option linter.unusedVariables false

def rtOf (ops : Array Oper) (o : Oper) : List Nat :=
  match o.guard with
  | some (j, _) => match gtmp ops j with
    | some t => t :: tmpsOf o.op.operands.toList
    | none => tmpsOf o.op.operands.toList
  | none => tmpsOf o.op.operands.toList
/-- The objects that an operation looks at: a slot that is moved is not looked into. -/
def idsO (op : Op) (g : Nat → AVal) (heap : Heap) (rt : List Nat) : List Nat :=
  match op with
  | .move _ => []
  | .nilCheck _ => []
  | .fieldAddr .. => []
  | .call { callee := .value _, .. } => reach 500 (fun i => lookO i heap) (rt.map g) []
  | _ => idsOf g rt
/-- A drawn statement, run in the order of the text; at its end its records are looked at. -/
def AOpsD (P : Program) (T : Tys) (nt : Nat) (ops : Array Oper) (K : List Rc → Env → Heap → Prop) : List Oper → List Rc → Env → Heap → Prop
  | [], acc, env, heap => K acc env heap
  | o :: r, acc, env, heap => forceN (fun rt => match o.guard with
    | none => forceN (fun rh => AStepD P T nt rt rh o env heap (fun rc env heap => AOpsD P T nt ops K r (rc :: acc) env heap)) (idsO o.op (fun t => look t env) heap rt)
    | some (j, want) => match gtmp ops j with
      | some t => match look t env with
        | .d (.b x) => match x with
          | true => match want with
            | true => forceN (fun rh => AStepD P T nt rt rh o ((t, .d (.b true)) :: env) heap (fun rc env heap => AOpsD P T nt ops K r (rc :: acc) env heap)) (idsO o.op (fun t => look t env) heap rt)
            | false => putD nt o.dst (.tup []) [t] [] ((t, .d (.b true)) :: env) heap (fun rc env heap => AOpsD P T nt ops K r (rc :: acc) env heap)
          | false => match want with
            | true => putD nt o.dst (.tup []) [t] [] ((t, .d (.b false)) :: env) heap (fun rc env heap => AOpsD P T nt ops K r (rc :: acc) env heap)
            | false => forceN (fun rh => AStepD P T nt rt rh o ((t, .d (.b false)) :: env) heap (fun rc env heap => AOpsD P T nt ops K r (rc :: acc) env heap)) (idsO o.op (fun t => look t env) heap rt)
        | .tup [] => putD nt o.dst (.tup []) [t] [] env heap (fun rc env heap => AOpsD P T nt ops K r (rc :: acc) env heap)
        | _ => False
      | none => False) (rtOf ops o)
section
variable {C : Ctx} {T : Tys} {ops : Array Oper}
/-- From wherever the record asks, the operation (or its being left out) does what the record says. -/
def OpOk (C : Ctx) (ops : Array Oper) (Q : Exit → Act → World → Prop) (i : Nat) (r : Rc) (g0 : Nat → AVal) (h0 : Nat → Option AObj) : Prop :=
  ∀ g h, Agrees r g0 h0 g h → ∀ L a w, Rel C L g h a w → ∀ (next : Act → World → Prop), (∀ L' a' w', Rel C L' (r.g g) (r.h h) a' w' → next a' w') → wpOp C.P ops Q i next a w
theorem opOk_run {Q : Exit → Act → World → Prop} {i : Nat} {o : Oper} {r : Rc} {g0 : Nat → AVal} {h0 : Nat → Option AObj} (ho : ops[i]? = some o) (hw : ∀ g h, Agrees r g0 h0 g h → ∀ L a w, Rel C L g h a w → Region.wanted o (yielded ops a.tmps) = true) (hs : StepOk C o r g0 h0) : OpOk C ops Q i r g0 h0 := by
  intro g h ha L a w H next hn
  unfold wpOp
  rw [ho]
  simp only
  rw [if_pos (hw g h ha L a w H)]
  exact .inl (hs g h ha L a w H next Q hn)
theorem bool_slot {L : Lay} {g : Nat → AVal} {h : Nat → Option AObj} {a : Act} {w : World} (H : Rel C L g h a w) {t : Nat} {x : Bool} (hg : g t = .d (.b x)) {j : Nat} (hj : gtmp ops j = some t) : yielded ops a.tmps j = some x := by
  have hs := H.slot t
  rw [hg] at hs
  have hb := repA_b hs
  have hlt : t < a.tmps.size := by
    rcases Nat.lt_or_ge t a.tmps.size with h1 | h1
    · exact h1
    · rw [Array.getD_eq_getD_getElem?, Array.getElem?_eq_none h1] at hb; cases hb
  unfold yielded
  have : (ops[j]?).bind (·.dst) = some t := hj
  rw [this]
  rw [Array.getD_eq_getD_getElem?, Array.getElem?_eq_getElem hlt] at hb
  simp only [Option.bind_some, Array.getElem?_eq_getElem hlt]
  simp only [Option.getD_some] at hb
  rw [hb]
theorem lk_same {t : Nat} {env : Env} {v : AVal} (h : look t env = v) : lk ((t, v) :: env) = lk env := by
  rw [lk_cons]
  funext s
  unfold gput
  split
  · rename_i e; rw [e, ← h]
  · rfl
/-- The text's own order: a record for each operation, each one right where the text comes to it. -/
theorem AOpsD_recs (hT : TysOk C.P T) {K : List Rc → Env → Heap → Prop} {Q : Exit → Act → World → Prop} : ∀ (l : List Oper) (k : Nat) (acc : List Rc) (env : Env) (heap : Heap), (∀ j o, l[j]? = some o → ops[k + j]? = some o) → AOpsD C.P T C.nt ops K l acc env heap →
    ∃ (recs : List Rc) (env' : Env) (heap' : Heap), K (recs.reverse ++ acc) env' heap' ∧ recs.length = l.length ∧ lk env' = SG recs 0 (fun _ => true) (lk env) ∧ lko heap' = SH recs 0 (fun _ => true) (lko heap) ∧
      ∀ i r, recs[i]? = some r → OpOk C ops Q (k + i) r (SG (recs.take i) 0 (fun _ => true) (lk env)) (SH (recs.take i) 0 (fun _ => true) (lko heap))
  | [], k, acc, env, heap, _, h => ⟨[], env, heap, h, rfl, rfl, rfl, fun i r hr => by simp at hr⟩
  | o :: l, k, acc, env, heap, hl, h => by
    have ho : ops[k]? = some o := by simpa using hl 0 o rfl
    have hl' : ∀ j o', l[j]? = some o' → ops[k + 1 + j]? = some o' := fun j o' hj => by
      have := hl (j + 1) o' (by simpa using hj)
      rwa [show k + (j + 1) = k + 1 + j from by omega] at this
    have step : ∀ (env1 : Env), lk env1 = lk env → (∃ r env' heap', AOpsD C.P T C.nt ops K l (r :: acc) env' heap' ∧ lk env' = r.g (lk env1) ∧ lko heap' = r.h (lko heap) ∧ OpOk C ops Q k r (lk env1) (lko heap)) →
        ∃ (recs : List Rc) (env' : Env) (heap' : Heap), K (recs.reverse ++ acc) env' heap' ∧ recs.length = (o :: l).length ∧ lk env' = SG recs 0 (fun _ => true) (lk env) ∧ lko heap' = SH recs 0 (fun _ => true) (lko heap) ∧
          ∀ i r, recs[i]? = some r → OpOk C ops Q (k + i) r (SG (recs.take i) 0 (fun _ => true) (lk env)) (SH (recs.take i) 0 (fun _ => true) (lko heap)) := by
      rintro env1 he ⟨r, env', heap', h1, h2, h3, h4⟩
      obtain ⟨recs, env2, heap2, k1, k2, k3, k4, k5⟩ := AOpsD_recs hT (Q := Q) l (k + 1) (r :: acc) env' heap' hl' h1
      have sg : ∀ (rs : List Rc) (g : Nat → AVal) (i j : Nat), SG rs i (fun _ => true) g = SG rs j (fun _ => true) g := by
        intro rs
        induction rs with
        | nil => intros; rfl
        | cons r rs ih => intro g i j; simp only [SG]; exact ih _ _ _
      have sh : ∀ (rs : List Rc) (g : Nat → Option AObj) (i j : Nat), SH rs i (fun _ => true) g = SH rs j (fun _ => true) g := by
        intro rs
        induction rs with
        | nil => intros; rfl
        | cons r rs ih => intro g i j; simp only [SH]; exact ih _ _ _
      refine ⟨r :: recs, env2, heap2, by simpa using k1, by simp [k2], ?_, ?_, fun i r' hr => ?_⟩
      · rw [k3, h2, he]; simp only [SG]; exact sg _ _ _ _
      · rw [k4, h3]; simp only [SH]; exact sh _ _ _ _
      · cases i with
        | zero =>
          simp only [List.getElem?_cons_zero, Option.some.injEq] at hr
          subst hr
          simp only [Nat.add_zero, List.take_zero, SG, SH]
          rw [← he]; exact h4
        | succ i =>
          simp only [List.getElem?_cons_succ] at hr
          have := k5 i r' hr
          rw [h2, h3, he] at this
          simp only [List.take_succ_cons, SG, SH]
          rw [show k + (i + 1) = k + 1 + i from by omega, sg _ _ (0 + 1) 0, sh _ _ (0 + 1) 0]
          exact this
    unfold AOpsD at h
    have h := forceN_eq h
    cases hg : o.guard with
    | none =>
      rw [hg] at h
      simp only at h
      have h := forceN_eq h
      obtain ⟨r, env', heap', h1, _, h2, h3, h4⟩ := AStepD_ok hT h
      exact step env rfl ⟨r, env', heap', h1, h2, h3, opOk_run ho (fun g h ha L a w H => by simp [Region.wanted, hg]) h4⟩
    | some jw =>
      obtain ⟨j, want⟩ := jw
      rw [hg] at h
      simp only at h
      cases ht : gtmp ops j with
      | none => rw [ht] at h; exact h.elim
      | some t =>
        rw [ht] at h
        simp only at h
        have hrt : t ∈ rtOf ops o := by unfold rtOf; rw [hg]; simp [ht]
        split at h
        · rename_i x e
          have hsame : ∀ b, x = b → lk ((t, .d (.b b)) :: env) = lk env := fun b hb => lk_same (by rw [e, hb])
          have hval : lk env t = .d (.b x) := e
          have do_ : ∀ b, x = b → want = b → forceN (fun rh => AStepD C.P T C.nt (rtOf ops o) rh o ((t, .d (.b b)) :: env) heap (fun rc env heap => AOpsD C.P T C.nt ops K l (rc :: acc) env heap)) (idsO o.op (fun t => look t env) heap (rtOf ops o)) →
              ∃ r env' heap', AOpsD C.P T C.nt ops K l (r :: acc) env' heap' ∧ lk env' = r.g (lk ((t, .d (.b b)) :: env)) ∧ lko heap' = r.h (lko heap) ∧ OpOk C ops Q k r (lk ((t, .d (.b b)) :: env)) (lko heap) := by
            intro b hb hwb hh
            have hh := forceN_eq hh
            obtain ⟨r, env', heap', h1, h0, h2, h3, h4⟩ := AStepD_ok hT hh
            refine ⟨r, env', heap', h1, h2, h3, opOk_run ho (fun g h ha L a w H => ?_) h4⟩
            have hg' : g t = .d (.b x) := by rw [ha.t t (by rw [h0]; exact hrt), hsame b hb, hval]
            have hy := bool_slot H hg' ht
            simp [Region.wanted, hg, hy, hb, hwb]
          have skip_ : ∀ b, x = b → want = (!b) → putD C.nt o.dst (.tup []) [t] [] ((t, .d (.b b)) :: env) heap (fun rc env heap => AOpsD C.P T C.nt ops K l (rc :: acc) env heap) →
              ∃ r env' heap', AOpsD C.P T C.nt ops K l (r :: acc) env' heap' ∧ lk env' = r.g (lk ((t, .d (.b b)) :: env)) ∧ lko heap' = r.h (lko heap) ∧ OpOk C ops Q k r (lk ((t, .d (.b b)) :: env)) (lko heap) := by
            intro b hb hwb hh
            have key : ∀ (wt : List (Nat × AVal)), (wt = wtOf o.dst (.tup [])) → (∀ t, o.dst = some t → t < C.nt) → OpOk C ops Q k ⟨[t], [], wt, [], []⟩ (lk ((t, .d (.b b)) :: env)) (lko heap) := by
              intro wt hwt hlt g h ha L a w H next hn
              have hg' : g t = .d (.b x) := by rw [ha.t t (by simp), hsame b hb, hval]
              have hy := bool_slot H hg' ht
              unfold wpOp
              rw [ho]
              simp only
              rw [if_neg (by simp [Region.wanted, hg, hy, hb, hwb])]
              exact hn L _ w (put_step H hlt (.tup (vs := #[]) rfl fun i x hx => by simp at hx) hwt)
            unfold putD at hh
            cases hd : o.dst with
            | none =>
              rw [hd] at hh key
              exact ⟨_, _, _, hh, rfl, rfl, key [] rfl (fun t h => by cases h)⟩
            | some d =>
              rw [hd] at hh key
              simp only at hh
              cases hbl : Nat.blt d C.nt with
              | false => rw [hbl] at hh; exact hh.elim
              | true =>
                rw [hbl] at hh
                exact ⟨_, _, _, hh, by rw [lk_cons, Rc.g_one], rfl, key _ rfl (fun t h => by cases h; exact blt_lt hbl)⟩
          cases x <;> cases want <;> simp only at h
          · exact step _ (hsame _ rfl) (do_ _ rfl rfl h)
          · exact step _ (hsame _ rfl) (skip_ _ rfl rfl h)
          · exact step _ (hsame _ rfl) (skip_ _ rfl rfl h)
          · exact step _ (hsame _ rfl) (do_ _ rfl rfl h)
        · rename_i e
          have hval : lk env t = .tup [] := e
          have key : ∀ (wt : List (Nat × AVal)), (wt = wtOf o.dst (.tup [])) → (∀ t, o.dst = some t → t < C.nt) → OpOk C ops Q k ⟨[t], [], wt, [], []⟩ (lk env) (lko heap) := by
            intro wt hwt hlt g h ha L a w H next hn
            have hg' : g t = .tup [] := by rw [ha.t t (by simp), hval]
            have hs := H.slot t
            rw [hg'] at hs
            have hy := yielded_undef ht (repA_tup0 hs)
            unfold wpOp
            rw [ho]
            simp only
            rw [if_neg (by simp [Region.wanted, hg, hy])]
            exact hn L _ w (put_step H hlt (.tup (vs := #[]) rfl fun i x hx => by simp at hx) hwt)
          refine step env rfl ?_
          unfold putD at h
          cases hd : o.dst with
          | none =>
            rw [hd] at h key
            exact ⟨_, _, _, h, rfl, rfl, key [] rfl (fun t h => by cases h)⟩
          | some d =>
            rw [hd] at h key
            simp only at h
            cases hbl : Nat.blt d C.nt with
            | false => rw [hbl] at h; exact h.elim
            | true =>
              rw [hbl] at h
              exact ⟨_, _, _, h, by rw [lk_cons, Rc.g_one], rfl, key _ rfl (fun t h => by cases h; exact blt_lt hbl)⟩
        · exact h.elim
theorem split_at {α : Type} {l : List α} {i : Nat} {r : α} (h : l[i]? = some r) : l = l.take i ++ (r :: l.drop (i + 1)) := by
  obtain ⟨hi, e⟩ := List.getElem?_eq_some_iff.1 h
  rw [← e, ← List.drop_eq_getElem_cons hi, List.take_append_drop]
/-- The rule. -/
theorem draw_any {Q : Exit → Act → World → Prop} {recs : List Rc} {g0 : Nat → AVal} {h0 : Nat → Option AObj} (hlen : recs.length = ops.size) (hedge : edgesOk 0 ops.toList = true) (hpair : okR 0 recs (befs ops.toList []) = true)
    (hfg : ∀ r ∈ recs, ∀ d ∈ r.fr, ∀ t, (g0 t).free d = true) (hfh : ∀ r ∈ recs, ∀ d ∈ r.fr, ∀ j o, h0 j = some o → j ≠ d ∧ o.free d = true)
    (hop : ∀ i r, recs[i]? = some r → OpOk C ops Q i r (SG (recs.take i) 0 (fun _ => true) g0) (SH (recs.take i) 0 (fun _ => true) h0))
    (hQ : ∀ L a w, Rel C L (SG recs 0 (fun _ => true) g0) (SH recs 0 (fun _ => true) h0) a w → Q .normal a w) :
    ∀ (fuel : Nat) (listed : Array Bool) (a : Act) (w : World), listed.size = ops.size → listed.toList.countP (fun b => !b) = fuel → Closed ops.toList (fun i => listed.getD i false) →
      (∃ L, Rel C L (SG recs 0 (fun i => listed.getD i false) g0) (SH recs 0 (fun i => listed.getD i false) h0) a w) → wpAny C.P .any ops Q fuel listed a w := by
  have edge : ∀ (l : List Oper) (n : Nat), edgesOk n l = true → ∀ j o, l[j]? = some o → ∀ e ∈ o.after.toList, Region.binds .any e = true → e.on < n + j := by
    intro l
    induction l with
    | nil => intro n _ j o h; simp at h
    | cons x r ih =>
      intro n h j o hj e he hb
      simp only [edgesOk, Bool.and_eq_true, List.all_eq_true] at h
      cases j with
      | zero =>
        simp only [List.getElem?_cons_zero, Option.some.injEq] at hj
        subst hj
        have := h.1 e he
        rw [hb] at this
        have := blt_lt (by simpa using this)
        omega
      | succ j =>
        simp only [List.getElem?_cons_succ] at hj
        have := ih (n + 1) h.2 j o hj e he hb
        omega
  have hedge' := edge ops.toList 0 hedge
  -- all that is not done: some operation is ready
  have stuck_ : ∀ (listed : Array Bool), listed.size = ops.size → Region.ready .any ops listed = [] → ∀ i, i < ops.size → listed.getD i false = true := by
    intro listed hsz hready i
    induction i using Nat.strongRecOn with
    | _ i ih =>
      intro hi
      cases hl : listed.getD i false with
      | true => rfl
      | false =>
        exfalso
        have hmem : i ∈ Region.ready .any ops listed := by
          unfold Region.ready
          rw [List.mem_filter]
          refine ⟨by simpa using hi, ?_⟩
          have h1 : listed.getD i true = false := by
            rw [Array.getD_eq_getD_getElem?] at hl ⊢
            rw [Array.getElem?_eq_getElem (by omega)] at hl ⊢
            exact hl
          rw [h1]
          rw [Array.getElem?_eq_getElem hi]
          simp only [Bool.not_false, Bool.true_and, Option.map_some, Option.getD_some]
          rw [← Array.all_toList, List.all_eq_true]
          intro e he
          cases hb : Region.binds .any e with
          | false => rfl
          | true =>
            have hlt := hedge' i ops[i] (by simp [hi]) e he hb
            simp only [Bool.not_true, Bool.false_or]
            exact ih e.on (by omega) (by omega)
        rw [hready] at hmem
        simp at hmem
  have fin : ∀ (listed : Array Bool) (a : Act) (w : World), listed.size = ops.size → Region.ready .any ops listed = [] → (∃ L, Rel C L (SG recs 0 (fun i => listed.getD i false) g0) (SH recs 0 (fun i => listed.getD i false) h0) a w) → Q .normal a w := by
    rintro listed a w hsz hready ⟨L, H⟩
    have hall := stuck_ listed hsz hready
    refine hQ L a w ?_
    have e1 : SG recs 0 (fun i => listed.getD i false) g0 = SG recs 0 (fun _ => true) g0 := funext fun t => SG_agree (fun j r v hj _ => by
      have : j < ops.size := by rw [← hlen]; exact (List.getElem?_eq_some_iff.1 hj).1
      simpa using hall j this) rfl
    have e2 : SH recs 0 (fun i => listed.getD i false) h0 = SH recs 0 (fun _ => true) h0 := funext fun t => SH_agree (fun j r v hj _ => by
      have : j < ops.size := by rw [← hlen]; exact (List.getElem?_eq_some_iff.1 hj).1
      simpa using hall j this) rfl
    rw [← e1, ← e2]; exact H
  intro fuel
  induction fuel with
  | zero =>
    intro listed a w hsz hcount hclosed hrel
    have hready : Region.ready .any ops listed = [] := by
      unfold Region.ready
      rw [List.filter_eq_nil_iff]
      intro i hi
      have hi' : i < listed.size := by rw [hsz]; simpa using hi
      have := List.countP_eq_zero.1 hcount listed[i] (by simp)
      have h1 : listed.getD i true = true := by
        rw [Array.getD_eq_getD_getElem?, Array.getElem?_eq_getElem hi']
        simpa using this
      simp [h1]
    exact ⟨hready, fin listed a w hsz hready hrel⟩
  | succ fuel ih =>
    intro listed a w hsz hcount hclosed hrel
    refine ⟨fun hready => fin listed a w hsz hready hrel, fun i hi => ?_⟩
    unfold Region.ready at hi
    rw [List.mem_filter] at hi
    obtain ⟨hi1, hi2⟩ := hi
    have hi' : i < ops.size := by simpa using hi1
    simp only [Bool.and_eq_true] at hi2
    obtain ⟨hnot, hpre⟩ := hi2
    have hil : i < listed.size := by omega
    have hDi : listed.getD i false = false := by
      rw [Array.getD_eq_getD_getElem?, Array.getElem?_eq_getElem hil] at hnot ⊢
      simpa using hnot
    rw [Array.getElem?_eq_getElem hi'] at hpre
    simp only [Option.map_some, Option.getD_some] at hpre
    rw [← Array.all_toList, List.all_eq_true] at hpre
    obtain ⟨L, H⟩ := hrel
    obtain ⟨ri, hri⟩ : ∃ r, recs[i]? = some r := ⟨recs[i]'(by omega), List.getElem?_eq_getElem (by omega)⟩
    -- what is done, and then i
    have hset : ∀ j, (listed.setIfInBounds i true).getD j false = if j = i then true else listed.getD j false := by
      intro j
      simp only [Array.getD_eq_getD_getElem?, Array.getElem?_setIfInBounds]
      by_cases e : i = j
      · subst e; simp [hil]
      · rw [if_neg e, if_neg (fun h => e h.symm)]
    have hclosed' : Closed ops.toList (fun j => (listed.setIfInBounds i true).getD j false) := by
      intro j o hj hD e he hb
      simp only [hset] at hD ⊢
      by_cases e1 : e.on = i
      · simp [e1]
      · rw [if_neg e1]
        by_cases e2 : j = i
        · subst e2
          have ho : o = ops[j] := by
            have : ops[j]? = some o := by simpa using hj
            rw [Array.getElem?_eq_getElem hi'] at this
            exact (Option.some.inj this).symm
          subst ho
          have := hpre e he
          rw [hb] at this
          simpa using this
        · rw [if_neg e2] at hD
          exact hclosed j o hj hD e he hb
    -- conflicts are ordered
    have ordBefore : ∀ (j : Nat) (m : Nat), (befs ops.toList [])[i]? = some m → m.testBit j = true → listed.getD j false = true := by
      intro j m hm hb
      have := befs_closed hclosed' ops.toList [] (fun k o hk => by simpa using hk) (fun j m h => by simp at h) i m hm (by simp [hset]) j hb
      simp only [hset] at this
      by_cases e : j = i
      · subst e
        -- no operation stands ahead of itself
        exfalso
        have bound : ∀ (l : List Oper) (acc : List Nat), (∀ k o, l[k]? = some o → ops.toList[acc.length + k]? = some o) → (∀ (k m : Nat), acc[k]? = some m → ∀ q, m.testBit q = true → q < k) → ∀ (k m : Nat), (befs l acc)[k]? = some m → ∀ q, m.testBit q = true → q < k := by
          intro l
          induction l with
          | nil => intro acc _ h k m e; exact h k m e
          | cons o r ih2 =>
            intro acc hl h k m e
            refine ih2 (acc ++ [maskOf acc o.after.toList]) (fun k o' hk => ?_) (fun k m hk q hq => ?_) k m e
            · rw [List.length_append]
              have := hl (k + 1) o' (by simpa using hk)
              simpa [Nat.add_assoc, Nat.add_comm 1 k] using this
            · rw [List.getElem?_append] at hk
              split at hk
              · exact h k m hk q hq
              · rename_i hge
                have hk0 : k = acc.length := by
                  have := (List.getElem?_eq_some_iff.1 hk).1
                  simp at this; omega
                subst hk0
                simp only [Nat.sub_self, List.getElem?_cons_zero, Option.some.injEq] at hk
                subst hk
                obtain ⟨ed, h1, h2, h3⟩ := maskOf_bit hq
                have hlt := hedge' acc.length o (by simpa using hl 0 o rfl) ed h1 h2
                rcases h3 with h3 | h3
                · omega
                · cases ha : acc[ed.on]? with
                  | none => rw [List.getD_eq_getElem?_getD, ha] at h3; simp at h3
                  | some m' => rw [List.getD_eq_getElem?_getD, ha] at h3; have := h ed.on m' ha q h3; omega
        have := bound ops.toList [] (fun k o hk => by simpa using hk) (fun k m h => by simp at h) j m hm j hb
        omega
      · rwa [if_neg e] at this
    have ordAfter : ∀ (j : Nat) (m : Nat), (befs ops.toList [])[j]? = some m → m.testBit i = true → listed.getD j false = true → False := by
      intro j m hm hb hD
      have := befs_closed hclosed ops.toList [] (fun k o hk => by simpa using hk) (fun j m h => by simp at h) j m hm hD i hb
      simp only [hDi] at this
      cases this
    -- a pair, whichever comes first in the text
    have pairs : ∀ (j : Nat) (rj : Rc), recs[j]? = some rj → j ≠ i →
        (∀ t v, lookW t rj.wt = some v → lookW t ri.wt = none) ∧ (listed.getD j false = true → ∀ d ∈ ri.fr, freeW d rj.wt = true ∧ freeWh d rj.wh = true) ∧
        ((listed.getD j false = true ↔ j < i) ∨ ((∀ t ∈ ri.rt, lookW t rj.wt = none) ∧ (∀ t ∈ ri.rh, lookW t rj.wh = none) ∧ (∀ t v, lookW t rj.wh = some v → lookW t ri.wh = none))) := by
      intro j rj hj hne
      rcases Nat.lt_or_gt_of_ne hne with hlt | hlt
      · obtain ⟨m, hm, hp⟩ := okR_ok hpair j i rj ri hlt hj hri
        simp only [okPair, Nat.zero_add, Bool.and_eq_true, Bool.or_eq_true] at hp
        obtain ⟨⟨p1, p2⟩, p3⟩ := hp
        refine ⟨fun t v hv => disjW_ok p1 t v hv, fun _ d hd => freeR_ok p2 d hd, ?_⟩
        rcases p3 with p3 | p3
        · left; exact ⟨fun _ => hlt, fun _ => ordBefore j m hm p3⟩
        · obtain ⟨⟨⟨⟨⟨q1, q2⟩, q3⟩, q4⟩, q5⟩, q6⟩ := p3
          right; exact ⟨disjN_ok q2, disjN_ok q4, fun t v hv => disjW_ok q5 t v hv⟩
      · obtain ⟨m, hm, hp⟩ := okR_ok hpair i j ri rj hlt hri hj
        simp only [okPair, Nat.zero_add, Bool.and_eq_true, Bool.or_eq_true] at hp
        obtain ⟨⟨p1, p2⟩, p3⟩ := hp
        refine ⟨fun t v hv => ?_, fun hD d hd => ?_, ?_⟩
        · cases h : lookW t ri.wt with
          | none => rfl
          | some v' => have := disjW_ok p1 t v' h; rw [hv] at this; cases this
        · rcases p3 with p3 | p3
          · exact (ordAfter j m hm p3 hD).elim
          · exact freeR_ok p3.2 d hd
        · rcases p3 with p3 | p3
          · left; exact ⟨fun hD => (ordAfter j m hm p3 hD).elim, fun h => by omega⟩
          · obtain ⟨⟨⟨⟨⟨q1, q2⟩, q3⟩, q4⟩, q5⟩, q6⟩ := p3
            right; exact ⟨disjN_ok q1, disjN_ok q3, fun t v hv => by
              cases h : lookW t ri.wh with
              | none => rfl
              | some v' => have := disjW_ok q5 t v' h; rw [hv] at this; cases this⟩
    have takeG : ∀ t, SG (recs.take i) 0 (fun _ => true) g0 t = SG recs 0 (fun j => decide (j < i)) g0 t := by
      intro t
      have e : recs = recs.take i ++ recs.drop i := (List.take_append_drop i recs).symm
      conv => rhs; rw [e]
      rw [SG_split, SG_none (rs := recs.drop i)]
      · refine SG_agree (fun j r v hj _ => ?_) rfl
        have : j < i := by have := (List.getElem?_eq_some_iff.1 hj).1; rw [List.length_take] at this; omega
        simp [this]
      · intro j r v _ _
        have : (recs.take i).length = i := by rw [List.length_take]; omega
        simp [this]
    have takeH : ∀ t, SH (recs.take i) 0 (fun _ => true) h0 t = SH recs 0 (fun j => decide (j < i)) h0 t := by
      intro t
      have e : recs = recs.take i ++ recs.drop i := (List.take_append_drop i recs).symm
      conv => rhs; rw [e]
      rw [SH_split, SH_none (rs := recs.drop i)]
      · refine SH_agree (fun j r v hj _ => ?_) rfl
        have : j < i := by have := (List.getElem?_eq_some_iff.1 hj).1; rw [List.length_take] at this; omega
        simp [this]
      · intro j r v _ _
        have : (recs.take i).length = i := by rw [List.length_take]; omega
        simp [this]
    have hagree : Agrees ri (SG (recs.take i) 0 (fun _ => true) g0) (SH (recs.take i) 0 (fun _ => true) h0) (SG recs 0 (fun j => listed.getD j false) g0) (SH recs 0 (fun j => listed.getD j false) h0) := {
      t := fun t ht => by
        rw [takeG]
        refine SG_agree (fun j r v hj hv => ?_) rfl
        simp only [Nat.zero_add]
        by_cases e : j = i
        · subst e; simp [hDi]
        · rcases (pairs j r hj e).2.2 with h | h
          · rw [Bool.eq_iff_iff]; simpa using h
          · have := h.1 t ht; rw [hv] at this; cases this
      o := fun t ht => by
        rw [takeH]
        refine SH_agree (fun j r v hj hv => ?_) rfl
        simp only [Nat.zero_add]
        by_cases e : j = i
        · subst e; simp [hDi]
        · rcases (pairs j r hj e).2.2 with h | h
          · rw [Bool.eq_iff_iff]; simpa using h
          · have := h.2.1 t ht; rw [hv] at this; cases this
      ft := fun d hd t => by
        rcases SG_from recs 0 (fun j => listed.getD j false) g0 (t := t) with h | ⟨j, r, v, h1, h2, h3, h4⟩
        · rw [h]; exact hfg ri (List.mem_of_getElem? hri) d hd t
        · rw [h4]
          simp only [Nat.zero_add] at h2
          have hne : j ≠ i := by intro e; subst e; rw [hDi] at h2; cases h2
          exact freeW_ok ((pairs j r h1 hne).2.1 h2 d hd).1 t v h3
      fo := fun d hd t o ho => by
        rcases SH_from recs 0 (fun j => listed.getD j false) h0 (t := t) with h | ⟨j, r, v, h1, h2, h3, h4⟩
        · rw [h] at ho; exact hfh ri (List.mem_of_getElem? hri) d hd t o ho
        · rw [h4] at ho
          simp only [Nat.zero_add] at h2
          have hne : j ≠ i := by intro e; subst e; rw [hDi] at h2; cases h2
          obtain ⟨k1, k2⟩ := freeWh_ok ((pairs j r h1 hne).2.1 h2 d hd).2 t v h3
          exact ⟨k1, k2 o ho⟩ }
    refine hop i ri hri _ _ hagree L a w H _ fun L' a' w' H' => ?_
    refine ih (listed.setIfInBounds i true) a' w' (by simpa using hsz) ?_ hclosed' ⟨L', ?_⟩
    · rw [Array.toList_setIfInBounds, List.countP_set (by simpa using hil)]
      have hget : listed.toList[i]'(by simpa using hil) = false := by
        rw [Array.getD_eq_getD_getElem?, Array.getElem?_eq_getElem hil] at hDi
        simpa using hDi
      rw [hget, hcount]
      simp
    · have eg : SG recs 0 (fun j => (listed.setIfInBounds i true).getD j false) g0 = ri.g (SG recs 0 (fun j => listed.getD j false) g0) := by
        funext t
        cases hw : lookW t ri.wt with
        | none =>
          have : ri.g (SG recs 0 (fun j => listed.getD j false) g0) t = SG recs 0 (fun j => listed.getD j false) g0 t := by simp [Rc.g, hw]
          rw [this]
          refine SG_agree (fun j r v hj hv => ?_) rfl
          simp only [Nat.zero_add, hset]
          by_cases e : j = i
          · subst e; rw [hri] at hj; cases hj; rw [hw] at hv; cases hv
          · rw [if_neg e]
        | some v =>
          have : ri.g (SG recs 0 (fun j => listed.getD j false) g0) t = v := by simp [Rc.g, hw]
          rw [this]
          have e : recs = recs.take i ++ (ri :: recs.drop (i + 1)) := split_at hri
          have hl : (recs.take i).length = i := by rw [List.length_take]; omega
          rw [e, SG_split, hl]
          simp only [SG, Nat.zero_add, hset, if_true]
          rw [SG_none]
          · simp [Rc.g, hw]
          · intro j r v' hj hv'
            have hj' : recs[i + 1 + j]? = some r := by rw [List.getElem?_drop] at hj; exact hj
            have := (pairs (i + 1 + j) r hj' (by omega)).1 t v' hv'
            rw [hw] at this; cases this
      have eh : SH recs 0 (fun j => (listed.setIfInBounds i true).getD j false) h0 = ri.h (SH recs 0 (fun j => listed.getD j false) h0) := by
        funext t
        cases hw : lookW t ri.wh with
        | none =>
          have : ri.h (SH recs 0 (fun j => listed.getD j false) h0) t = SH recs 0 (fun j => listed.getD j false) h0 t := by simp [Rc.h, hw]
          rw [this]
          refine SH_agree (fun j r v hj hv => ?_) rfl
          simp only [Nat.zero_add, hset]
          by_cases e : j = i
          · subst e; rw [hri] at hj; cases hj; rw [hw] at hv; cases hv
          · rw [if_neg e]
        | some v =>
          have : ri.h (SH recs 0 (fun j => listed.getD j false) h0) t = v := by simp [Rc.h, hw]
          rw [this]
          have e : recs = recs.take i ++ (ri :: recs.drop (i + 1)) := split_at hri
          have hl : (recs.take i).length = i := by rw [List.length_take]; omega
          rw [e, SH_split, hl]
          simp only [SH, Nat.zero_add, hset, if_true]
          rw [SH_none]
          · simp [Rc.h, hw]
          · intro j r v' hj hv'
            have hj' : recs[i + 1 + j]? = some r := by rw [List.getElem?_drop] at hj; exact hj
            rcases (pairs (i + 1 + j) r hj' (by omega)).2.2 with h | h
            · have hnot : ¬ (i + 1 + j < i) := by omega
              rw [if_neg (by omega)]
              cases hb : listed.getD (i + 1 + j) false with
              | false => rfl
              | true => exact absurd (h.1 hb) hnot
            · have := h.2.2 t v' hv'
              rw [hw] at this; cases this
      rw [eg, eh]; exact H'
theorem freeAll_ok {env : Env} {heap : Heap} : ∀ {l : List Nat}, freeAll env heap l = true → ∀ d ∈ l, freeEnv d env = true ∧ freeHeap d heap = true
  | [], _, d, e => by simp at e
  | j :: r, h, d, e => by
    simp only [freeAll, Bool.and_eq_true] at h
    rcases List.mem_cons.1 e with rfl | e
    · exact h.1
    · exact freeAll_ok h.2 d e
theorem freshAll_ok {env : Env} {heap : Heap} : ∀ {l : List Rc}, freshAll env heap l = true → ∀ r ∈ l, ∀ d ∈ r.fr, freeEnv d env = true ∧ freeHeap d heap = true
  | [], _, r, e => by simp at e
  | j :: rs, h, r, e => by
    simp only [freshAll, Bool.and_eq_true] at h
    rcases List.mem_cons.1 e with rfl | e
    · exact freeAll_ok h.1
    · exact freshAll_ok h.2 r e
/-- A statement that draws its order. -/
theorem AWp.draw (hT : TysOk C.P T) (hM : C.P.follows .mixedOrders = true) {Q : Exit → Env → Heap → Prop} {env : Env} {heap : Heap} {id : Nat}
    (h : AOpsD C.P T C.nt ops (fun recs env' heap' => drawOk ops.toList recs.reverse env heap = true ∧ Q .normal env' heap') ops.toList [] env heap) : AWp C (.region id ops true) Q env heap := by
  intro L a w H
  refine wp_region_any hM ?_
  obtain ⟨recs, env', heap', ⟨hok, hq⟩, hlen, e1, e2, hop⟩ := AOpsD_recs hT (Q := fun e a' w' => ∃ L' env' heap', Rel C L' (lk env') (lko heap') a' w' ∧ Q e env' heap') ops.toList 0 [] env heap (fun j o hj => by simpa using hj) h
  simp only [List.append_nil, List.reverse_reverse] at hok
  simp only [drawOk, Bool.and_eq_true] at hok
  obtain ⟨⟨k1, k2⟩, k3⟩ := hok
  have hfr := freshAll_ok k3
  refine draw_any (recs := recs) (g0 := lk env) (h0 := lko heap) (by simpa using hlen) k1 k2 (fun r hr d hd t => freeEnv_look (hfr r hr d hd).1 t) (fun r hr d hd j o ho => freeHeap_look (hfr r hr d hd).2 j o ho)
    (fun i r hr => by have := hop i r hr; rwa [Nat.zero_add] at this) (fun L' a' w' H' => ⟨L', env', heap', by rw [e1, e2]; exact H', hq⟩) ops.size (Array.replicate ops.size false) a _ (by simp) (by simp [List.countP_replicate]) ?_ ⟨L, ?_⟩
  · intro j o _ hD
    have : (Array.replicate ops.size false).getD j false = false := by
      rw [Array.getD_eq_getD_getElem?, Array.getElem?_replicate]
      split <;> rfl
    simp only at hD
    rw [this] at hD; cases hD
  · have hnone : ∀ j, (Array.replicate ops.size false).getD j false = false := by
      intro j
      rw [Array.getD_eq_getD_getElem?, Array.getElem?_replicate]
      split <;> rfl
    have eg : SG recs 0 (fun i => (Array.replicate ops.size false).getD i false) (lk env) = lk env := funext fun t => SG_none fun j r v _ _ => hnone _
    have eh : SH recs 0 (fun i => (Array.replicate ops.size false).getD i false) (lko heap) = lko heap := funext fun t => SH_none fun j r v _ _ => hnone _
    rw [eg, eh]
    exact H.world (n := 0) ⟨rfl, rfl, rfl, Nat.le_refl _, fun _ _ => rfl⟩ (fun _ _ => rfl)
end
end Towline
