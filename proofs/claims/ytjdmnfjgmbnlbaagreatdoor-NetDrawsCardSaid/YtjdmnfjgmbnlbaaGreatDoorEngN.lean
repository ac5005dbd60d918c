/- The engine: a whole function that is lent objects. Over any program. -/
import Derived.Test.YtjdmnfjgmbnlbaaGreatDoorEngL
namespace Towline
open Go Go.RowKit
set_option linter.unusedVariables false
/-- The answers as they are, with the names of the call's objects. -/
def resL (T : Tys) (g : Nat → AVal) (h : Nat → Option AObj) (k : List AVal → Prop) : List ResultVar → Prop
  | [] => k []
  | .tmp t :: r => resL T g h (fun l => k (g t :: l)) r
  | .cell a t :: r => match lookT t T with
    | some d => match aCellsA h (g a) with
      | some (l, none) => match aPart d l with
        | some v => resL T g h (fun l => k (v :: l)) r
        | none => False
      | _ => False
    | none => False
def keysH : Heap → List Nat
  | [] => []
  | (i, _) :: r => i :: keysH r
theorem keysH_ok {i : Nat} : ∀ {hl : Heap}, i ∈ keysH hl ↔ ∃ o, lookO i hl = some o
  | [] => by simp [keysH, lookO]
  | (j, o) :: r => by
    have ih := keysH_ok (i := i) (hl := r)
    rw [keysH, List.mem_cons, ih]
    constructor
    · rintro (rfl | ⟨o', h⟩)
      · exact ⟨o, by rw [lookO_cons, if_pos rfl]⟩
      · by_cases e : i = j
        · exact ⟨o, by rw [lookO_cons, if_pos e]⟩
        · exact ⟨o', by rw [lookO_cons, if_neg e]; exact h⟩
    · rintro ⟨o', h⟩
      rw [lookO_cons] at h
      split at h
      · rename_i e; exact .inl e
      · exact .inr ⟨o', h⟩
def idsOk (nt : Nat) : List Nat → Bool
  | [] => true
  | i :: r => match Nat.ble lentBase i with
    | true => match Nat.ble nt i with
      | true => idsOk nt r
      | false => false
    | false => false
theorem idsOk_ok {nt : Nat} : ∀ {l : List Nat}, idsOk nt l = true → ∀ i, i ∈ l → lentBase ≤ i ∧ nt ≤ i
  | [], _, i, hi => by cases hi
  | j :: r, h, i, hi => by
    rw [idsOk] at h
    cases h1 : Nat.ble lentBase j with
    | false => rw [h1] at h; cases h
    | true =>
      rw [h1] at h
      simp only at h
      cases h2 : Nat.ble nt j with
      | false => rw [h2] at h; cases h
      | true =>
        rw [h2] at h
        rcases List.mem_cons.1 hi with rfl | hi
        · exact ⟨Nat.le_of_ble_eq_true h1, Nat.le_of_ble_eq_true h2⟩
        · exact idsOk_ok h i hi
section
variable {C : Ctx} {T : Tys} {L : Lay} {env : Env} {heap : Heap} {a : Act} {w : World}
theorem resL_ok (hT : TysOk C.P T) (hr : Rel C L (lk env) (lko heap) a w) : ∀ (rs : List ResultVar) (k : List AVal → Prop), resL T (fun t => look t env) (fun i => lookO i heap) k rs →
    ∃ (vs : List Value) (l : List AVal), (rs.mapM (resSem a.tmps)).run C.P w = .ok vs w ∧ k l ∧ vs.length = l.length ∧ ∀ (i : Nat) (x : AVal), l[i]? = some x → RepA w L (good C L (lko heap) w) x (vs.getD i undef)
  | [], k, hk => ⟨[], [], rfl, hk, rfl, fun i x hx => by simp at hx⟩
  | rv :: r, k, hk => by
    have fin : ∀ (x : AVal) (v : Value), RepA w L (good C L (lko heap) w) x v → resL T (fun t => look t env) (fun i => lookO i heap) (fun l => k (x :: l)) r →
        ∀ m : Sem Value, m.run C.P w = .ok v w → ∃ (vs : List Value) (l : List AVal), (do let y ← m; let ys ← r.mapM (resSem a.tmps); Pure.pure (y :: ys)).run C.P w = .ok vs w ∧ k l ∧ vs.length = l.length ∧ ∀ (i : Nat) (x : AVal), l[i]? = some x → RepA w L (good C L (lko heap) w) x (vs.getD i undef) := by
      intro x v hv hk m hm
      obtain ⟨vs, l, e1, e2, e4, e5⟩ := resL_ok hT hr r _ hk
      refine ⟨v :: vs, x :: l, by simp [hm, e1], e2, by simp [e4], fun i z hz => ?_⟩
      cases i with
      | zero => simp only [List.getElem?_cons_zero, Option.some.injEq] at hz; subst hz; exact hv
      | succ i => simp only [List.getElem?_cons_succ] at hz; simpa using e5 i z hz
    cases rv with
    | tmp t =>
      simp only [resL] at hk
      obtain ⟨vs, l, h⟩ := fin _ _ (hr.slot t) hk (resSem a.tmps (.tmp t)) rfl
      exact ⟨vs, l, by rw [List.mapM_cons]; exact h.1, h.2⟩
    | cell b t =>
      simp only [resL] at hk
      cases ht : lookT t T with
      | none => rw [ht] at hk; exact hk.elim
      | some d =>
        rw [ht] at hk
        simp only at hk
        cases hc : aCellsA (fun i => lookO i heap) (look b env) with
        | none => rw [hc] at hk; exact hk.elim
        | some lc =>
          obtain ⟨cl, c⟩ := lc
          rw [hc] at hk
          cases c with
          | some c => exact hk.elim
          | none =>
            simp only at hk
            cases hp : aPart d cl with
            | none => rw [hp] at hk; exact hk.elim
            | some x =>
              rw [hp] at hk
              simp only at hk
              obtain ⟨bb, off, hv', hl⟩ := aCellsA_ok hr.holds (hr.slot b) hc (fun q hq => by cases hq)
              obtain ⟨u, h1, h2⟩ := loadAt_ok (P := C.P) hT ht hp hl
              have h1' : (loadVar t ⟨bb, off, none⟩).run C.P w = .ok u w := by simpa [Instr.loadAt, Instr.sureAddr] using h1
              obtain ⟨vs, l, h⟩ := fin _ _ h2 hk (resSem a.tmps (.cell b t)) (by simp [resSem, hv', asAddr, h1'])
              exact ⟨vs, l, by rw [List.mapM_cons]; exact h.1, h.2⟩
end
/-- The answer and the objects at the end may be said in other words; objects that nobody asks for are left out. -/
def finL (heap : Heap) (post : AVal → Heap → Prop) (r : AVal) : Prop := ∃ r' hl', r.le r' ∧ CovH heap hl' ∧ post r' hl'
/-- A whole function that is lent objects, however it is run. -/
theorem LSpec.introW {P : Program} {T : Tys} {f : FuncId} {fn : Func} {c : Code} {args : List AVal} {hl : Heap} {post : AVal → Heap → Prop} (hT : TysOk P T) (hM : P.follows .mixedOrders = true) (hf : P.funcs[f]? = some fn) (hname : (fn.name == "runtime.NumGoroutine") = false) (hb : fn.body = some c) {nt : Nat} (hn : fn.ntmps = nt) (ha : args.length ≤ nt)
    (hid : idsOk nt (keysH hl) = true) {rs : List ResultVar} (hrs : fn.results.toList = rs)
    (h : ∀ w0 R0 Lo hG, AWp ⟨P, nt, w0, R0, keysH hl, Lo, hG⟩ c (fun e env heap => match e with | .normal => resL T (fun t => look t env) (fun i => lookO i heap) (postL (finL heap post)) rs | .ret => resL T (fun t => look t env) (fun i => lookO i heap) (postL (finL heap post)) rs | _ => False) (argEnv 0 args) hl) :
    LSpec P f args hl post := by
  refine ⟨⟨fn, c, hf, hname, hb⟩, fun w R L vs hgw hR hz hold hargs hobj hinj hown => ?_⟩
  have hG : GoodC w R (keysH hl) L := ⟨hgw, fun n k l e ⟨i, h1, h2⟩ => by
    obtain ⟨o, h3⟩ := keysH_ok.1 h1
    exact (hown i o n h3 h2).2 (hgw n k l e).1⟩
  have hlent : ∀ b, Ctx.lent ⟨P, nt, w, R, keysH hl, L, hG⟩ b ↔ owned L (lko hl) b := fun b => by
    constructor
    · rintro ⟨i, h1, h2⟩
      obtain ⟨o, h3⟩ := keysH_ok.1 h1
      exact ⟨i, o, h3, h2⟩
    · rintro ⟨i, o, h1, h2⟩
      exact ⟨i, keysH_ok.2 ⟨o, h1⟩, h2⟩
  have hgood : ∀ b, b < w.heap.size → R b → good ⟨P, nt, w, R, keysH hl, L, hG⟩ L (lko hl) w b ∧ w.heap[b]? = w.heap[b]? := fun b hlt hb => ⟨⟨hlt, .inl hb, fun ⟨i, o, h1, h2⟩ => (hown i o b h1 h2).2 hb⟩, rfl⟩
  have hrel : Rel ⟨P, nt, w, R, keysH hl, L, hG⟩ L (lk (argEnv 0 args)) (lko hl) { tmps := vs ++ Array.replicate (fn.ntmps - vs.size) undef, defers := [] } w := {
    below := BelowL.refl _ _
    top := fun b => (hold b).trans (and_congr_right fun _ => not_congr (hlent b).symm)
    size := by simp [hn, hz]; omega
    defers := rfl
    slot := fun t => by
      show RepA _ _ _ (look t _) _
      rw [look_argEnv]
      split
      · rename_i hlt
        have hlt' : t < args.length := by omega
        have := hargs t args[t] (List.getElem?_eq_getElem hlt')
        simp only [Nat.sub_zero, List.getD_eq_getElem?_getD, List.getElem?_eq_getElem hlt', Option.getD_some]
        have e : (vs ++ Array.replicate (fn.ntmps - vs.size) undef).getD t undef = vs.getD t undef := by
          simp only [Array.getD_eq_getD_getElem?]
          rw [Array.getElem?_append_left (by omega)]
        rw [e]
        exact this.mono1 (Nat.le_refl _) hgood (fun _ _ => rfl)
      · exact .any
    obj := fun id o h => (hobj id o h).mono (Nat.le_refl _) hgood (fun _ _ => rfl) (fun b _ hb => ⟨hb, rfl⟩) (fun _ => true) (fun _ _ => ⟨rfl, rfl⟩) rfl (fun _ h => by cases h)
    inj := hinj
    own0 := fun id o b h1 h2 => ⟨.inr ((hlent b).2 ⟨id, o, h1, h2⟩), (hown id o b h1 h2).1⟩
    kept := fun id o _ _ => ⟨rfl, rfl⟩
    lidn := fun i hi => idsOk_ok hid i hi }
  refine calls_of_wp hf hb (wp_mono (h w R L hG _ _ w hrel) fun e a' w' ⟨L', env', heap', h1, h2⟩ => ?_)
  have fin : resL T (fun t => look t env') (fun i => lookO i heap') (postL (finL heap' post)) rs → a'.defers = [] ∧ ∃ v, (results fn a'.tmps).run P w' = .ok v w' ∧ ∃ v' r hl' L', Ending.returned v = .returned v' ∧ post r hl' ∧ LPost w w' R L hl L' hl' ∧ RepA w' L' (lgood w w' R L hl L' hl') r v' := by
    intro h2
    obtain ⟨us, l, e1, e2, e4, e5⟩ := resL_ok (C := ⟨P, nt, w, R, keysH hl, L, hG⟩) hT h1 rs _ h2
    refine ⟨h1.defers, (if h : us.toArray.size = 1 then us.toArray[0] else .tuple us.toArray), ?_, ?_⟩
    · rw [results_eq, Array.mapM_eq_mapM_toList, hrs]
      simp only [Sem.run_bind, Sem.run_map, e1, Result.andThen_ok, Sem.run_pure]
    · have done : ∀ (r : AVal) (v : Value), finL heap' post r → RepA w' L' (good ⟨P, nt, w, R, keysH hl, L, hG⟩ L' (lko heap') w') r v → ∃ v' r hl' L', Ending.returned v = .returned v' ∧ post r hl' ∧ LPost w w' R L hl L' hl' ∧ RepA w' L' (lgood w w' R L hl L' hl') r v' := by
        rintro r v ⟨r', hl', k1, k2, k3⟩ hv
        have hcov := CovH_ok k2
        have hw : Rel ⟨P, nt, w, R, keysH hl, L, hG⟩ L' (lk env') (lko hl') a' w' := h1.weaken ⟨fun t => .refl _, hcov⟩
        have hlg : ∀ b, good ⟨P, nt, w, R, keysH hl, L, hG⟩ L' (lko hl') w' b → lgood w w' R L hl L' hl' b := fun b hb => ⟨hb.1, hb.2.1.imp id (fun h => h.imp id (hlent b).1), hb.2.2⟩
        refine ⟨v, r', hl', L', rfl, k3, ⟨?_, fun id o ho => ?_, hw.inj, fun id o b h3 h4 => ?_, fun id o o' h3 h4 => hw.kept id o' (keysH_ok.2 ⟨o, h3⟩) h4⟩, ?_⟩
        · exact ⟨h1.below.os, h1.below.tape, h1.below.output, h1.below.size, fun k hk hnl => h1.below.block k hk fun hl => hnl ((hlent k).1 hl)⟩
        · exact (hw.obj id o ho).mono (Nat.le_refl _) (fun b _ hb => ⟨hlg b hb, rfl⟩) (fun _ _ => rfl) (fun b _ hb => ⟨hb, rfl⟩) (fun _ => true) (fun _ _ => ⟨rfl, rfl⟩) rfl (fun _ h => by cases h)
        · obtain ⟨q1, q2⟩ := hw.own0 id o b h3 h4
          exact ⟨q1.imp (fun h => h) (hlent b).1, q2⟩
        · refine (k1.out _ _ _ _ hv).mono1 (Nat.le_refl _) (fun b _ hb => ⟨hlg b ⟨hb.1, hb.2.1, fun ⟨i, o, q1, q2⟩ => ?_⟩, rfl⟩) (fun _ _ => rfl)
          obtain ⟨o', q3, _⟩ := hcov i o q1
          exact hb.2.2 ⟨i, o', q3, q2⟩
      have tup : finL heap' post (.tup l) → us.toArray.size ≠ 1 → ∃ v' r hl' L', Ending.returned (if h : us.toArray.size = 1 then us.toArray[0] else .tuple us.toArray) = .returned v' ∧ post r hl' ∧ LPost w w' R L hl L' hl' ∧ RepA w' L' (lgood w w' R L hl L' hl') r v' := by
        intro hp hne
        rw [dif_neg hne]
        refine done _ _ hp (.tup (by simpa using e4) fun i x hx => ?_)
        have := e5 i x hx
        simpa [Array.getD_eq_getD_getElem?, List.getD_eq_getElem?_getD] using this
      cases l with
      | nil => exact tup e2 (by simp [List.length_eq_zero_iff.1 e4])
      | cons x r =>
        cases r with
        | cons y r => exact tup e2 (by simp [e4])
        | nil =>
          obtain ⟨u, rfl⟩ := List.length_eq_one_iff.1 e4
          have hx := e5 0 x rfl
          obtain ⟨v', r, hl', L'', q1, q2⟩ := done x u e2 hx
          exact ⟨v', r, hl', L'', by simpa using q1, q2⟩
  cases e with
  | normal => exact fin h2
  | ret => exact fin h2
  | _ => exact h2.elim
/-- A whole function that is lent objects. -/
theorem LSpec.run {P : Program} {T : Tys} {f : FuncId} {fn : Func} {c : Code} {args : List AVal} {hl : Heap} {post : AVal → Heap → Prop} (hT : TysOk P T) (hM : P.follows .mixedOrders = true) (hf : P.funcs[f]? = some fn) (hname : (fn.name == "runtime.NumGoroutine") = false) (hb : fn.body = some c) {nt : Nat} (hn : fn.ntmps = nt) (ha : args.length ≤ nt)
    (hid : idsOk nt (keysH hl) = true) {rs : List ResultVar} (hrs : fn.results.toList = rs)
    (h : ∀ w0 R0 Lo hG, ARun ⟨P, nt, w0, R0, keysH hl, Lo, hG⟩ T c (fun e env heap => match e with | .normal => resL T (fun t => look t env) (fun i => lookO i heap) (postL (finL heap post)) rs | .ret => resL T (fun t => look t env) (fun i => lookO i heap) (postL (finL heap post)) rs | _ => False) (argEnv 0 args) hl) :
    LSpec P f args hl post :=
  LSpec.introW hT hM hf hname hb hn ha hid hrs fun w0 R0 Lo hG => ARun_ok (C := ⟨P, nt, w0, R0, keysH hl, Lo, hG⟩) hT hM (h w0 R0 Lo hG)
/-- A contract of a function that was walked by hand. -/
theorem LSpec.raw {P : Program} {f : FuncId} {args : List AVal} {hl : Heap} {post : AVal → Heap → Prop} (hf : ∃ fn c, P.funcs[f]? = some fn ∧ (fn.name == "runtime.NumGoroutine") = false ∧ fn.body = some c) (hid : idsOk 0 (keysH hl) = true)
    (h : ∀ (C : Ctx) (L : Lay) (w : World) (vs : Array Value), C.w0 = w → C.nt = 0 → Rel C L (fun _ => .any) (lko hl) ⟨#[], []⟩ w → vs.size = args.length → (∀ i x, args[i]? = some x → RepA w L (good C L (lko hl) w) x (vs.getD i undef)) →
      Calls P f vs w fun e w' => ∃ v r hl' L', e = .returned v ∧ post r hl' ∧ Rel C L' (fun _ => .any) (lko hl') ⟨#[], []⟩ w' ∧ RepA w' L' (good C L' (lko hl') w') r v) : LSpec P f args hl post := by
  refine ⟨hf, fun w R L vs hgw hR hz hold hargs hobj hinj hown => ?_⟩
  have hG : GoodC w R (keysH hl) L := ⟨hgw, fun n k l e ⟨i, h1, h2⟩ => by
    obtain ⟨o, h3⟩ := keysH_ok.1 h1
    exact (hown i o n h3 h2).2 (hgw n k l e).1⟩
  have hlent : ∀ b, Ctx.lent ⟨P, 0, w, R, keysH hl, L, hG⟩ b ↔ owned L (lko hl) b := fun b => by
    constructor
    · rintro ⟨i, h1, h2⟩
      obtain ⟨o, h3⟩ := keysH_ok.1 h1
      exact ⟨i, o, h3, h2⟩
    · rintro ⟨i, o, h1, h2⟩
      exact ⟨i, keysH_ok.2 ⟨o, h1⟩, h2⟩
  have hgood : ∀ b, b < w.heap.size → R b → good ⟨P, 0, w, R, keysH hl, L, hG⟩ L (lko hl) w b ∧ w.heap[b]? = w.heap[b]? := fun b hlt hb => ⟨⟨hlt, .inl hb, fun ⟨i, o, h1, h2⟩ => (hown i o b h1 h2).2 hb⟩, rfl⟩
  have hrel : Rel ⟨P, 0, w, R, keysH hl, L, hG⟩ L (fun _ => .any) (lko hl) ⟨#[], []⟩ w := {
    below := BelowL.refl _ _
    top := fun b => (hold b).trans (and_congr_right fun _ => not_congr (hlent b).symm)
    size := rfl
    defers := rfl
    slot := fun t => .any
    obj := fun id o h => (hobj id o h).mono (Nat.le_refl _) hgood (fun _ _ => rfl) (fun b _ hb => ⟨hb, rfl⟩) (fun _ => true) (fun _ _ => ⟨rfl, rfl⟩) rfl (fun _ h => by cases h)
    inj := hinj
    own0 := fun id o b h1 h2 => ⟨.inr ((hlent b).2 ⟨id, o, h1, h2⟩), (hown id o b h1 h2).1⟩
    kept := fun id o _ _ => ⟨rfl, rfl⟩
    lidn := fun i hi => idsOk_ok hid i hi }
  refine (h ⟨P, 0, w, R, keysH hl, L, hG⟩ L w vs rfl rfl hrel hz fun i x hx => (hargs i x hx).mono1 (Nat.le_refl _) hgood (fun _ _ => rfl)).mono ?_
  rintro e w' ⟨v, r, hl', L', rfl, hp, hw, hr⟩
  have hlg : ∀ b, good ⟨P, 0, w, R, keysH hl, L, hG⟩ L' (lko hl') w' b → lgood w w' R L hl L' hl' b := fun b hb => ⟨hb.1, hb.2.1.imp id (fun h => h.imp id (hlent b).1), hb.2.2⟩
  refine ⟨v, r, hl', L', rfl, hp, ⟨⟨hw.below.os, hw.below.tape, hw.below.output, hw.below.size, fun k hk hnl => hw.below.block k hk fun hl => hnl ((hlent k).1 hl)⟩, fun id o ho => ?_, hw.inj, fun id o b h3 h4 => ?_, fun id o o' h3 h4 => hw.kept id o' (keysH_ok.2 ⟨o, h3⟩) h4⟩, ?_⟩
  · exact (hw.obj id o ho).mono (Nat.le_refl _) (fun b _ hb => ⟨hlg b hb, rfl⟩) (fun _ _ => rfl) (fun b _ hb => ⟨hb, rfl⟩) (fun _ => true) (fun _ _ => ⟨rfl, rfl⟩) rfl (fun _ h => by cases h)
  · obtain ⟨q1, q2⟩ := hw.own0 id o b h3 h4
    exact ⟨q1.imp (fun h => h) (hlent b).1, q2⟩
  · exact hr.mono1 (Nat.le_refl _) (fun b _ hb => ⟨hlg b hb, rfl⟩) (fun _ _ => rfl)
/-- An object is given up, and its block turned. -/
theorem Rel.gone {C : Ctx} {L : Lay} {g : Nat → AVal} {h : Nat → Option AObj} {a : Act} {w w' : World} (H : Rel C L g h a w) {id : Nat} {o0 : AObj} (hid : h id = some o0) (hos : w'.os = w.os) (htp : w'.tape = w.tape) (hout : w'.output = w.output) (hsz : w.heap.size ≤ w'.heap.size)
    (hw : ∀ b, b < w.heap.size → L.blk id ≠ some b → w'.heap[b]? = w.heap[b]?) : Rel C L g (fun j => if j = id then none else h j) a w' := by
  have hsome : ∀ {j oj}, (if j = id then none else h j) = some oj → h j = some oj ∧ j ≠ id := by
    intro j oj e
    split at e
    · cases e
    · rename_i hne; exact ⟨e, hne⟩
  have hg : Stays w w' (good C L h w) (good C L (fun j => if j = id then none else h j) w') := by
    intro b hlt hgb
    refine ⟨⟨Nat.lt_of_lt_of_le hlt hsz, hgb.2.1, fun ⟨i, oi, h1, h2⟩ => hgb.2.2 ⟨i, oi, (hsome h1).1, h2⟩⟩, hw b hlt fun e => hgb.2.2 ⟨id, o0, hid, e⟩⟩
  have ht : ∀ b, L.old b → w'.heap[b]? = w.heap[b]? := fun b hb => hw b (H.old_lt hb) (H.old_own hb hid)
  exact {
    below := H.below.next hos htp hout hsz fun k hk hnl => hw k (Nat.lt_of_lt_of_le hk H.below.size) fun e => by
      rcases (H.own0 id o0 k hid e).1 with h1 | h1
      · omega
      · exact hnl h1
    top := H.top
    size := H.size
    defers := H.defers
    slot := fun t => (H.slot t).mono1 hsz hg ht
    obj := fun j oj hj => by
      obtain ⟨h1, h2⟩ := hsome hj
      exact (H.obj j oj h1).mono hsz hg (fun b hb => hw b (H.own0 j oj b h1 hb).2 fun e => h2 (H.inj j id oj o0 b h1 hid hb e)) (fun b _ hb => ⟨hb, ht b hb⟩) (fun _ => true) (fun _ _ => ⟨rfl, rfl⟩) rfl (fun _ h => by cases h)
    inj := fun i j oi oj b h1 h2 => H.inj i j oi oj b (hsome h1).1 (hsome h2).1
    own0 := fun i o b h1 h2 => by
      obtain ⟨q1, q2⟩ := H.own0 i o b (hsome h1).1 h2
      exact ⟨q1, Nat.lt_of_lt_of_le q2 hsz⟩
    kept := fun i o hl h1 => H.kept i o hl (hsome h1).1
    lidn := H.lidn }
end Towline
