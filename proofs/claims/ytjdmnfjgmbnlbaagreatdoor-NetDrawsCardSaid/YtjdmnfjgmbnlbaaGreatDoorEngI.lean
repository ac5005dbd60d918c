/- The engine, part nine: loops, and whole functions. Over any program. -/
import Derived.Test.YtjdmnfjgmbnlbaaGreatDoorEngH2
namespace Towline
open Go Go.RowKit
set_option linter.unusedVariables false

theorem least_of {p : Nat → Prop} (h : ∃ n, p n) : ∃ n, p n ∧ ∀ m, p m → n ≤ m := by
  obtain ⟨n, hn⟩ := h
  induction n using Nat.strongRecOn with
  | _ n ih =>
    by_cases hlt : ∃ m, m < n ∧ p m
    · obtain ⟨m, h1, h2⟩ := hlt
      exact ih m h1 h2
    · exact ⟨n, hn, fun m hm => by
        rcases Nat.lt_or_ge m n with h1 | h1
        · exact (hlt ⟨m, h1, hm⟩).elim
        · exact h1⟩
section
variable {C : Ctx} {T : Tys} {L : Lay} {env : Env} {heap : Heap} {a : Act} {w : World} {Q : Exit → Env → Heap → Prop}
/-- A loop: what holds at its head is given by x; a round lowers the measure. -/
theorem AWp.loop {X : Type} {c : Code} (E : X → Env) (H : X → Heap) (μ : X → Nat) (x0 : X) (h0 : Covers env heap (E x0) (H x0))
    (round : ∀ x, AWp C c (fun e env' heap' => match e with | .normal => ∃ x', μ x' < μ x ∧ Covers env' heap' (E x') (H x') | e => Q e env' heap') (E x) (H x)) : AWp C (.loop c) Q env heap := by
  intro L a w hr
  let I : Nat → Act → World → Prop := fun n a w => ∃ x L, μ x = n ∧ Rel C L (lk (E x)) (lko (H x)) a w
  let M : Act → World → Nat := fun a w => Classical.epsilon fun n => I n a w ∧ ∀ m, I m a w → n ≤ m
  have hM : ∀ a w, (∃ n, I n a w) → I (M a w) a w ∧ ∀ m, I m a w → M a w ≤ m := fun a w h => Classical.epsilon_spec (p := fun n => I n a w ∧ ∀ m, I m a w → n ≤ m) (least_of h)
  refine wp_loop (fun a w => ∃ n, I n a w) M ⟨_, x0, L, rfl, hr.weaken h0⟩ fun a w hI => ?_
  obtain ⟨⟨x, L, hx, hrel⟩, hmin⟩ := hM a w hI
  refine wp_mono (round x L a w hrel) fun e a' w' ⟨L', env', heap', h1, h2⟩ => ?_
  cases e with
  | normal =>
    obtain ⟨x', hlt, hcov⟩ := h2
    have hI' : I (μ x') a' w' := ⟨x', L', rfl, h1.weaken hcov⟩
    refine ⟨⟨_, hI'⟩, ?_⟩
    have := (hM a' w' ⟨_, hI'⟩).2 _ hI'
    omega
  | _ => exact ⟨L', env', heap', h1, h2⟩
end
def resK (T : Tys) (g : Nat → AVal) (h : Nat → Option AObj) (k : List AVal → Prop) : List ResultVar → Prop
  | [] => k []
  | .tmp t :: r => viewK h (fun v => resK T g h (fun l => k (v :: l)) r) (g t)
  | .cell a t :: r => match lookT t T with
    | some d => match aCellsA h (g a) with
      | some (l, none) => match aPart d l with
        | some v => viewK h (fun v => resK T g h (fun l => k (v :: l)) r) v
        | none => False
      | _ => False
    | none => False
def postL (post : AVal → Prop) : List AVal → Prop
  | [x] => post x
  | l => post (.tup l)
def argEnv : Nat → List AVal → Env
  | _, [] => []
  | n, x :: r => (n, x) :: argEnv (n + 1) r
theorem look_argEnv : ∀ (l : List AVal) (n t : Nat), look t (argEnv n l) = if n ≤ t ∧ t < n + l.length then l.getD (t - n) .any else .any
  | [], n, t => by rw [if_neg (by simp)]; rfl
  | x :: r, n, t => by
    show look t ((n, x) :: argEnv (n + 1) r) = _
    rw [look_cons, look_argEnv r (n + 1) t]
    by_cases h : t = n
    · subst h; simp
    · rw [if_neg h]
      by_cases h2 : n + 1 ≤ t ∧ t < n + 1 + r.length
      · rw [if_pos h2, if_pos (by simp; omega), show t - n = (t - (n + 1)) + 1 from by omega]; rfl
      · rw [if_neg h2, if_neg (by simp; omega)]
section
variable {C : Ctx} {T : Tys} {L : Lay} {env : Env} {heap : Heap} {a : Act} {w : World}
def resSem (tmps : Array Value) : ResultVar → Sem Value
  | .tmp t => Pure.pure (tmps.getD t undef)
  | .cell a t => do loadVar t (← asAddr (tmps.getD a undef))
theorem results_eq (fn : Func) (tmps : Array Value) : results fn tmps = (do let vs ← fn.results.mapM (resSem tmps); Pure.pure (if h : vs.size = 1 then vs[0] else .tuple vs)) := rfl
def bare (C : Ctx) (w : World) (b : Nat) : Prop := b < w.heap.size ∧ (C.R0 b ∨ C.w0.heap.size ≤ b ∨ C.lent b)
theorem resK_ok (hT : TysOk C.P T) (hr : Rel C L (lk env) (lko heap) a w) : ∀ (rs : List ResultVar) (k : List AVal → Prop), resK T (fun t => look t env) (fun i => lookO i heap) k rs →
    ∃ (vs : List Value) (l : List AVal), (rs.mapM (resSem a.tmps)).run C.P w = .ok vs w ∧ k l ∧ AVal.dataL l = true ∧ vs.length = l.length ∧ ∀ (i : Nat) (x : AVal), l[i]? = some x → RepA w (L0 C.w0.heap.size) (bare C w) x (vs.getD i undef)
  | [], k, hk => ⟨[], [], rfl, hk, rfl, rfl, fun i x hx => by simp at hx⟩
  | rv :: r, k, hk => by
    have hown : ∀ id o b, lko heap id = some o → L.blk id = some b → bare C w b ∧ b < w.heap.size := fun id o b h1 h2 => ⟨⟨(hr.own0 id o b h1 h2).2, .inr (hr.own0 id o b h1 h2).1⟩, (hr.own0 id o b h1 h2).2⟩
    have fin : ∀ (x : AVal) (v : Value), RepA w L (good C L (lko heap) w) x v → viewK (fun i => lookO i heap) (fun v => resK T (fun t => look t env) (fun i => lookO i heap) (fun l => k (v :: l)) r) x →
        ∀ m : Sem Value, m.run C.P w = .ok v w → ∃ (vs : List Value) (l : List AVal), (do let y ← m; let ys ← r.mapM (resSem a.tmps); Pure.pure (y :: ys)).run C.P w = .ok vs w ∧ k l ∧ AVal.dataL l = true ∧ vs.length = l.length ∧ ∀ (i : Nat) (x : AVal), l[i]? = some x → RepA w (L0 C.w0.heap.size) (bare C w) x (vs.getD i undef) := by
      intro x v hv hk m hm
      obtain ⟨y, h1, h2, h3⟩ := viewK_ok (L0 C.w0.heap.size) hr.obj (fun b hb => ⟨hb.1, hb.2.1⟩) hown x _ v hk hv
      obtain ⟨vs, l, e1, e2, e3, e4, e5⟩ := resK_ok hT hr r _ h1
      refine ⟨v :: vs, y :: l, by simp [hm, e1], e2, by simp [AVal.dataL, h2, e3], by simp [e4], fun i z hz => ?_⟩
      cases i with
      | zero => simp only [List.getElem?_cons_zero, Option.some.injEq] at hz; subst hz; exact h3
      | succ i => simp only [List.getElem?_cons_succ] at hz; simpa using e5 i z hz
    cases rv with
    | tmp t =>
      simp only [resK] at hk
      obtain ⟨vs, l, h⟩ := fin _ _ (hr.slot t) hk (resSem a.tmps (.tmp t)) rfl
      exact ⟨vs, l, by rw [List.mapM_cons]; exact h.1, h.2⟩
    | cell b t =>
      simp only [resK] at hk
      cases ht : lookT t T with
      | none => rw [ht] at hk; exact hk.elim
      | some d =>
        rw [ht] at hk
        simp only at hk
        cases hc : aCellsA (fun i => lookO i heap) (look b env) with
        | none => rw [hc] at hk; exact hk.elim
        | some lc =>
          obtain ⟨cl, c⟩ := lc
          rw [hc] at hk
          cases c with
          | some c => exact hk.elim
          | none =>
            simp only at hk
            cases hp : aPart d cl with
            | none => rw [hp] at hk; exact hk.elim
            | some x =>
              rw [hp] at hk
              simp only at hk
              obtain ⟨bb, off, hv', hl⟩ := aCellsA_ok hr.holds (hr.slot b) hc (fun q hq => by cases hq)
              obtain ⟨u, h1, h2⟩ := loadAt_ok (P := C.P) hT ht hp hl
              have h1' : (loadVar t ⟨bb, off, none⟩).run C.P w = .ok u w := by simpa [Instr.loadAt, Instr.sureAddr] using h1
              obtain ⟨vs, l, h⟩ := fin _ _ h2 hk (resSem a.tmps (.cell b t)) (by simp [resSem, hv', asAddr, h1'])
              exact ⟨vs, l, by rw [List.mapM_cons]; exact h.1, h.2⟩
end
theorem no_lent {P : Program} {nt : Nat} {w : World} {R : Nat → Prop} {L : Lay} {hG : GoodC w R [] L} (b : Nat) : ¬ Ctx.lent ⟨P, nt, w, R, [], L, hG⟩ b := fun ⟨i, h, _⟩ => by cases h
/-- A whole function. -/
theorem PSpec.intro {P : Program} {T : Tys} {f : FuncId} {fn : Func} {c : Code} {args : List AVal} {post : AVal → Prop} (hT : TysOk P T) (hf : P.funcs[f]? = some fn) (hname : (fn.name == "runtime.NumGoroutine") = false) (hb : fn.body = some c) {nt : Nat} (hn : fn.ntmps = nt) (ha : args.length ≤ nt)
    {rs : List ResultVar} (hrs : fn.results.toList = rs) (h : ∀ w0 R0 hG, AWp ⟨P, nt, w0, R0, [], L0 0, hG⟩ c (fun e env heap => match e with | .normal => resK T (fun t => look t env) (fun i => lookO i heap) (postL post) rs | .ret => resK T (fun t => look t env) (fun i => lookO i heap) (postL post) rs | _ => False) (argEnv 0 args) []) :
    PSpec P f args (fun r => post r ∧ r.data = true) := by
  refine ⟨⟨fn, c, hf, hname, hb⟩, fun w R vs hG hR hz hargs => ?_⟩
  have hG := GoodC.nil (Lo := L0 0) hG
  have hrel : Rel ⟨P, nt, w, R, [], L0 0, hG⟩ (L0 w.heap.size) (lk (argEnv 0 args)) (lko []) { tmps := vs ++ Array.replicate (fn.ntmps - vs.size) undef, defers := [] } w := {
    below := BelowL.refl _ _
    top := fun b => ⟨fun h => ⟨h, no_lent b⟩, fun h => h.1⟩
    size := by simp [hn, hz]; omega
    defers := rfl
    slot := fun t => by
      show RepA _ _ _ (look t _) _
      rw [look_argEnv]
      split
      · rename_i hlt
        have hlt' : t < args.length := by omega
        have := hargs t args[t] (List.getElem?_eq_getElem hlt')
        simp only [Nat.sub_zero, List.getD_eq_getElem?_getD, List.getElem?_eq_getElem hlt', Option.getD_some]
        have e : (vs ++ Array.replicate (fn.ntmps - vs.size) undef).getD t undef = vs.getD t undef := by
          simp only [Array.getD_eq_getD_getElem?]
          rw [Array.getElem?_append_left (by omega)]
        rw [e]
        exact this.mono1 (Nat.le_refl _) (fun b hlt hb => ⟨⟨hlt, .inl hb, fun ⟨id, o, h1, _⟩ => by simp [lookO] at h1⟩, rfl⟩) (fun _ _ => rfl)
      · exact .any
    obj := fun id o h => by simp [lookO] at h
    inj := fun i j oi oj b h => by simp [lookO] at h
    own0 := fun id o b h => by simp [lookO] at h
    kept := fun id o h => by cases h
    lidn := fun i h => by cases h }
  refine calls_of_wp hf hb (wp_mono (h w R hG _ _ w hrel) fun e a' w' ⟨L', env', heap', h1, h2⟩ => ?_)
  have fin : resK T (fun t => look t env') (fun i => lookO i heap') (postL post) rs → a'.defers = [] ∧ ∃ v, (results fn a'.tmps).run P w' = .ok v w' ∧ ∃ v' r, Ending.returned v = .returned v' ∧ (post r ∧ r.data = true) ∧ Below w.heap.size w w' ∧ RepR w w' R r v' := by
    intro h2
    obtain ⟨us, l, e1, e2, e3, e4, e5⟩ := resK_ok (C := ⟨P, nt, w, R, [], L0 0, hG⟩) hT h1 rs _ h2
    refine ⟨h1.defers, (if h : us.toArray.size = 1 then us.toArray[0] else .tuple us.toArray), ?_, ?_⟩
    · rw [results_eq, Array.mapM_eq_mapM_toList, hrs]
      simp only [Sem.run_bind, Sem.run_map, e1, Result.andThen_ok, Sem.run_pure]
    · have hw : ∀ b, bare ⟨P, nt, w, R, [], L0 0, hG⟩ w' b → R b ∨ (w.heap.size ≤ b ∧ b < w'.heap.size) := fun b hb => hb.2.imp id fun h => ⟨h.resolve_right (no_lent b), hb.1⟩
      have hd := AVal.dataL_get e3
      have e5' : ∀ (i : Nat) (x : AVal), l[i]? = some x → RepA w' (L0 w.heap.size) (fun b => R b ∨ (w.heap.size ≤ b ∧ b < w'.heap.size)) x (us.getD i undef) := fun i x hx => (e5 i x hx).data (Nat.le_refl _) (hd i x hx) fun b _ hb => ⟨hw b hb, rfl⟩
      have tup : post (.tup l) → us.toArray.size ≠ 1 → ∃ v' r, Ending.returned (if h : us.toArray.size = 1 then us.toArray[0] else .tuple us.toArray) = .returned v' ∧ (post r ∧ r.data = true) ∧ Below w.heap.size w w' ∧ RepR w w' R r v' := by
        intro hp hne
        refine ⟨.tuple us.toArray, .tup l, by rw [dif_neg hne], ⟨hp, by simpa [AVal.data] using e3⟩, h1.below.plain no_lent, by simpa [AVal.data] using e3, .tup (by simpa using e4) fun i x hx => ?_⟩
        have := e5' i x hx
        simpa [Array.getD_eq_getD_getElem?, List.getD_eq_getElem?_getD] using this
      cases l with
      | nil => exact tup e2 (by simp at e4; simp [e4])
      | cons x r =>
        cases r with
        | cons y r => exact tup e2 (by simp at e4; simp [e4])
        | nil =>
          have hl : us.length = 1 := by simpa using e4
          obtain ⟨u, rfl⟩ := List.length_eq_one_iff.1 hl
          have := e5' 0 x rfl
          have hdx := hd 0 x rfl
          refine ⟨u, x, by simp, ⟨e2, hdx⟩, h1.below.plain no_lent, ?_⟩
          cases x with
          | fresh => cases hdx
          | _ => exact ⟨hdx, by simpa using this⟩
  cases e with
  | normal => exact fin h2
  | ret => exact fin h2
  | _ => exact h2.elim
/-- What a function answers that hands out a row of its own. -/
def resF (env : Env) (heap : Heap) (post : AVal → Prop) (t : Nat) : Prop :=
  match look t env with
  | .rsl id sz o n => match o with
    | 0 => match lookO id heap with
      | some (.row ty sz' n' f) => match Nat.blt ty markT with
        | true => sz = sz' ∧ n = n' ∧ ∃ m f', n' = m ∧ (∀ k, k < m → f k = f' k) ∧ post (.fresh ty sz m f')
        | false => False
      | _ => False
    | _ => False
  | .d (.v (.slice none 0 0)) => ∃ ty sz f', post (.fresh ty sz 0 f')
  | _ => False
theorem PSpec.introF {P : Program} {T : Tys} {f : FuncId} {fn : Func} {c : Code} {args : List AVal} {post : AVal → Prop} (hT : TysOk P T) (hf : P.funcs[f]? = some fn) (hname : (fn.name == "runtime.NumGoroutine") = false) (hb : fn.body = some c) {nt : Nat} (hn : fn.ntmps = nt) (ha : args.length ≤ nt)
    {t : Nat} (hrs : fn.results = #[.tmp t]) (h : ∀ w0 R0 hG, AWp ⟨P, nt, w0, R0, [], L0 0, hG⟩ c (fun e env heap => match e with | .normal => resF env heap post t | .ret => resF env heap post t | _ => False) (argEnv 0 args) []) :
    PSpec P f args post := by
  refine ⟨⟨fn, c, hf, hname, hb⟩, fun w R vs hG hR hz hargs => ?_⟩
  have hG := GoodC.nil (Lo := L0 0) hG
  have hrel : Rel ⟨P, nt, w, R, [], L0 0, hG⟩ (L0 w.heap.size) (lk (argEnv 0 args)) (lko []) { tmps := vs ++ Array.replicate (fn.ntmps - vs.size) undef, defers := [] } w := {
    below := BelowL.refl _ _
    top := fun b => ⟨fun h => ⟨h, no_lent b⟩, fun h => h.1⟩
    size := by simp [hn, hz]; omega
    defers := rfl
    slot := fun t => by
      show RepA _ _ _ (look t _) _
      rw [look_argEnv]
      split
      · rename_i hlt
        have hlt' : t < args.length := by omega
        have := hargs t args[t] (List.getElem?_eq_getElem hlt')
        simp only [Nat.sub_zero, List.getD_eq_getElem?_getD, List.getElem?_eq_getElem hlt', Option.getD_some]
        have e : (vs ++ Array.replicate (fn.ntmps - vs.size) undef).getD t undef = vs.getD t undef := by
          simp only [Array.getD_eq_getD_getElem?]
          rw [Array.getElem?_append_left (by omega)]
        rw [e]
        exact this.mono1 (Nat.le_refl _) (fun b hlt hb => ⟨⟨hlt, .inl hb, fun ⟨id, o, h1, _⟩ => by simp [lookO] at h1⟩, rfl⟩) (fun _ _ => rfl)
      · exact .any
    obj := fun id o h => by simp [lookO] at h
    inj := fun i j oi oj b h => by simp [lookO] at h
    own0 := fun id o b h => by simp [lookO] at h
    kept := fun id o h => by cases h
    lidn := fun i h => by cases h }
  refine calls_of_wp hf hb (wp_mono (h w R hG _ _ w hrel) fun e a' w' ⟨L', env', heap', h1, h2⟩ => ?_)
  have fin : resF env' heap' post t → a'.defers = [] ∧ ∃ v, (results fn a'.tmps).run P w' = .ok v w' ∧ ∃ v' r, Ending.returned v = .returned v' ∧ post r ∧ Below w.heap.size w w' ∧ RepR w w' R r v' := by
    intro h2
    refine ⟨h1.defers, a'.tmps.getD t undef, results_tmp hrs _ _ _, ?_⟩
    have hslot : RepA w' L' (good ⟨P, nt, w, R, [], L0 0, hG⟩ L' (lko heap') w') (look t env') (a'.tmps.getD t undef) := h1.slot t
    generalize a'.tmps.getD t undef = v at hslot
    unfold resF at h2
    split at h2
    · rename_i id sz o n e
      rw [e] at hslot
      split at h2
      · split at h2
        · rename_i ty sz' n' ff hrow
          cases hbt : Nat.blt ty markT with
          | false => rw [hbt] at h2; exact h2.elim
          | true =>
          rw [hbt] at h2
          have hmt : ty < markT := Nat.le_of_ble_eq_true hbt
          obtain ⟨rfl, rfl, m, f', rfl, hff, hp⟩ := h2
          refine ⟨v, _, rfl, hp, h1.below.plain no_lent, ?_⟩
          have hro := h1.obj id _ hrow
          have hgood : ∀ b, good ⟨P, nt, w, R, [], L0 0, hG⟩ L' (lko heap') w' b → (R b ∨ (w.heap.size ≤ b ∧ b < w'.heap.size)) ∧ L'.blk id ≠ some b := fun b hb => ⟨hb.2.1.imp (fun h => h) fun h => ⟨h.resolve_right (no_lent b), hb.1⟩, fun e => hb.2.2 ⟨id, _, hrow, e⟩⟩
          cases hslot with
          | rsl hcap hbb had =>
            have had := had (.inl rfl)
            subst had
            cases hro with
            | row0 hbk hck =>
              refine ⟨[], ?_, fun k hk => by omega, fun k hk => by omega⟩
              rw [hbk, hck]
              exact World.ownsRow_nil w' w.heap.size ty sz
            | @row _ _ _ _ cs b t9 mk hbk hh hn' hm hz' hfl hr hty hmk hcap0 =>
              have ht9 := hty hmt
              subst ht9
              have hmk0 : mk = (0, 0) := hmk.resolve_right fun h => absurd h.1 (Nat.ne_of_lt hmt)
              subst hmk0
              have hb0 := h1.own0 id _ b hrow hbk
              refine ⟨cs.toList.take (n * sz), ⟨?_, .inr ⟨b, L'.cap id, cs, by rw [hbk]; simp, hb0.1.resolve_right (no_lent b), hh, hn', hm, hz', rfl⟩⟩, fun k hk => by rw [← hff k hk]; exact hfl k hk, fun k hk j x hx => ?_⟩
              · rw [List.length_take, Array.length_toList, hz']
                exact Nat.min_eq_left (Nat.mul_le_mul_right _ hn')
              · rw [← hff k hk] at hx
                have hj : j < sz := by rw [← hfl k hk]; exact (List.getElem?_eq_some_iff.1 hx).1
                have hlt : k * sz + j < n * sz := by
                  have := Nat.mul_le_mul_right sz (show k + 1 ≤ n from hk)
                  rw [Nat.add_mul] at this; omega
                have := hr k hk j x hx
                rw [List.getD_eq_getElem?_getD, List.getElem?_take, if_pos hlt]
                have h' := this.mono (Nat.le_refl _) (good' := fun b => (R b ∨ (w.heap.size ≤ b ∧ b < w'.heap.size)) ∧ (Value.slice ((L'.blk id).map fun b => ⟨b, 0 * sz, none⟩) n (L'.cap id - 0)).ownBlock ≠ some b) (fun b' _ hb' => ⟨⟨(hgood b' hb').1, by
                  have := (hgood b' hb').2
                  rw [hbk] at this ⊢
                  simpa [Value.ownBlock] using this⟩, rfl⟩)
                simpa [Array.getD_eq_getD_getElem?] using h'
        · exact h2.elim
      · exact h2.elim
    · rename_i e
      rw [e] at hslot
      obtain ⟨ty, sz, f', hp⟩ := h2
      rw [repA_v hslot]
      exact ⟨_, _, rfl, hp, h1.below.plain no_lent, [], World.ownsRow_nil w' w.heap.size ty sz, fun k hk => by omega, fun k hk => by omega⟩
    · exact h2.elim
  cases e with
  | normal => exact fin h2
  | ret => exact fin h2
  | _ => exact h2.elim
end Towline
