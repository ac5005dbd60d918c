/- The engine: an operation of a statement that draws its order does what its record says. Over any program. -/
import Derived.Test.YtjdmnfjgmbnlbaaGreatDoorEngK1
namespace Towline
open Go Go.RowKit
set_option linter.unusedVariables false
theorem Rc.g_one {rt rh : List Nat} {t : Nat} {v : AVal} {wh : List (Nat × Option AObj)} {fr : List Nat} (g : Nat → AVal) : Rc.g ⟨rt, rh, [(t, v)], wh, fr⟩ g = gput g t v := by
  funext s
  unfold Rc.g gput
  rw [lookW_cons]
  by_cases h : s = t
  · simp [h]
  · simp [h, lookW]
theorem Rc.g_nil {rt rh : List Nat} {wh : List (Nat × Option AObj)} {fr : List Nat} (g : Nat → AVal) : Rc.g ⟨rt, rh, [], wh, fr⟩ g = g := rfl
theorem Rc.h_nil {rt rh : List Nat} {wt : List (Nat × AVal)} {fr : List Nat} (h : Nat → Option AObj) : Rc.h ⟨rt, rh, wt, [], fr⟩ h = h := rfl
theorem Rc.h_one {rt rh : List Nat} {t : Nat} {o : AObj} {wt : List (Nat × AVal)} {fr : List Nat} (h : Nat → Option AObj) : Rc.h ⟨rt, rh, wt, [(t, some o)], fr⟩ h = hput h t o := by
  funext s
  unfold Rc.h hput
  rw [lookW_cons]
  by_cases e : s = t
  · simp [e]
  · simp [e, lookW]
theorem Rc.h_two {rt rh : List Nat} {t old : Nat} {o : AObj} {wt : List (Nat × AVal)} {fr : List Nat} (h : Nat → Option AObj) : Rc.h ⟨rt, rh, wt, [(t, some o), (old, none)], fr⟩ h = fun j => if j = t then some o else if j = old then none else h j := by
  funext s
  unfold Rc.h
  rw [lookW_cons, lookW_cons]
  by_cases e : s = t
  · simp [e]
  · by_cases e2 : s = old
    · subst e2; simp [e]
    · simp [e, e2, lookW]
theorem lko_rem (id : Nat) : ∀ heap : Heap, lko (remO id heap) = fun j => if j = id then none else lko heap j
  | [] => by funext j; simp [remO, lookO]
  | (k, o) :: r => by
    have ih := lko_rem id r
    have eq : remO id ((k, o) :: r) = (match Nat.beq k id with | true => remO id r | false => (k, o) :: remO id r) := rfl
    rw [eq]
    by_cases h : k = id
    · subst h
      rw [beq_self]
      simp only
      rw [ih, lko_cons]
      funext j
      unfold hput
      by_cases hj : j = k
      · simp [hj]
      · simp [hj]
    · rw [beq_false h]
      simp only
      rw [lko_cons, lko_cons, ih]
      funext j
      unfold hput
      by_cases hj : j = k
      · subst hj; simp [h]
      · simp [hj]
section
variable {h : Nat → Option AObj} {g : Nat → AVal}
/-- y reads as x does, in whatever world. -/
def Reads (h : Nat → Option AObj) (x y : AVal) : Prop := ∀ (w : World) (gd gd' : Nat → Prop) (L L' : Lay) (v : Value), (∀ id o, h id = some o → RepO w gd L id o) → (∀ b, gd b → gd' b) → (∀ id o b, h id = some o → L.blk id = some b → gd' b ∧ b < w.heap.size) → RepA w L gd x v → RepA w L' gd' y v
mutual
theorem viewK_st : ∀ (x : AVal) (k : AVal → Prop), viewK h k x → ∃ y, k y ∧ y.data = true ∧ Reads h x y
  | .any, k, hk => ⟨.any, hk, rfl, fun _ _ _ _ _ _ _ _ _ _ => .any⟩
  | .d x, k, hk => ⟨.d x, hk, rfl, fun w gd gd' L L' v _ hg _ hv => hv.data (Nat.le_refl _) rfl (fun b _ hb => ⟨hg b hb, rfl⟩)⟩
  | .agg l, k, hk => by
    obtain ⟨m, e1, e2, e3, e4⟩ := viewL_st l _ hk
    refine ⟨.agg m, e1, e2, fun w gd gd' L L' v ho hg hb hv => ?_⟩
    obtain ⟨vs, rfl, k1, k2, k3⟩ := repA_agg hv
    exact .agg (by omega) (fun i hi => k2 i (by omega)) (e4 w gd gd' L L' (fun i => vs.getD i undef) ho hg hb k3)
  | .tup l, k, hk => by
    obtain ⟨m, e1, e2, e3, e4⟩ := viewL_st l _ hk
    refine ⟨.tup m, e1, e2, fun w gd gd' L L' v ho hg hb hv => ?_⟩
    cases hv with
    | @tup _ _ vs hz hr => exact .tup (by omega) (e4 w gd gd' L L' (fun i => vs.getD i undef) ho hg hb hr)
  | .fn f l, k, hk => by
    simp only [viewK] at hk
    cases hc : clF h l with
    | none => rw [hc] at hk; exact hk.elim
    | some m =>
      rw [hc] at hk
      exact ⟨_, hk, rfl, fun w gd gd' L L' v ho hg hb hv => .d (fn_view ho hg hb hc hv)⟩
  | .rsl id sz o n, k, hk => by
    simp only [viewK] at hk
    cases hid : h id with
    | none => rw [hid] at hk; exact hk.elim
    | some ob =>
      rw [hid] at hk
      cases ob with
      | box => exact hk.elim
      | mp => exact hk.elim
      | vrow => exact hk.elim
      | dmp => exact hk.elim
      | row t sz' n' f =>
        simp only at hk
        cases hbq : Nat.beq sz sz' with
        | false => rw [hbq] at hk; exact hk.elim
        | true =>
          rw [hbq] at hk
          have := Nat.eq_of_beq_eq_true hbq
          subst this
          simp only at hk
          obtain ⟨hle, hk⟩ := hk
          cases o with
          | zero => exact ⟨_, hk, rfl, fun w gd gd' L L' v ho hg hb hv => .d (by simpa using row_view ho hg hb hid hle hv)⟩
          | succ o => exact ⟨_, hk, rfl, fun w gd gd' L L' v ho hg hb hv => .d (row_view ho hg hb hid hle hv)⟩
  | .eptr .., k, hk => hk.elim
  | .ptr id off, k, hk => by
    simp only [viewK] at hk
    cases off with
    | succ off => exact hk.elim
    | zero =>
      simp only at hk
      cases hid : h id with
      | none => rw [hid] at hk; exact hk.elim
      | some ob =>
        rw [hid] at hk
        cases ob with
        | row => exact hk.elim
        | mp => exact hk.elim
        | vrow => exact hk.elim
        | dmp => exact hk.elim
        | box l tag =>
          simp only at hk
          cases hu : unliftF l with
          | none => rw [hu] at hk; exact hk.elim
          | some ds =>
            rw [hu] at hk
            refine ⟨_, hk, rfl, fun w gd gd' L L' v ho hg hb hv => ?_⟩
            cases hv with
            | @ptr _ _ _ b hbk => exact .d (.pt _ b (box_view ho hg hb hid hu hbk))
  | .rptr .., k, hk => hk.elim
  | .mref id, k, hk => ⟨_, hk, rfl, fun w gd gd' L L' v ho hg hb hv => by cases hv with | mref _ => exact .d (.o _ rfl)⟩
  | .fresh .., k, hk => hk.elim
theorem viewL_st : ∀ (l : List AVal) (k : List AVal → Prop), viewL h k l → ∃ m, k m ∧ AVal.dataL m = true ∧ m.length = l.length ∧
    ∀ (w : World) (gd gd' : Nat → Prop) (L L' : Lay) (vs : Nat → Value), (∀ id o, h id = some o → RepO w gd L id o) → (∀ b, gd b → gd' b) → (∀ id o b, h id = some o → L.blk id = some b → gd' b ∧ b < w.heap.size) → (∀ (i : Nat) (x : AVal), l[i]? = some x → RepA w L gd x (vs i)) → ∀ (i : Nat) (x : AVal), m[i]? = some x → RepA w L' gd' x (vs i)
  | [], k, hk => ⟨[], hk, rfl, rfl, fun w gd gd' L L' vs _ _ _ _ i x hx => by simp at hx⟩
  | x :: r, k, hk => by
    simp only [viewL] at hk
    obtain ⟨y, h1, h2, h3⟩ := viewK_st x _ hk
    obtain ⟨m, e1, e2, e3, e4⟩ := viewL_st r _ h1
    refine ⟨y :: m, e1, by simp [AVal.dataL, h2, e2], by simp [e3], fun w gd gd' L L' vs ho hg hb hv i z hz => ?_⟩
    cases i with
    | zero => simp only [List.getElem?_cons_zero, Option.some.injEq] at hz; subst hz; exact h3 w gd gd' L L' _ ho hg hb (hv 0 x rfl)
    | succ i => simp only [List.getElem?_cons_succ] at hz; exact e4 w gd gd' L L' (fun i => vs (i + 1)) ho hg hb (fun i z hz => hv (i + 1) z hz) i z hz
end
/-- What holds when a call begins. -/
structure Begins (w : World) (gd : Nat → Prop) (L : Lay) (g : Nat → AVal) (h : Nat → Option AObj) (a : Act) : Prop where
  holds : Holds w gd L g h a
  gd : ∀ b, gd b → b < w.heap.size
  top : ∀ b, L.old b → b < w.heap.size
  own : ∀ id o b, h id = some o → L.blk id = some b → b < w.heap.size
def Caps (g : Nat → AVal) (h : Nat → Option AObj) (x y : AVal) : Prop := ∀ (w : World) (gd : Nat → Prop) (L : Lay) (a : Act) (v : Value), Begins w gd L g h a → RepA w L (fun b => gd b ∨ L.old b) x v → RepA w (L0 w.heap.size) (fun b => b < w.heap.size) y v
theorem data_pure : ∀ y : AVal, y.data = true → y.pure = true := by
  intro y
  apply AVal.rec (motive_1 := fun y => y.data = true → y.pure = true) (motive_2 := fun l => AVal.dataL l = true → AVal.pureL l = true)
  all_goals simp_all [AVal.data, AVal.pure, AVal.dataL, AVal.pureL]
theorem capK_st {x : AVal} {k : AVal → Prop} (hk : capK h k x) : ∃ y, k y ∧ Caps g h x y := by
  have view : ∀ {x : AVal}, viewK h k x → ∃ y, k y ∧ Caps g h x y := by
    intro x hk
    obtain ⟨y, h1, h2, h3⟩ := viewK_st x k hk
    refine ⟨y, h1, fun w gd L a v B hv => h3 w (fun b => gd b ∨ L.old b) _ L _ v ?_ ?_ ?_ hv⟩
    · exact fun id o ho => (B.holds.obj id o ho).mono (Nat.le_refl _) (fun b _ hb => ⟨.inl hb, rfl⟩) (fun _ _ => rfl) (fun b _ hb => ⟨hb, rfl⟩) (fun _ => true) (fun _ _ => ⟨rfl, rfl⟩) rfl (fun _ h => by cases h)
    · intro b hb
      rcases hb with hb | hb
      · exact B.gd b hb
      · exact B.top _ ‹_›
    · exact fun id o b h1 h2 => ⟨B.own id o b h1 h2, B.own id o b h1 h2⟩
  have direct : ∀ {x y : AVal}, k y → (∀ (w : World) (gd : Nat → Prop) (L : Lay) (a : Act) (v : Value), Begins w gd L g h a → capK h (· = y) x → RepA w L (fun b => gd b ∨ L.old b) x v → RepA w (L0 w.heap.size) (fun b => b < w.heap.size) y v) → capK h (· = y) x → ∃ y, k y ∧ Caps g h x y :=
    fun hk hr hc => ⟨_, hk, fun w gd L a v B hv => hr w gd L a v B hc hv⟩
  have old : ∀ {x y : AVal} (w : World) (gd : Nat → Prop) (L : Lay) (a : Act) (v : Value), Begins w gd L g h a → capK h (· = y) x → RepA w L (fun b => gd b ∨ L.old b) x v → RepA w (L0 w.heap.size) (fun b => b < w.heap.size) y v := by
    intro x y w gd L a v B hc hv
    obtain ⟨y', e, _, hr⟩ := capK_ok B.holds B.gd B.top B.own hc hv
    rw [← e]; exact hr
  cases x with
  | ptr id off =>
    simp only [capK] at hk
    cases ho : h id with
    | none => rw [ho] at hk; exact hk.elim
    | some ob =>
      rw [ho] at hk
      cases ob with
      | row => exact hk.elim
      | mp => exact hk.elim
      | vrow => exact hk.elim
      | dmp => exact hk.elim
      | box l tag =>
        simp only at hk
        obtain ⟨m, hm, hdat, hmlen, hmr⟩ := viewL_st l _ hk
        cases hu : unliftF m with
        | none => rw [hu] at hm; exact hm.elim
        | some ds =>
          rw [hu] at hm
          have hl := unliftF_eq hu
          refine ⟨_, hm, fun w gd L a v B hv => ?_⟩
          cases hv with
          | @ptr _ _ _ b hbk =>
            have hro := B.holds.obj id _ ho
            cases hro with
            | @box _ tag cs t b' htag hb' hh hz h1 hr =>
              rw [hbk] at hb'
              cases hb'
              refine eptr_of hh (B.own id _ b ho hbk) (by rw [hz, ← hmlen, hl]; simp) (fun j x hx => ?_) off
              have := hmr w gd (fun b => b < w.heap.size) L (L0 w.heap.size) (fun i => cs.getD i undef) B.holds.obj B.gd (fun id o b h1 h2 => ⟨B.own id o b h1 h2, B.own id o b h1 h2⟩) hr j (.d x) (by rw [hl, List.getElem?_map, hx]; rfl)
              cases this with
              | d h => exact h
  | eptr a b c d e => exact direct (y := .eptr a b c d e) hk old rfl
  | any => exact view hk
  | d x => exact view hk
  | agg l => exact view hk
  | tup l => exact view hk
  | rsl => exact view hk
  | rptr => exact view hk
  | mref => exact view hk
  | fn => exact view hk
  | fresh => exact view hk
theorem capL_st : ∀ {l : List AVal} {k : List AVal → Prop}, capL h k l → ∃ m, k m ∧ m.length = l.length ∧ ∀ (w : World) (gd : Nat → Prop) (L : Lay) (a : Act) (vs : Nat → Value), Begins w gd L g h a → (∀ (i : Nat) (x : AVal), l[i]? = some x → RepA w L (fun b => gd b ∨ L.old b) x (vs i)) → ∀ (i : Nat) (x : AVal), m[i]? = some x → RepA w (L0 w.heap.size) (fun b => b < w.heap.size) x (vs i)
  | [], k, hk => ⟨[], hk, rfl, fun w gd L a vs _ _ i x hx => by simp at hx⟩
  | x :: r, k, hk => by
    obtain ⟨y, h1, h2⟩ := capK_st (g := g) hk
    obtain ⟨m, e1, e2, e3⟩ := capL_st h1
    refine ⟨y :: m, e1, by simp [e2], fun w gd L a vs B hv i z hz => ?_⟩
    cases i with
    | zero => simp only [List.getElem?_cons_zero, Option.some.injEq] at hz; subst hz; exact h2 w gd L a _ B (hv 0 x rfl)
    | succ i => simp only [List.getElem?_cons_succ] at hz; exact e3 w gd L a (fun i => vs (i + 1)) B (fun i z hz => hv (i + 1) z hz) i z hz
theorem argV_st {x : AVal} {k : AVal → Bool → Prop} (hk : argV h k x) : ∃ y b, k y b ∧ ∀ (w : World) (gd : Nat → Prop) (L : Lay) (a : Act) (v : Value), Begins w gd L g h a → RepA w L gd x v → ∀ b', (b' = true → b = true) → RepA w (L0 w.heap.size) (seen gd w b') y v := by
  have plain : ∀ {x : AVal}, (match x.pure with | true => forceV (fun v => k v true) x | false => viewK h (fun v => k v false) x) → ∃ y b, k y b ∧ ∀ (w : World) (gd : Nat → Prop) (L : Lay) (a : Act) (v : Value), Begins w gd L g h a → RepA w L gd x v → ∀ b', (b' = true → b = true) → RepA w (L0 w.heap.size) (seen gd w b') y v := by
    intro x hk
    cases hp : x.pure with
    | true =>
      rw [hp] at hk
      refine ⟨x, true, forceV_eq (k := fun v => k v true) hk, fun w gd L a v B hv b' _ => ?_⟩
      have hrep := hv.enter hp
      cases b' with
      | true => exact hrep
      | false => exact hrep.mono1 (Nat.le_refl _) (fun b _ hb => ⟨B.gd b hb, rfl⟩) (fun _ _ => rfl)
    | false =>
      rw [hp] at hk
      obtain ⟨y, h1, h2, h3⟩ := viewK_st x _ hk
      refine ⟨y, false, h1, fun w gd L a v B hv b' hb' => ?_⟩
      cases b' with
      | true => exact absurd (hb' rfl) (by decide)
      | false => exact h3 w gd _ L _ v B.holds.obj B.gd (fun id o b h1 h2 => ⟨B.own id o b h1 h2, B.own id o b h1 h2⟩) hv
  cases x with
  | fn f l =>
    simp only [argV] at hk
    split at hk
    · exact ⟨.any, true, hk, fun w gd L a v B hv b' _ => .any⟩
    obtain ⟨m, h1, h2, h3⟩ := capL_st (g := g) hk
    refine ⟨_, true, h1, fun w gd L a v B hv b' _ => ?_⟩
    cases hv with
    | @fn _ _ _ vs hz hr =>
      exact .fn (by omega) fun i x hx => (h3 w gd L a (fun i => vs.getD i undef) B hr i x hx).mono1 (Nat.le_refl _) (fun b hlt _ => ⟨.inr hlt, rfl⟩) (fun _ _ => rfl)
  | any => exact plain hk
  | d x => exact plain hk
  | agg l => exact plain hk
  | tup l => exact plain hk
  | ptr id off =>
    simp only [argV] at hk
    obtain ⟨y, h1, h3⟩ := capK_st (g := g) hk
    refine ⟨y, false, h1, fun w gd L a v B hv b' hb' => ?_⟩
    cases b' with
    | true => exact absurd (hb' rfl) (by decide)
    | false => exact h3 w gd L a v B (hv.mono1 (Nat.le_refl _) (fun b _ hb => ⟨.inl hb, rfl⟩) (fun _ _ => rfl))
  | eptr => exact plain hk
  | rsl => exact plain hk
  | rptr => exact plain hk
  | mref => exact plain hk
  | fresh => exact plain hk
theorem argK_st {caps : List AVal} : ∀ {as : List Operand} {k : List AVal → Bool → Prop}, argK g h caps k as → ∃ l b, k l b ∧ l.length = as.length + caps.length ∧
    ∀ (w : World) (gd : Nat → Prop) (L : Lay) (a : Act) (cvs : Array Value), Begins w gd L g h a → cvs.size = caps.length → (∀ (i : Nat) (x : AVal), caps[i]? = some x → RepA w L (fun b => gd b ∨ L.old b) x (cvs.getD i undef)) →
      ∀ b', (b' = true → b = true) → ∀ (i : Nat) (x : AVal), l[i]? = some x → RepA w (L0 w.heap.size) (seen gd w b') x ((as.map a.eval ++ cvs.toList).getD i undef)
  | [], k, hk => by
    obtain ⟨m, h1, h3, h4⟩ := capL_st (g := g) hk
    refine ⟨m, _, h1, by simp; omega, fun w gd L a cvs B hcz hcr b' hb' i x hx => ?_⟩
    have hlt : i < caps.length := by rw [← h3]; exact (List.getElem?_eq_some_iff.1 hx).1
    cases b' with
    | true =>
      cases caps with
      | nil => simp at hlt
      | cons => exact absurd (hb' rfl) (by simp)
    | false =>
      have := h4 w gd L a (fun i => cvs.getD i undef) B hcr i x hx
      simpa [seen, Array.getD_eq_getD_getElem?, List.getD_eq_getElem?_getD] using this
  | x :: r, k, hk => by
    obtain ⟨y, b, h1, h2⟩ := argV_st (g := g) hk
    obtain ⟨l, b2, e1, e2, e3⟩ := argK_st h1
    refine ⟨y :: l, b && b2, e1, by simp [e2]; omega, fun w gd L a cvs B hcz hcr b' hb' i z hz => ?_⟩
    have hbb : b' = true → b = true ∧ b2 = true := fun h => by simpa using hb' h
    cases i with
    | zero =>
      simp only [List.getElem?_cons_zero, Option.some.injEq] at hz
      subst hz
      exact h2 w gd L a _ B (B.holds.opnd x) b' (fun h => (hbb h).1)
    | succ i =>
      simp only [List.getElem?_cons_succ] at hz
      simpa using e3 w gd L a cvs B hcz hcr b' (fun h => (hbb h).2) i z hz
end
section
variable {C : Ctx} {T : Tys} {env : Env} {heap : Heap}
/-- What is claimed of an operation with its record. -/
def Claims (C : Ctx) (rt : List Nat) (o : Oper) (env : Env) (heap : Heap) (k : Rc → Env → Heap → Prop) : Prop :=
  ∃ r env' heap', k r env' heap' ∧ r.rt = rt ∧ lk env' = r.g (lk env) ∧ lko heap' = r.h (lko heap) ∧ StepOk C o r (lk env) (lko heap)
theorem blt_lt {t n : Nat} (h : Nat.blt t n = true) : t < n := Nat.lt_of_succ_le (by simpa [Nat.blt] using h)
def wtOf (d : Option Tmp) (v : AVal) : List (Nat × AVal) := match d with | some t => [(t, v)] | none => []
theorem put_step {L : Lay} {g : Nat → AVal} {h : Nat → Option AObj} {a : Act} {w : World} (H : Rel C L g h a w) {d : Option Tmp} {rt rh : List Nat} {v : AVal} {u : Value} (hd : ∀ t, d = some t → t < C.nt) (hv : RepA w L (good C L h w) v u) {wt : List (Nat × AVal)} (hwt : wt = wtOf d v) :
    Rel C L (Rc.g ⟨rt, rh, wt, [], []⟩ g) (Rc.h ⟨rt, rh, wt, [], []⟩ h) (a.put d u) w := by
  subst hwt
  cases d with
  | none => exact H
  | some t => unfold wtOf; rw [Rc.g_one, Rc.h_nil]; exact H.put (hd t rfl) hv
theorem putD_claims {o : Oper} {d : Option Tmp} {v : AVal} {rt rh : List Nat} {k : Rc → Env → Heap → Prop} (hk : putD C.nt d v rt rh env heap k)
    (hs : ∀ g h, (∀ t ∈ rt, g t = lk env t) → (∀ i ∈ rh, h i = lko heap i) → ∀ L a w, Rel C L g h a w → ∀ (next : Act → World → Prop) (Q : Exit → Act → World → Prop), (∀ u w', Rel C L g h a w' → RepA w' L (good C L h w') v u → next (a.put d u) w') → o.wp C.P a w next Q) : Claims C rt o env heap k := by
  unfold putD at hk
  cases d with
  | none =>
    refine ⟨_, env, heap, hk, rfl, rfl, rfl, fun g h ha L a w H next Q hn => hs g h ha.t ha.o L a w H next Q fun u w' H' hv => hn L _ w' H'⟩
  | some t =>
    simp only at hk
    cases hb : Nat.blt t C.nt with
    | false => rw [hb] at hk; exact hk.elim
    | true =>
      rw [hb] at hk
      refine ⟨⟨rt, rh, [(t, v)], [], []⟩, _, heap, forceV_eq (k := fun v => k ⟨rt, rh, [(t, v)], [], []⟩ ((t, v) :: env) heap) hk, rfl, by rw [lk_cons, Rc.g_one], rfl, fun g h ha L a w H next Q hn => hs g h ha.t ha.o L a w H next Q fun u w' H' hv => hn L _ w' ?_⟩
      rw [Rc.g_one, Rc.h_nil]
      exact H'.put (blt_lt hb) hv
theorem setD_claims {o : Oper} {d : Option Tmp} {id : Nat} {ob : AObj} {rt rh : List Nat} {k : Rc → Env → Heap → Prop} (hk : setD C.nt d id ob rt rh env heap k)
    (hs : ∀ g h, (∀ t ∈ rt, g t = lk env t) → (∀ i ∈ rh, h i = lko heap i) → ∀ L a w, Rel C L g h a w → (∃ o0, h id = some o0) ∧ WritesOk C.P w (good C L h w) L a o id ob) (hdst : o.dst = d) : Claims C rt o env heap k := by
  unfold setD at hk
  cases hso : setO id ob heap with
  | none => rw [hso] at hk; exact hk.elim
  | some h' =>
    rw [hso] at hk
    simp only at hk
    have step : ∀ {wt : List (Nat × AVal)}, (wt = match d with | some t => [(t, .any)] | none => []) → (∀ t, d = some t → t < C.nt) → StepOk C o ⟨rt, id :: rh, wt, [(id, some ob)], []⟩ (lk env) (lko heap) := by
      intro wt hwt hd g h ha L a w H next Q hn
      obtain ⟨⟨o0, ho0⟩, b, w', r1, r2, r3, r4, r5, r6, r7, r8⟩ := hs g h ha.t (fun i hi => ha.o i (by simp [hi])) L a w H
      have hset := H.set ho0 r1 r3 r4 r5 r6 r7 r8
      unfold Oper.wp
      rcases r2 with r2 | ⟨u, r2⟩
      · rw [r2, Oper.upon_skip, hdst]
        refine hn L _ w' ?_
        rw [Rc.h_one]
        subst hwt
        cases d with
        | none => exact hset
        | some t => rw [Rc.g_one]; exact hset.put (hd t rfl) .any
      · rw [r2, Oper.upon_value, hdst]
        refine hn L _ w' ?_
        rw [Rc.h_one]
        subst hwt
        cases d with
        | none => exact hset
        | some t => rw [Rc.g_one]; exact hset.put (hd t rfl) .any
    cases d with
    | none => exact ⟨_, env, h', hk, rfl, rfl, by rw [Rc.h_one, lko_set hso], step rfl (fun t h => by cases h)⟩
    | some t =>
      simp only at hk
      cases hb : Nat.blt t C.nt with
      | false => rw [hb] at hk; exact hk.elim
      | true =>
        rw [hb] at hk
        exact ⟨_, _, h', hk, rfl, by rw [lk_cons, Rc.g_one], by rw [Rc.h_one, lko_set hso], step rfl (fun t' h => by cases h; exact blt_lt hb)⟩
theorem newD_claims {o : Oper} {d : Option Tmp} {ob : AObj} {v : Nat → AVal} {rt rh : List Nat} {k : Rc → Env → Heap → Prop} (hk : newD C.nt d ob v rt rh env heap k)
    (hs : ∀ g h, (∀ t ∈ rt, g t = lk env t) → (∀ i ∈ rh, h i = lko heap i) → ∀ L a w, Rel C L g h a w → ∀ t, d = some t → (∀ s, (g s).free t = true) → ∀ (next : Act → World → Prop) (Q : Exit → Act → World → Prop),
      (∀ u w' nb nc, Below w.heap.size w w' → (∀ b, nb = some b → w.heap.size ≤ b ∧ b < w'.heap.size) → RepO w' (good C (L.upd t nb nc) (hput h t ob) w') (L.upd t nb nc) t ob ∧ RepA w' (L.upd t nb nc) (good C (L.upd t nb nc) (hput h t ob) w') (v t) u → next (a.put d u) w') → o.wp C.P a w next Q) : Claims C rt o env heap k := by
  unfold newD at hk
  cases d with
  | none => exact hk.elim
  | some t =>
    simp only at hk
    cases hb : Nat.blt t C.nt with
    | false => rw [hb] at hk; exact hk.elim
    | true =>
      rw [hb] at hk
      simp only at hk
      cases hl : lookO t heap with
      | some _ => rw [hl] at hk; exact hk.elim
      | none =>
        rw [hl] at hk
        refine ⟨_, _, _, hk, rfl, by rw [lk_cons, Rc.g_one], by rw [lko_cons, Rc.h_one], fun g h ha L a w H next Q hn => ?_⟩
        have hft := ha.ft t (by simp)
        have hfo := ha.fo t (by simp)
        refine hs g h ha.t ha.o L a w H t rfl hft next Q fun u w' nb nc h1 h2 h3 => hn (L.upd t nb nc) _ w' ?_
        rw [Rc.g_one, Rc.h_one]
        exact (H.new (H.lid_slot (blt_lt hb)) hft hfo h1 nb nc h2 h3.1).put (blt_lt hb) h3.2
theorem lendD_claims {rt rh : List Nat} {o : Oper} {k : Rc → Env → Heap → Prop} {f : Operand} {as : Array Operand} {ts : Array TypeId} {fid : FuncId} {caps l : List AVal} {p : List Nat} (hop : o.op = .call { callee := .value f, args := as, argTypes := ts }) (e : opnd (restrict rt fun t => look t env) f = .fn fid caps)
    (hlen : l.length = (as.toList.map (opnd (restrict rt fun t => look t env))).length)
    (hargs : ∀ (C : Ctx) (L : Lay) (g : Nat → AVal) (h0 : Nat → Option AObj) (a : Act) (w : World), Rel C L g h0 a w → (∀ i o, restrictH rh (fun i => lookO i heap) i = some o → h0 i = some o) → ∀ (i : Nat) (x y : AVal) (v : Value), (as.toList.map (opnd (restrict rt fun t => look t env)))[i]? = some x → l[i]? = some y → RepA w L (good C L h0 w) x v → RepA w L (good C L (fun j => if memN j p = true then none else h0 j) w) y v)
    (hk : ALendD C.P C.nt o.dst rt rh env (dropH p heap) k fid (l ++ capsN caps) p) : Claims C rt o env heap k := by
  unfold ALendD at hk
  have hk := forceN_eq hk
  generalize reach 500 (fun i => lookO i (dropH p heap)) (l ++ capsN caps) [] = S at hk
  cases hn : nodupN S with
  | false => rw [hn] at hk; exact hk.elim
  | true =>
    rw [hn] at hk
    simp only at hk
    cases ha : allIn (fun i => lookO i (dropH p heap)) S with
    | false => rw [ha] at hk; exact hk.elim
    | true =>
      rw [ha] at hk
      simp only at hk
      obtain ⟨r, hl', hs, hb⟩ := deepH_eq (deepL_eq hk)
      rw [AVal.mapL_eq] at hs
      obtain ⟨⟨fn, c, e1, e2, e3⟩, _⟩ := id hs
      unfold ABackD at hb
      have hb := forceN_eq hb
      generalize newBase env o.dst = nb at hb
      generalize hfr : firsts (newOf (sigI S lentBase) hl' nb) = fr at hb
      cases hlt : ltAll fr with
      | false => rw [hlt] at hb; exact hb.elim
      | true =>
        rw [hlt] at hb
        simp only at hb
        have hb := deepH_eq (deepV_eq hb)
        have hb := forceH_eq hb
        generalize hhm : mapH (tauOf (sigI S lentBase) hl' nb) hl' = hm at hb
        -- what the step does
        have hSin : ∀ i, i ∈ S → ∃ ob, lookO i heap = some ob ∧ memN i p = false := by
          intro i hi
          obtain ⟨ob, h1⟩ := allIn_ok ha i hi
          rw [lookO_dropH] at h1
          obtain ⟨h2, h3⟩ := dropped_some (h0 := fun i => lookO i heap) h1
          exact ⟨ob, h2, h3⟩
        have heq : lko (hm ++ dropH S (dropH p heap)) = fun i => match lookW i (whOf hm (S ++ p)) with | some v => v | none => lko heap i := by
          funext i
          show lookO i _ = _
          rw [lookO_app_eq, lookW_whOf, lookO_dropH, lookO_dropH]
          cases lookO i hm with
          | some ob => rfl
          | none =>
            have : memN i (S ++ p) = (memN i S || memN i p) := by
              cases h1 : memN i (S ++ p) with
              | true => 
                have := List.mem_append.1 (memN_of.1 h1)
                rcases this with h | h
                · rw [memN_of.2 h]; rfl
                · rw [memN_of.2 h]; simp
              | false =>
                cases h2 : memN i S with
                | true => rw [memN_of.2 (List.mem_append_left p (memN_of.1 h2))] at h1; cases h1
                | false =>
                  cases h3 : memN i p with
                  | true => rw [memN_of.2 (List.mem_append_right S (memN_of.1 h3))] at h1; cases h1
                  | false => rfl
            simp only [this]
            cases memN i S <;> cases memN i p <;> rfl
        have step : ∀ (wt : List (Nat × AVal)) (g : Nat → AVal) (h : Nat → Option AObj), Agrees ⟨rt, S ++ p ++ rh, wt, whOf hm (S ++ p), fr⟩ (lk env) (lko heap) g h → ∀ L a w, Rel C L g h a w → ∀ (next : Act → World → Prop) (Q : Exit → Act → World → Prop),
            (∀ L' v w', Rel C L' g (Rc.h ⟨rt, S ++ p ++ rh, wt, whOf hm (S ++ p), fr⟩ h) a w' → RepA w' L' (good C L' (Rc.h ⟨rt, S ++ p ++ rh, wt, whOf hm (S ++ p), fr⟩ h) w') (r.map (tauOf (sigI S lentBase) hl' nb)) v → next (a.put o.dst v) w') → o.wp C.P a w next Q := by
          intro wt g h hag L a w H next Q hnext
          have h1 : ∀ t ∈ rt, g t = lk env t := hag.t
          have h2 : ∀ i ∈ rh, h i = lko heap i := fun i hi => hag.o i (by simp [hi])
          have hS : ∀ i, i ∈ S → h i = lko heap i := fun i hi => hag.o i (by simp [hi])
          have hsub : ∀ i ob, (if memN i p = true then none else h i) = some ob → h i = some ob := fun i ob e => (dropped_some e).1
          have H1 := H.drop hsub
          have hL : Lends (fun j => if memN j p = true then none else h j) (sig S lentBase) (sigI S lentBase) (pickH (sig S lentBase) (fun i => lookO i (dropH p heap)) S lentBase) :=
            lends_of' hn ha fun i hi => by
              rw [lookO_dropH, hS i hi]
          have hr : restrict rt g = restrict rt (lk env) := restrict_eq h1
          have hf := (H.holds.restrict rt rh).opnd f
          have e' : opnd (restrict rt g) f = .fn fid caps := by rw [hr]; exact e
          rw [e'] at hf
          generalize hfv : a.eval f = fv at hf
          cases hf with
          | @fn _ _ _ cvs hcz hcr =>
            have hlen' : l.length = as.size := by rw [hlen]; simp
            have hcalls := H1.lend hL hs (vs := as.map a.eval ++ cvs) (by rw [Array.size_append, List.length_append, capsN_len, Array.size_map]; omega) (fun i y hy => by
              by_cases hi : i < l.length
              · rw [List.getElem?_append_left hi] at hy
                have hi' : i < as.size := by omega
                have hx : (as.toList.map (opnd (restrict rt fun t => look t env)))[i]? = some (opnd (restrict rt (lk env)) as[i]) := by simp [hi']
                have := hargs C L g h a w H (fun i ob e => by
                  have hm' : i ∈ rh := by
                    unfold restrictH at e
                    cases hq : memN i rh with
                    | true => exact memN_of.1 hq
                    | false => rw [hq] at e; cases e
                  rw [h2 i hm']; exact restrictH_some e) i _ y (a.eval as[i]) hx hy (by rw [← hr]; exact (H.holds.restrict rt rh).opnd _)
                rw [Array.getD_eq_getD_getElem?, Array.getElem?_append_left (by simpa using hi'), Array.getElem?_map, Array.getElem?_eq_getElem hi']
                exact this
              · rw [List.getElem?_append_right (by omega)] at hy
                obtain ⟨x, hx, hr⟩ := capsN_get hy
                have := hr w L _ (good C L (fun j => if memN j p = true then none else h j) w) _ (hcr _ x hx)
                rw [Array.getD_eq_getD_getElem?, Array.getElem?_append_right (by simp; omega)]
                rw [Array.getD_eq_getD_getElem?, hlen'] at this
                simpa using this)
            have hname : fn.name ≠ "runtime.NumGoroutine" := by simpa using e2
            have hrun : (execOp a.eval o).run C.P w = .ok (.enter fid (as.map a.eval ++ cvs)) w := by
              simp [execOp, hop, resolve, hfv, Deferred.ofValue, invoke, callFunc, e1, hname, e3]
            unfold Oper.wp
            rw [hrun, Oper.upon_enter]
            refine hcalls.mono ?_
            rintro ee w' ⟨v, r', hl'', L', rfl, ⟨rfl, rfl⟩, hlp, hrep⟩
            have hfrm : ∀ {i j}, lookW i (newOf (sigI S lentBase) hl'' nb) = some j → i ∈ fr := fun h => by rw [← hfr]; exact firsts_mem h
            obtain ⟨hrel, hres⟩ := H1.back hL hlp (τ := tauOf (sigI S lentBase) hl'' nb) (τn := newOf (sigI S lentBase) hl'' nb) (h' := Rc.h ⟨rt, S ++ p ++ rh, wt, whOf hm (S ++ p), fr⟩ h)
              (fun j i hji => by
                rcases tauOf_ok hji with ⟨k1, k2⟩ | k1
                · left
                  refine ⟨k1, k2, ?_⟩
                  cases hn' : lookW i (newOf (sigI S lentBase) hl'' nb) with
                  | none => rfl
                  | some j' =>
                    have hm' := (sigI_mem k1).1
                    obtain ⟨ob, q1, _⟩ := hSin i hm'
                    have := (hag.fo i (hfrm hn') i ob (by rw [hS i hm']; exact q1)).1
                    exact absurd rfl this
                · right; exact k1)
              (fun i j hij => by
                have hi := hfrm hij
                refine ⟨fun hl => ?_, hag.ft i hi, fun q ob hq _ => hag.fo i hi q ob (hsub q ob hq)⟩
                have := (H.lidn i hl).1
                have := ltAll_ok hlt i hi
                omega)
              (fun i ob ho => by
                unfold Rc.h at ho
                simp only [lookW_whOf] at ho
                cases hq : lookO i hm with
                | some o1 =>
                  rw [hq] at ho
                  simp only [Option.some.injEq] at ho
                  subst ho
                  rw [← hhm] at hq
                  left; exact mapH_from hq
                | none =>
                  rw [hq] at ho
                  simp only at ho
                  cases hq2 : memN i (S ++ p) with
                  | true => rw [hq2] at ho; simp at ho
                  | false =>
                    rw [hq2] at ho
                    simp at ho
                    right
                    have hn1 : memN i p = false := by
                      cases hq3 : memN i p with
                      | false => rfl
                      | true => rw [memN_of.2 (List.mem_append_right S (memN_of.1 hq3))] at hq2; cases hq2
                    refine ⟨by simp [hn1, ho], ?_⟩
                    cases hs' : lookW i (sig S lentBase) with
                    | none => rfl
                    | some j => rw [memN_of.2 (List.mem_append_left p (sig_ge hs').2)] at hq2; cases hq2)
            exact hnext _ v w' hrel (hres _ v hrep)
        cases hd : o.dst with
        | none =>
          rw [hd] at hb
          exact ⟨_, _, _, hb, rfl, rfl, heq, fun g h hag L a w H next Q hnx => step _ g h hag L a w H next Q fun L' v w' hrel hrep => hnx L' _ w' (by rw [hd]; exact hrel)⟩
        | some t =>
          rw [hd] at hb
          simp only at hb
          cases hbl : Nat.blt t C.nt with
          | false => rw [hbl] at hb; exact hb.elim
          | true =>
            rw [hbl] at hb
            simp only at hb
            refine ⟨_, _, _, hb, rfl, by rw [lk_cons, Rc.g_one], heq, fun g h hag L a w H next Q hnx => step _ g h hag L a w H next Q fun L' v w' hrel hrep => hnx L' _ w' ?_⟩
            rw [Rc.g_one, hd]
            exact hrel.put (blt_lt hbl) hrep
theorem AStepD_ok (hT : TysOk C.P T) {rt rh : List Nat} {o : Oper} {k : Rc → Env → Heap → Prop} (hk : AStepD C.P T C.nt rt rh o env heap k) : Claims C rt o env heap k := by
  have tail : ∀ {r : AVal} {b : Bool}, putRD C.nt o.dst b rt rh env heap k r → (∀ g h, (∀ t ∈ rt, g t = lk env t) → (∀ i ∈ rh, h i = lko heap i) → ∀ L a w, Rel C L g h a w → ∀ (next : Act → World → Prop) (Q : Exit → Act → World → Prop),
      (∀ v w', Below w.heap.size w w' → RepR w w' (seen (good C L h w) w b) r v → next (a.put o.dst v) w') → o.wp C.P a w next Q) → Claims C rt o env heap k := by
    intro r b hpt run
    have newgood : ∀ {g h L a w w'}, Rel C L g h a w → Below w.heap.size w w' → ∀ b, w.heap.size ≤ b → b < w'.heap.size → good C L h w' b := fun H hbel b hb1 hb2 => ⟨hb2, .inr (.inl (Nat.le_trans H.below.size hb1)), fun ⟨id, ob, h1, h2⟩ => by have := (H.own0 id ob b h1 h2).2; omega⟩
    have plain : ∀ {r : AVal}, (match (generalizing := false) b with | true => putD C.nt o.dst r rt rh env heap k | false => match r.flat with | true => putD C.nt o.dst r rt rh env heap k | false => False) →
        (∀ g h, (∀ t ∈ rt, g t = lk env t) → (∀ i ∈ rh, h i = lko heap i) → ∀ L a w, Rel C L g h a w → ∀ (next : Act → World → Prop) (Q : Exit → Act → World → Prop),
        (∀ v w', Below w.heap.size w w' → r.data = true ∧ RepA w' (L0 w.heap.size) (fun b' => seen (good C L h w) w b b' ∨ (w.heap.size ≤ b' ∧ b' < w'.heap.size)) r v → next (a.put o.dst v) w') → o.wp C.P a w next Q) → Claims C rt o env heap k := by
      intro r hpt run
      have fin : putD C.nt o.dst r rt rh env heap k → (b = true ∨ r.flat = true) → Claims C rt o env heap k := by
        intro hpt hb
        refine putD_claims hpt fun g h h1 h2 L a w H next Q hn => run g h h1 h2 L a w H next Q fun v w' hbel ⟨hd, hrep⟩ => hn v w' (H.world (hbel.mono H.below.size) (fun b hb => hbel.block b hb)) ?_
        rcases hb with hb | hb
        · subst hb
          exact hrep.data (Nat.le_refl _) hd fun b' _ hb => ⟨by
            rcases hb with hb | ⟨hb1, hb2⟩
            · exact ⟨Nat.lt_of_lt_of_le hb.1 hbel.size, hb.2⟩
            · exact newgood H hbel b' hb1 hb2, rfl⟩
        · exact hrep.flat hb
      cases b with
      | true => exact fin hpt (.inl rfl)
      | false =>
        simp only at hpt
        cases hf : r.flat with
        | false => rw [hf] at hpt; exact hpt.elim
        | true => rw [hf] at hpt; exact fin hpt (.inr hf)
    unfold putRD at hpt
    cases r with
    | fresh t sz n f =>
      simp only at hpt
      cases b with
      | false => exact hpt.elim
      | true =>
        simp only at hpt
        cases hbt : Nat.blt t markT with
        | false => rw [hbt] at hpt; exact hpt.elim
        | true =>
        rw [hbt] at hpt
        refine newD_claims hpt fun g h h1 h2 L a w H t' hd hft next Q hn => run g h h1 h2 L a w H next Q fun v w' hbel hrep => ?_
        obtain ⟨xs, hown, hf, hr⟩ := hrep
        refine hn v w' v.ownBlock (capOf v) hbel (fun b hb => ⟨(hown.lt b hb).1, (hown.lt b hb).2⟩) ?_
        refine row_of_own hown hf (fun k hk j x hx => (hr k hk j x hx).mono (Nat.le_refl _) fun b hlt hb => ⟨?_, rfl⟩) L t' (Nat.le_of_ble_eq_true hbt)
        obtain ⟨hb1, hb2⟩ := hb
        have hgb : good C L h w' b := by
          rcases hb1 with hb | ⟨hb1, hb3⟩
          · exact ⟨Nat.lt_of_lt_of_le hb.1 hbel.size, hb.2⟩
          · exact newgood H hbel b hb1 hb3
        refine ⟨hgb.1, hgb.2.1, ?_⟩
        rintro ⟨i, oi, h1, h2⟩
        unfold hput at h1
        split at h1
        · rename_i hi
          simp only [Lay.upd, hi, if_true] at h2
          exact hb2 h2
        · rename_i hi
          simp only [Lay.upd, hi, if_false] at h2
          exact hgb.2.2 ⟨i, oi, h1, h2⟩
    | any => exact plain (r := .any) hpt run
    | d x => exact plain (r := .d x) hpt run
    | agg l => exact plain (r := .agg l) hpt run
    | tup l => exact plain (r := .tup l) hpt run
    | fn f l => exact plain (r := .fn f l) hpt run
    | eptr a1 a2 a3 a4 a5 => exact plain (r := .eptr a1 a2 a3 a4 a5) hpt run
    | ptr a1 a2 => exact plain (r := .ptr a1 a2) hpt run
    | rsl a1 a2 a3 a4 => exact plain (r := .rsl a1 a2 a3 a4) hpt run
    | rptr a1 a2 a3 a4 => exact plain (r := .rptr a1 a2 a3 a4) hpt run
    | mref a1 => exact plain (r := .mref a1) hpt run
  have fin : AResD C.nt o.dst rt rh env heap k (aop T (restrict rt (lk env)) (restrictH rh (lko heap)) o.op) → Claims C rt o env heap k := by
    intro ares
    cases hr : aop T (restrict rt (lk env)) (restrictH rh (lko heap)) o.op with
    | none => rw [hr] at ares; exact ares.elim
    | some r =>
      rw [hr] at ares
      have hok : ∀ g h, (∀ t ∈ rt, g t = lk env t) → (∀ i ∈ rh, h i = lko heap i) → ∀ L a w, Rel C L g h a w → r.Ok C.P w (good C L h w) L (restrict rt g) (restrictH rh h) a o := by
        intro g h h1 h2 L a w H
        refine aop_ok hT (H.holds.restrict rt rh) ?_
        rw [restrict_eq h1, restrictH_eq h2]
        exact hr
      have free_restrict : ∀ {g : Nat → AVal} {d : Nat}, (∀ s, (g s).free d = true) → ∀ s, (restrict rt g s).free d = true := by
        intro g d hf s
        unfold restrict
        cases memN s rt with
        | true => exact hf s
        | false => rfl
      have vals : ∀ {v : AVal}, putD C.nt o.dst v rt rh env heap k → (∀ g h, (∀ t ∈ rt, g t = lk env t) → (∀ i ∈ rh, h i = lko heap i) → ∀ L a w, Rel C L g h a w → ∃ u, (execOp a.eval o).run C.P w = .ok (.value u) w ∧ RepA w L (good C L h w) v u) → Claims C rt o env heap k := by
        intro v hk hv
        refine putD_claims hk fun g h h1 h2 L a w H next Q hn => ?_
        obtain ⟨u, e1, e2⟩ := hv g h h1 h2 L a w H
        unfold Oper.wp
        rw [e1, Oper.upon_value]
        exact hn u w H e2
      have news : ∀ {ob : AObj} {v : Nat → AVal}, newD C.nt o.dst ob v rt rh env heap k → (∀ g h, (∀ t ∈ rt, g t = lk env t) → (∀ i ∈ rh, h i = lko heap i) → ∀ L a w, Rel C L g h a w → ∀ d, o.dst = some d → (∀ s, (g s).free d = true) → MakesOk C.P w (good C L h w) L a o d (v d) ob) → Claims C rt o env heap k := by
        intro ob v hk hv
        refine newD_claims hk fun g h h1 h2 L a w H t hd hft next Q hn => ?_
        obtain ⟨w', nb, nc, u, r1, r2, r3, r4⟩ := hv g h h1 h2 L a w H t hd hft
        unfold Oper.wp
        rw [r1, Oper.upon_value]
        exact hn u w' nb nc r2 r3 (r4 _ (stays_new (C := C) (L := L) (h := h) (id := t) (nb := nb) (nc := nc) r2 r3 ob) (H.new_good (nb := nb) (nc := nc)))
      cases r with
      | val v => exact vals ares (fun g h h1 h2 L a w H => hok g h h1 h2 L a w H)
      | cond v c => exact vals ares.2 (fun g h h1 h2 L a w H => hok g h h1 h2 L a w H ares.1)
      | new ob => exact news ares (fun g h h1 h2 L a w H d _ hf => hok g h h1 h2 L a w H d (free_restrict hf))
      | newv ob v c =>
        cases c with
        | none => exact news ares (fun g h h1 h2 L a w H d _ hf => hok g h h1 h2 L a w H (fun q hq => by cases hq) d (free_restrict hf))
        | some c => exact news ares.2 (fun g h h1 h2 L a w H d _ hf => hok g h h1 h2 L a w H (fun q hq => by cases hq; exact ares.1) d (free_restrict hf))
      | set id ob =>
        refine setD_claims ares (fun g h h1 h2 L a w H => ?_) rfl
        obtain ⟨⟨o0, ho0⟩, hw⟩ := hok g h h1 h2 L a w H
        exact ⟨⟨o0, restrictH_some ho0⟩, hw⟩
      | setc id ob c =>
        refine setD_claims ares.2 (fun g h h1 h2 L a w H => ?_) rfl
        obtain ⟨⟨o0, ho0⟩, hw⟩ := hok g h h1 h2 L a w H
        exact ⟨⟨o0, restrictH_some ho0⟩, hw ares.1⟩
      | mkrow t sz n f c =>
        cases c with
        | none => exact news ares (fun g h h1 h2 L a w H d _ _ => hok g h h1 h2 L a w H (fun q hq => by cases hq) d)
        | some c => exact news ares.2 (fun g h h1 h2 L a w H d _ _ => hok g h h1 h2 L a w H (fun q hq => by cases hq; exact ares.1) d)
      | ndb c => exact ares.elim
      | pub id v => exact ares.elim
      | str c =>
        obtain ⟨l, hc, hk⟩ := ares
        exact vals hk (fun g h h1 h2 L a w H => hok g h h1 h2 L a w H l hc)
      | app old t sz n f c =>
        obtain ⟨hc, hk⟩ := ares
        unfold appD at hk
        cases hd : o.dst with
        | none => rw [hd] at hk; exact hk.elim
        | some t' =>
          rw [hd] at hk
          simp only at hk
          cases hb : Nat.blt t' C.nt with
          | false => rw [hb] at hk; exact hk.elim
          | true =>
            rw [hb] at hk
            simp only at hk
            cases hbo : Nat.beq t' old with
            | true => rw [hbo] at hk; exact hk.elim
            | false =>
              rw [hbo] at hk
              simp only at hk
              have hne : t' ≠ old := fun e => by subst e; rw [beq_self] at hbo; cases hbo
              cases hl : lookO t' heap with
              | some _ => rw [hl] at hk; exact hk.elim
              | none =>
                rw [hl] at hk
                have hk := forceH_eq hk
                refine ⟨_, _, _, hk, rfl, by rw [lk_cons, Rc.g_one], ?_, fun g h ha L a w H next Q hn => ?_⟩
                · rw [lko_cons, lko_rem, Rc.h_two]; rfl
                · have hft := ha.ft t' (by simp)
                  have hfo := ha.fo t' (by simp)
                  obtain ⟨⟨t0, sz0, n0, f0, hold⟩, hmv⟩ := hok g h ha.t (fun i hi => ha.o i (by simp [hi])) L a w H
                  have hold := restrictH_some hold
                  obtain ⟨w', nb, nc, u, r1, r2, r3, r4, r5, r6, r7, r8⟩ := hmv hc (fun b hb hg => hg.2.2 ⟨old, _, hold, hb⟩)
                  obtain ⟨hsw, hst⟩ := H.swap (d := t') (o := .row t sz n f) (H.lid_slot (blt_lt hb)) hne hold hft hfo r2 r3 r4 r5 r6 nb nc r7 (fun gd' hst => (r8 t' gd' hst).1)
                  have hu := (r8 t' _ hst).2
                  unfold Oper.wp
                  rw [r1, Oper.upon_value, hd]
                  refine hn (L.upd t' nb nc) _ w' ?_
                  rw [Rc.g_one, Rc.h_two]
                  exact hsw.put (blt_lt hb) hu
      | appv old t cells c =>
        obtain ⟨hc, hk⟩ := ares
        obtain ⟨tf, hdf, hfr, hk⟩ := chkV_ok hk
        unfold appD at hk
        cases hd : o.dst with
        | none => rw [hd] at hk; exact hk.elim
        | some t' =>
          obtain rfl : tf = t' := Option.some.inj (hdf.symm.trans hd)
          rw [hd] at hk
          simp only at hk
          cases hb : Nat.blt tf C.nt with
          | false => rw [hb] at hk; exact hk.elim
          | true =>
            rw [hb] at hk
            simp only at hk
            cases hbo : Nat.beq tf old with
            | true => rw [hbo] at hk; exact hk.elim
            | false =>
              rw [hbo] at hk
              simp only at hk
              have hne : tf ≠ old := fun e => by subst e; rw [beq_self] at hbo; cases hbo
              cases hl : lookO tf heap with
              | some _ => rw [hl] at hk; exact hk.elim
              | none =>
                rw [hl] at hk
                have hk := forceH_eq hk
                refine ⟨_, _, _, hk, rfl, by rw [lk_cons, Rc.g_one], ?_, fun g h ha L a w H next Q hn => ?_⟩
                · rw [lko_cons, lko_rem, Rc.h_two]; rfl
                · have hft := ha.ft tf (by simp)
                  have hfo := ha.fo tf (by simp)
                  obtain ⟨⟨t0, c0, hold⟩, hmv⟩ := hok g h ha.t (fun i hi => ha.o i (by simp [hi])) L a w H
                  have hold := restrictH_some hold
                  obtain ⟨w', nb, nc, u, r1, r2, r3, r4, r5, r6, r7, r8⟩ := hmv hc (fun b hb hg => hg.2.2 ⟨old, _, hold, hb⟩)
                  obtain ⟨hsw, hst⟩ := H.swap (d := tf) (o := .vrow t cells) (H.lid_slot (blt_lt hb)) hne hold hft hfo r2 r3 r4 r5 r6 nb nc r7 (fun gd' hst => (r8 tf gd' hfr hst fun b hb => r6 b (H.old_lt hb) (fun e => H.old_own hb hold e.symm)).1)
                  have hu := (r8 tf _ hfr hst fun b hb => r6 b (H.old_lt hb) (fun e => H.old_own hb hold e.symm)).2
                  unfold Oper.wp
                  rw [r1, Oper.upon_value, hd]
                  refine hn (L.upd tf nb nc) _ w' ?_
                  rw [Rc.g_one, Rc.h_two]
                  exact hsw.put (blt_lt hb) hu
      | mget ky l z ok =>
        obtain ⟨f, hf, hk⟩ := ares
        exact vals hk (fun g h h1 h2 L a w H => hok g h h1 h2 L a w H f hf)
      | mput id ky x l =>
        obtain ⟨f, hf, l', rfl, hk⟩ := ares
        refine setD_claims hk (fun g h h1 h2 L a w H => ?_) rfl
        obtain ⟨⟨o0, ho0⟩, hw⟩ := hok g h h1 h2 L a w H
        exact ⟨⟨o0, restrictH_some ho0⟩, hw f hf⟩
      | mdel id ky l =>
        obtain ⟨f, hf, l', rfl, hk⟩ := ares
        refine setD_claims hk (fun g h h1 h2 L a w H => ?_) rfl
        obtain ⟨⟨o0, ho0⟩, hw⟩ := hok g h h1 h2 L a w H
        exact ⟨⟨o0, restrictH_some ho0⟩, hw f hf⟩
      | mkv t cells c =>
        obtain ⟨hc, hk⟩ := ares
        obtain ⟨tf, hdf, hfr, hk⟩ := chkV_ok hk
        exact news hk (fun g h h1 h2 L a w H d hd _ => hok g h h1 h2 L a w H hc d (by obtain rfl : tf = d := Option.some.inj (hdf.symm.trans hd); exact hfr))
  unfold AStepD at hk
  split at hk
  · rename_i f as ts hop
    split at hk
    · split at hk
      · rename_i fid caps e
        obtain ⟨l, p, hk, hlen, _, hargs⟩ := lendK_st hk
        have hk := forceH_eq hk
        exact lendD_claims hop e hlen hargs hk
      · exact hk.elim
    split at hk
    · rename_i fid caps e
      obtain ⟨l, b, ⟨r, ⟨⟨fn, c, e1, e2, e3⟩, hcalls⟩, hpt⟩, hl, hargs⟩ := argK_st hk
      have hname : fn.name ≠ "runtime.NumGoroutine" := by simpa using e2
      have run : ∀ g h, (∀ t ∈ rt, g t = lk env t) → (∀ i ∈ rh, h i = lko heap i) → ∀ L a w, Rel C L g h a w → ∀ (next : Act → World → Prop) (Q : Exit → Act → World → Prop),
          (∀ v w', Below w.heap.size w w' → RepR w w' (seen (good C L h w) w b) r v → next (a.put o.dst v) w') → o.wp C.P a w next Q := by
        intro g h h1 h2 L a w H next Q hn
        have hH : Holds w (good C L h w) L (restrict rt (lk env)) (restrictH rh (lko heap)) a := by
          rw [← restrict_eq h1, ← restrictH_eq h2]
          exact H.holds.restrict rt rh
        have hf := hH.opnd f
        have e' : opnd (restrict rt (lk env)) f = .fn fid caps := e
        rw [e'] at hf
        generalize hfv : a.eval f = fv at hf
        cases hf with
        | @fn _ _ _ cvs hcz hcr =>
          have hrun : (execOp a.eval o).run C.P w = .ok (.enter fid (as.map a.eval ++ cvs)) w := by
            simp [execOp, hop, resolve, hfv, Deferred.ofValue, invoke, callFunc, e1, hname, e3]
          unfold Oper.wp
          rw [hrun, Oper.upon_enter]
          have hR : ∀ b', seen (good C L h w) w b b' → b' < w.heap.size := by
            intro b' hb'
            cases b with
            | true => exact hb'.1
            | false => exact hb'
          have B : Begins w (good C L h w) L (restrict rt (lk env)) (restrictH rh (lko heap)) a := ⟨hH, fun b hb => hb.1, fun b hb => H.old_lt hb, fun id o b e1 e2 => (H.own0 id o b (by rw [← restrictH_eq h2] at e1; exact restrictH_some e1) e2).2⟩
          refine (hcalls w (seen (good C L h w) w b) (as.map a.eval ++ cvs) (H.goodW.seen b) hR (by simp [hl, hcz]) (fun i x hx => by
            have := hargs w _ L a cvs B hcz hcr b id i x hx
            simpa [Array.getD_eq_getD_getElem?, List.getD_eq_getElem?_getD, Array.getElem?_append, List.getElem?_append] using this)).mono ?_
          rintro e' w' ⟨v, r', rfl, hr, hbel, hrep⟩
          subst hr
          exact hn v w' hbel hrep
      exact tail hpt run
    · rename_i fid n ds e
      obtain ⟨l, b, ⟨r, ⟨⟨fn, c, e1, e2, e3⟩, hcalls⟩, hpt⟩, hl, hargs⟩ := argK_st hk
      have hname : fn.name ≠ "runtime.NumGoroutine" := by simpa using e2
      have run : ∀ g h, (∀ t ∈ rt, g t = lk env t) → (∀ i ∈ rh, h i = lko heap i) → ∀ L a w, Rel C L g h a w → ∀ (next : Act → World → Prop) (Q : Exit → Act → World → Prop),
          (∀ v w', Below w.heap.size w w' → RepR w w' (seen (good C L h w) w b) r v → next (a.put o.dst v) w') → o.wp C.P a w next Q := by
        intro g h h1 h2 L a w H next Q hn
        have hH : Holds w (good C L h w) L (restrict rt (lk env)) (restrictH rh (lko heap)) a := by
          rw [← restrict_eq h1, ← restrictH_eq h2]
          exact H.holds.restrict rt rh
        have hf := hH.opnd f
        have e' : opnd (restrict rt (lk env)) f = .d (.cl fid n ds) := e
        rw [e'] at hf
        generalize hfv : a.eval f = fv at hf
        cases hf with
        | d hcl =>
          have B : Begins w (good C L h w) L (restrict rt (lk env)) (restrictH rh (lko heap)) a := ⟨hH, fun b hb => hb.1, fun b hb => H.old_lt hb, fun id o b e1 e2 => (H.own0 id o b (by rw [← restrictH_eq h2] at e1; exact restrictH_some e1) e2).2⟩
          obtain ⟨cvs, rfl, hcz, hall⟩ := cl_args hcl (l := l) (xs := as.map a.eval) (gd'' := seen (good C L h w) w b) (by simpa using hl) (fun b' hb' => by
            cases b with
            | true => exact hb'
            | false => exact hb'.1) (fun i x hx => by
            have := hargs w _ L a #[] B rfl (fun i x hx => by simp at hx) b id i x hx
            simpa [Array.getD_eq_getD_getElem?, List.getD_eq_getElem?_getD] using this)
          have hrun : (execOp a.eval o).run C.P w = .ok (.enter fid (as.map a.eval ++ cvs)) w := by
            simp [execOp, hop, resolve, hfv, Deferred.ofValue, invoke, callFunc, e1, hname, e3]
          unfold Oper.wp
          rw [hrun, Oper.upon_enter]
          have hR : ∀ b', seen (good C L h w) w b b' → b' < w.heap.size := by
            intro b' hb'
            cases b with
            | true => exact hb'.1
            | false => exact hb'
          refine (hcalls w (seen (good C L h w) w b) (as.map a.eval ++ cvs) (H.goodW.seen b) hR (by simp [hl, hcz, (capsF_get n 0 ds).1]) hall).mono ?_
          rintro e' w' ⟨v, r', rfl, hr, hbel, hrep⟩
          subst hr
          exact hn v w' hbel hrep
      exact tail hpt run
    · exact hk.elim
  · rename_i src dst x hop
    split at hk
    · rename_i l e
      obtain ⟨hl, hk⟩ := hk
      obtain ⟨e1, e2, e, e3, e4⟩ := convS_some hT e
      refine tail hk fun g h h1 h2 L a w H next Q hn => ?_
      have hH : Holds w (good C L h w) L (restrict rt (lk env)) (restrictH rh (lko heap)) a := by
        rw [← restrict_eq h1, ← restrictH_eq h2]
        exact H.holds.restrict rt rh
      have e1 : opnd (restrict rt (lk env)) x = .d (.s l) := e1
      have hx : a.eval x = .string ⟨l.toArray⟩ := repA_s (e1 ▸ hH.opnd x)
      obtain ⟨v, w', r1, r2, r3⟩ := conv_bytes (P := C.P) w (seen (good C L h w) w true) l e2 e3 e4 hl
      unfold Oper.wp
      rw [show (execOp a.eval o).run C.P w = .ok (.value v) w' from by simp [execOp, hop, hx, r1, Result.andThen], Oper.upon_value]
      exact hn v w' r2 ⟨rfl, r3⟩
    · exact fin (by rw [hop]; exact hk)
  · exact fin hk
end
end Towline
