/- The engine, part ten: code run as far as it goes. Over any program. -/
import Derived.Test.YtjdmnfjgmbnlbaaGreatDoorEngK4
import Derived.Scope
import Derived.LoopN
namespace Towline
open Go Go.RowKit
set_option linter.unusedVariables false

/-- A loop that is still to be run. -/
structure ALoop (C : Ctx) (c : Code) (Q : Exit → Env → Heap → Prop) (env : Env) (heap : Heap) : Prop where
  out : AWp C (.loop c) Q env heap
/-- Code, run as far as plain data say: loops are left. -/
def ARun (C : Ctx) (T : Tys) : Code → (Exit → Env → Heap → Prop) → Env → Heap → Prop
  | .skip, Q, env, heap => Q .normal env heap
  | .region _ ops draw, Q, env, heap => match draw with
    | false => AOps C.P T C.nt ops (Q .normal) ops.toList env heap
    | true => AOpsD C.P T C.nt ops (fun recs env' heap' => drawOk ops.toList recs.reverse env heap = true ∧ Q .normal env' heap') ops.toList [] env heap
  | .seq x y, Q, env, heap => ARun C T x (fun e env heap => match e with | .normal => ARun C T y Q env heap | e => Q e env heap) env heap
  | .cond c x y, Q, env, heap => match opnd (fun t => look t env) c with
    | .d (.b b) => match b with
      | true => ARun C T x Q env heap
      | false => ARun C T y Q env heap
    | _ => False
  | .block id x, Q, env, heap => ARun C T x (fun e env heap => match e with | .exit i => (match Nat.beq i id with | true => Q .normal env heap | false => Q (.exit i) env heap) | e => Q e env heap) env heap
  | .loop c, Q, env, heap => ALoop C c Q env heap
  | .exit id, Q, env, heap => Q (.exit id) env heap
  | .ret, Q, env, heap => Q .ret env heap
  | .rangeFunc .., _, _, _ => False
  | .scope x, Q, env, heap => ARun C T x (fun e env heap => match e with | .goto _ => False | e => Q e env heap) env heap
  | .label _, Q, env, heap => Q .normal env heap
  | .goto _, _, _, _ => False
  | .refuse _, _, _, _ => False
section
variable {C : Ctx} {T : Tys}
theorem ARun_ok (hT : TysOk C.P T) (hM : C.P.follows .mixedOrders = true) : ∀ {c : Code} {Q : Exit → Env → Heap → Prop} {env : Env} {heap : Heap}, ARun C T c Q env heap → AWp C c Q env heap := by
  intro c
  induction c with
  | skip => exact fun h => AWp.skip h
  | region id ops draw =>
    intro Q env heap h
    cases draw with
    | false => exact AWp.region hT h
    | true => exact AWp.draw hT hM h
  | seq x y ihx ihy =>
    intro Q env heap h
    refine AWp.seq ((ihx h).mono fun e env heap h => ?_)
    cases e with
    | normal => exact ihy h
    | _ => exact h
  | cond c x y ihx ihy =>
    intro Q env heap h
    simp only [ARun] at h
    split at h
    · rename_i b e
      refine AWp.cond e (fun hb => ihx ?_) (fun hb => ihy ?_)
      · subst hb; exact h
      · subst hb; exact h
    · exact h.elim
  | block id x ih => intro Q env heap h; exact AWp.block (ih h)
  | loop c ih => exact fun h => h.out
  | exit id => exact fun h => AWp.exit h
  | ret => exact fun h => AWp.ret h
  | label l => exact fun h => fun L a w hr => wp_label ⟨L, _, _, hr, h⟩
  | scope x ih =>
    intro Q env heap h L a w hr
    refine wp_scope_straight (wp_mono (ih h L a w hr) fun e a' w' ⟨L', env', heap', h1, h2⟩ => ?_)
    cases e with
    | goto l => exact h2.elim
    | _ => exact ⟨L', env', heap', h1, h2⟩
  | _ => exact fun h => h.elim
/-- What is left of slots and objects. -/
def CovE (env : Env) : Env → Prop → Prop
  | [], p => p
  | (t, v) :: r, p => forceV (fun x => x.le v) (look t env) ∧ CovE env r p
def CovH (heap : Heap) : Heap → Prop
  | [] => True
  | (t, o) :: r => (match lookO t heap with | some o' => OLe o' o | none => False) ∧ CovH heap r
theorem CovE_ok {env : Env} {p : Prop} : ∀ {e : Env}, CovE env e p → (∀ t, (look t env).le (look t e)) ∧ p
  | [], h => ⟨fun t => ⟨fun w L gd v _ => .any⟩, h⟩
  | (s, v) :: r, h => by
    obtain ⟨h1, h2⟩ := CovE_ok h.2
    refine ⟨fun t => ?_, h2⟩
    rw [look_cons]
    split
    · rename_i e; rw [e]; exact forceV_eq (k := fun x => x.le v) h.1
    · exact h1 t
theorem CovH_ok {heap : Heap} : ∀ {e : Heap}, CovH heap e → ∀ id o, lookO id e = some o → ∃ o', lookO id heap = some o' ∧ OLe o' o
  | [], h, id, o, e => by simp [lookO] at e
  | (s, v) :: r, h, id, o, e => by
    rw [lookO_cons] at e
    split at e
    · rename_i hs
      cases e
      rw [hs]
      have h1 := h.1
      cases hl : lookO s heap with
      | none => rw [hl] at h1; exact h1.elim
      | some o' => rw [hl] at h1; exact ⟨o', rfl, h1⟩
    · exact CovH_ok h.2 id o e
theorem Covers.mk' {env env' : Env} {heap heap' : Heap} (h : CovE env env' (CovH heap heap')) : Covers env heap env' heap' :=
  ⟨(CovE_ok h).1, CovH_ok (CovE_ok h).2⟩
theorem ALoop.intro {X : Type} {c : Code} {Q : Exit → Env → Heap → Prop} {env : Env} {heap : Heap} (hT : TysOk C.P T) (hM : C.P.follows .mixedOrders = true) (S : X → Env × Heap) (μ : X → Nat) (x0 : X) (h0 : CovE env (S x0).1 (CovH heap (S x0).2))
    (round : ∀ x, ARun C T c (fun e env' heap' => match e with | .normal => ∃ x', μ x' < μ x ∧ CovE env' (S x').1 (CovH heap' (S x').2) | e => Q e env' heap') (S x).1 (S x).2) : ALoop C c Q env heap :=
  ⟨AWp.loop (fun x => (S x).1) (fun x => (S x).2) μ x0 (Covers.mk' h0) fun x => (ARun_ok hT hM (round x)).mono fun e env' heap' h => by
    cases e with
    | normal => obtain ⟨x', h1, h2⟩ := h; exact ⟨x', h1, Covers.mk' h2⟩
    | _ => exact h⟩
/-- A loop, n rounds at most, each as it comes. -/
def ARounds (C : Ctx) (T : Tys) (c : Code) (Q : Exit → Env → Heap → Prop) : Nat → Env → Heap → Prop
  | 0, _, _ => False
  | n + 1, env, heap => ARun C T c (fun e env heap => match e with | .normal => ARounds C T c Q n env heap | e => Q e env heap) env heap
theorem ARounds_ok (hT : TysOk C.P T) (hM : C.P.follows .mixedOrders = true) {c : Code} {Q : Exit → Env → Heap → Prop} : ∀ (n : Nat) {env : Env} {heap : Heap}, ARounds C T c Q n env heap → ∀ L a w, Rel C L (lk env) (lko heap) a w →
    Code.rounds C.P c (fun e a w => ∃ L env heap, Rel C L (lk env) (lko heap) a w ∧ Q e env heap) n a w
  | 0, env, heap, h, L, a, w, H => h.elim
  | n + 1, env, heap, h, L, a, w, H => by
    have h1 := ARun_ok hT hM h L a w H
    rw [rounds_succ]
    refine wp_mono h1 fun e a' w' ⟨L', env', heap', k1, k2⟩ => ?_
    cases e with
    | normal => exact ARounds_ok hT hM n k2 L' a' w' k1
    | _ => exact ⟨L', env', heap', k1, k2⟩
theorem ALoop.rounds (hT : TysOk C.P T) (hM : C.P.follows .mixedOrders = true) (n : Nat) {c : Code} {Q : Exit → Env → Heap → Prop} {env : Env} {heap : Heap} (h : ARounds C T c Q n env heap) : ALoop C c Q env heap :=
  ⟨fun L a w H => wp_loop_rounds n (ARounds_ok hT hM n h L a w H)⟩
/-- Some slots, all others forgotten. -/
def keepE (k : Env → Prop) (env : Env) : List Nat → Prop
  | [] => k []
  | t :: r => forceV (fun v => keepE (fun e => k ((t, v) :: e)) env r) (look t env)
def keepH (k : Heap → Prop) (heap : Heap) : List Nat → Prop
  | [] => k []
  | i :: r => match lookO i heap with | some o => keepH (fun h => k ((i, o) :: h)) heap r | none => keepH k heap r
theorem keepE_ok {env : Env} : ∀ {l : List Nat} {k : Env → Prop}, keepE k env l → ∃ e, k e ∧ ∀ t, look t e = look t env ∨ look t e = .any
  | [], k, h => ⟨[], h, fun t => .inr rfl⟩
  | s :: r, k, h => by
    obtain ⟨e, h1, h2⟩ := keepE_ok (forceV_eq (k := fun v => keepE (fun e => k ((s, v) :: e)) env r) h)
    refine ⟨_, h1, fun t => ?_⟩
    rw [look_cons]
    split
    · rename_i e; rw [e]; exact .inl rfl
    · exact h2 t
theorem keepH_ok {heap : Heap} : ∀ {l : List Nat} {k : Heap → Prop}, keepH k heap l → ∃ h, k h ∧ ∀ i o, lookO i h = some o → lookO i heap = some o
  | [], k, h => ⟨[], h, fun i o e => by simp [lookO] at e⟩
  | s :: r, k, h => by
    unfold keepH at h
    split at h
    · rename_i o ho
      obtain ⟨hp, h1, h2⟩ := keepH_ok h
      refine ⟨_, h1, fun i o' e => ?_⟩
      rw [lookO_cons] at e
      split at e
      · rename_i hi; cases e; rw [hi]; exact ho
      · exact h2 i o' e
    · exact keepH_ok h
/-- A loop, n rounds at most, each as it comes; behind each round only the slots ks and the objects os are kept. -/
def ARoundsK (C : Ctx) (T : Tys) (c : Code) (Q : Exit → Env → Heap → Prop) (ks os : List Nat) : Nat → Env → Heap → Prop
  | 0, _, _ => False
  | n + 1, env, heap => ARun C T c (fun e env heap => match e with | .normal => keepE (fun env => keepH (fun heap => ARoundsK C T c Q ks os n env heap) heap os) env ks | e => Q e env heap) env heap
theorem ARoundsK_ok (hT : TysOk C.P T) (hM : C.P.follows .mixedOrders = true) {c : Code} {Q : Exit → Env → Heap → Prop} {ks os : List Nat} : ∀ (n : Nat) {env : Env} {heap : Heap}, ARoundsK C T c Q ks os n env heap → ∀ L a w, Rel C L (lk env) (lko heap) a w →
    Code.rounds C.P c (fun e a w => ∃ L env heap, Rel C L (lk env) (lko heap) a w ∧ Q e env heap) n a w
  | 0, env, heap, h, L, a, w, H => h.elim
  | n + 1, env, heap, h, L, a, w, H => by
    have h1 := ARun_ok hT hM h L a w H
    rw [rounds_succ]
    refine wp_mono h1 fun e a' w' ⟨L', env', heap', k1, k2⟩ => ?_
    cases e with
    | normal =>
      obtain ⟨e2, q1, q2⟩ := keepE_ok k2
      obtain ⟨h2, q3, q4⟩ := keepH_ok q1
      refine ARoundsK_ok hT hM n q3 L' a' w' (k1.weaken ⟨fun t => ?_, fun id o ho => ⟨o, q4 id o ho, OLe.refl o⟩⟩)
      rcases q2 t with q | q
      · rw [q]; exact .refl _
      · rw [q]; exact ⟨fun w L gd v _ => .any⟩
    | _ => exact ⟨L', env', heap', k1, k2⟩
theorem ALoop.roundsK (hT : TysOk C.P T) (hM : C.P.follows .mixedOrders = true) (n : Nat) (ks os : List Nat) {c : Code} {Q : Exit → Env → Heap → Prop} {env : Env} {heap : Heap} (h : ARoundsK C T c Q ks os n env heap) : ALoop C c Q env heap :=
  ⟨fun L a w H => wp_loop_rounds n (ARoundsK_ok hT hM n h L a w H)⟩
/-- A slice of typed elements. -/
def slT {α : Type} [Inhabited α] (sz : Nat) (enc : α → List D) (l : List α) : D := .sl sz l.length fun k => enc (l.getD k default)
end
theorem not_memN {i : Nat} {l : List Nat} (h : memN i l = false) : i ∉ l := fun e => by rw [memN_of.2 e] at h; cases h
/-- A nil slice in a slot, taken for an empty row of the call's own. -/
theorem Rel.adopt {C : Ctx} {L : Lay} {g : Nat → AVal} {h : Nat → Option AObj} {a : Act} {w : World} (H : Rel C L g h a w) {s id sz : Nat} (hlid : id ∉ C.lid) {t : TypeId} {f : Nat → List D} (hs : g s = .d (.v (.slice none 0 0))) (he : ∀ t, (g t).free id = true) (hh : ∀ j o, h j = some o → j ≠ id ∧ o.free id = true) :
    Rel C (L.upd id none 0) (gput g s (.rsl id sz 0 0)) (hput h id (.row t sz 0 f)) a w := by
  have hnew := H.new hlid he hh (Below.refl _ w) none 0 (fun b h => by cases h) (o := .row t sz 0 f) (.row0 (by simp [Lay.upd]) (by simp [Lay.upd]))
  exact { hnew with
    slot := fun x => by
      unfold gput
      split
      · rename_i e
        have h1 := H.slot s
        rw [hs] at h1
        rw [e, repA_v h1]
        have : RepA w (L.upd id none 0) (good C (L.upd id none 0) (hput h id (.row t sz 0 f)) w) (.rsl id sz 0 0) (.slice (((L.upd id none 0).blk id).map fun b => ⟨b, 0 * sz, none⟩) 0 ((L.upd id none 0).cap id - 0)) := .rsl (by simp [Lay.upd]) (fun h => by omega) (fun _ => rfl)
        simpa [Lay.upd] using this
      · exact hnew.slot x }
theorem ALoop.adopt {C : Ctx} {c : Code} {Q : Exit → Env → Heap → Prop} {env : Env} {heap : Heap} (s id sz : Nat) (t : TypeId) (f : Nat → List D) (hs : look s env = .d (.v (.slice none 0 0))) (he : freeEnv id env = true) (hh : freeHeap id heap = true)
    (h : ALoop C c Q ((s, .rsl id sz 0 0) :: env) ((id, .row t sz 0 f) :: heap)) (hl : memN id C.lid = false := by rfl) : ALoop C c Q env heap := by
  refine ⟨fun L a w H => ?_⟩
  have hn := Rel.adopt H (not_memN hl) (s := s) (id := id) (sz := sz) (t := t) (f := f) hs (freeEnv_look he) (freeHeap_look hh)
  rw [← lk_cons, ← lko_cons] at hn
  exact h.out _ a w hn
/-- A nil slice in a cell of an object, taken for an empty row of the call's own. -/
theorem AWp.adoptCell {C : Ctx} {c : Code} {Q : Exit → Env → Heap → Prop} {env : Env} {heap heap' : Heap} (b i id sz : Nat) (t : TypeId) (f : Nat → List D) {cells : List AVal} {tag : Option TypeId} (hb : lookO b heap = some (.box cells tag)) (hs : cells[i]? = some (.d (.v (.slice none 0 0)))) (he : freeEnv id env = true) (hh : freeHeap id heap = true)
    (hset : setO b (.box (cells.set i (.rsl id sz 0 0)) tag) heap = some heap') (h : AWp C c Q env ((id, .row t sz 0 f) :: heap')) (hl : memN id C.lid = false := by rfl) : AWp C c Q env heap := by
  intro L a w H
  have hfree := freeHeap_look hh
  have hne : b ≠ id := (hfree b _ hb).1
  have hnew := H.new (not_memN hl) (freeEnv_look he) hfree (Below.refl _ w) none 0 (fun b h => by cases h) (o := .row t sz 0 f) (.row0 (by simp [Lay.upd]) (by simp [Lay.upd]))
  refine h (L.upd id none 0) a w ?_
  have hobj : hput (lko heap) id (.row t sz 0 f) b = some (.box cells tag) := by unfold hput; rw [if_neg hne]; exact hb
  have hgood : ∀ b', good C (L.upd id none 0) (hput (lko heap) id (.row t sz 0 f)) w b' → good C (L.upd id none 0) (lko ((id, .row t sz 0 f) :: heap')) w b' := by
    intro b' hgb
    refine ⟨hgb.1, hgb.2.1, ?_⟩
    rintro ⟨j, oj, h1, h2⟩
    rw [lko_cons, lko_set hset] at h1
    unfold hput at h1
    by_cases hj : j = id
    · exact hgb.2.2 ⟨j, .row t sz 0 f, by unfold hput; rw [if_pos hj], h2⟩
    · rw [if_neg hj] at h1
      by_cases hjb : j = b
      · exact hgb.2.2 ⟨b, .box cells tag, hobj, by rw [← hjb]; exact h2⟩
      · rw [if_neg hjb] at h1
        exact hgb.2.2 ⟨j, oj, by unfold hput; rw [if_neg hj]; exact h1, h2⟩
  have hlook : ∀ j oj, lko ((id, .row t sz 0 f) :: heap') j = some oj → (j = b ∧ oj = .box (cells.set i (.rsl id sz 0 0)) tag) ∨ hput (lko heap) id (.row t sz 0 f) j = some oj := by
    intro j oj hj
    rw [lko_cons, lko_set hset] at hj
    unfold hput at hj ⊢
    by_cases h1 : j = id
    · right; rw [if_pos h1] at hj ⊢; exact hj
    · rw [if_neg h1] at hj ⊢
      by_cases h2 : j = b
      · left; rw [if_pos h2] at hj; exact ⟨h2, (Option.some.inj hj).symm⟩
      · right; rw [if_neg h2] at hj; exact hj
  have hsome : ∀ j oj, lko ((id, .row t sz 0 f) :: heap') j = some oj → ∃ o', hput (lko heap) id (.row t sz 0 f) j = some o' := by
    intro j oj hj
    rcases hlook j oj hj with ⟨rfl, _⟩ | h
    · exact ⟨_, hobj⟩
    · exact ⟨_, h⟩
  exact { hnew with
    slot := fun x => (hnew.slot x).mono1 (Nat.le_refl _) (fun b' _ hb' => ⟨hgood b' hb', rfl⟩) (fun _ _ => rfl)
    obj := fun j oj hj => by
      have mono : ∀ {o}, RepO w (good C (L.upd id none 0) (hput (lko heap) id (.row t sz 0 f)) w) (L.upd id none 0) j o → RepO w (good C (L.upd id none 0) (lko ((id, .row t sz 0 f) :: heap')) w) (L.upd id none 0) j o := fun h =>
        h.mono (Nat.le_refl _) (fun b' _ hb' => ⟨hgood b' hb', rfl⟩) (fun _ _ => rfl) (fun b _ hb => ⟨hb, rfl⟩) (fun _ => true) (fun _ _ => ⟨rfl, rfl⟩) rfl (fun _ h => by cases h)
      rcases hlook j oj hj with ⟨rfl, rfl⟩ | h
      · have hro := hnew.obj _ _ hobj
        refine mono ?_
        cases hro with
        | box htag hbk hheap hz h1 hr =>
          refine .box htag hbk hheap (by simpa using hz) (fun q hq => h1 q (by simpa using hq)) (fun q y hy => ?_)
          rw [List.getElem?_set] at hy
          split at hy
          · rename_i e
            subst e
            split at hy
            · cases hy
              have hv := hr i _ hs
              rw [repA_v hv]
              have : RepA w (L.upd id none 0) (good C (L.upd id none 0) (hput (lko heap) id (.row t sz 0 f)) w) (.rsl id sz 0 0) (.slice (((L.upd id none 0).blk id).map fun b => ⟨b, 0 * sz, none⟩) 0 ((L.upd id none 0).cap id - 0)) := .rsl (by simp [Lay.upd]) (fun h => by omega) (fun _ => rfl)
              simpa [Lay.upd] using this
            · cases hy
          · exact hr q y hy
      · exact mono (hnew.obj j oj h)
    inj := fun x y ox oy b' h1 h2 => by
      obtain ⟨o1, e1⟩ := hsome x ox h1
      obtain ⟨o2, e2⟩ := hsome y oy h2
      exact hnew.inj x y o1 o2 b' e1 e2
    own0 := fun x ox b' h1 => by
      obtain ⟨o1, e1⟩ := hsome x ox h1
      exact hnew.own0 x o1 b' e1
    kept := fun x ox hl' h1 => by
      obtain ⟨o1, e1⟩ := hsome x ox h1
      exact hnew.kept x o1 hl' e1 }
/-- A nil slice in a cell of an object, taken for an empty row of the call's own. -/
theorem ALoop.adoptCell {C : Ctx} {c : Code} {Q : Exit → Env → Heap → Prop} {env : Env} {heap heap' : Heap} (b i id sz : Nat) (t : TypeId) (f : Nat → List D) {cells : List AVal} {tag : Option TypeId} (hb : lookO b heap = some (.box cells tag)) (hs : cells[i]? = some (.d (.v (.slice none 0 0)))) (he : freeEnv id env = true) (hh : freeHeap id heap = true)
    (hset : setO b (.box (cells.set i (.rsl id sz 0 0)) tag) heap = some heap') (h : ALoop C c Q env ((id, .row t sz 0 f) :: heap')) (hl : memN id C.lid = false := by rfl) : ALoop C c Q env heap :=
  ⟨AWp.adoptCell b i id sz t f hb hs he hh hset h.out hl⟩
/-- Slices that hold the same. -/
theorem AVal.le.sl {sz n m : Nat} {f g : Nat → List D} (hn : n = m) (h : ∀ k, k < n → f k = g k) : (AVal.d (.sl sz n f)).le (.d (.sl sz m g)) := by
  subst hn
  refine ⟨fun w L gd v hv => ?_⟩
  have hd := repA_sl hv
  cases hd with
  | sl0 _ _ A c hc => exact .d (.sl0 _ _ _ _ hc)
  | sl _ _ _ b o c cs hn hc hm hg hb hz hcell hrep => exact .d (.sl _ _ _ b o c cs hn hc hm hg hb (fun k hk => by rw [← h k hk]; exact hz k hk) hcell (fun k hk j x hx => hrep k hk j x (by rw [h k hk]; exact hx)))
theorem AVal.le.nil {sz : Nat} {f : Nat → List D} : (AVal.d (.v (.slice none 0 0))).le (.d (.sl sz 0 f)) := ⟨fun w L gd v hv => by rw [repA_v hv]; exact .d (.sl0 _ _ _ _ (by decide))⟩
theorem AVal.le.agg {l m : List AVal} (h : OLe.CLe l m) : (AVal.agg l).le (.agg m) := by
  refine ⟨fun w L gd v hv => ?_⟩
  obtain ⟨vs, rfl, k1, k2, k3⟩ := repA_agg hv
  obtain ⟨e1, e2⟩ := CLe_get h
  refine .agg (by omega) (fun i hi => k2 i (by omega)) fun i y hy => ?_
  obtain ⟨x, hx, hle⟩ := e2 i y hy
  exact hle.out _ _ _ _ (k3 i x hx)
theorem AVal.le.tup {l m : List AVal} (h : OLe.CLe l m) : (AVal.tup l).le (.tup m) := by
  refine ⟨fun w L gd v hv => ?_⟩
  obtain ⟨e1, e2⟩ := CLe_get h
  cases hv with
  | tup hz hr =>
    refine .tup (by omega) fun i y hy => ?_
    obtain ⟨x, hx, hle⟩ := e2 i y hy
    exact hle.out _ _ _ _ (hr i x hx)
theorem AVal.le.any (x : AVal) : x.le .any := ⟨fun _ _ _ _ _ => .any⟩
theorem PSpec.argsC {P : Program} {f : FuncId} {args args' : List AVal} {post : AVal → Prop} (h : PSpec P f args post) (hc : OLe.CLe args' args) : PSpec P f args' post := by
  obtain ⟨h1, h2⟩ := CLe_get hc
  refine h.args h1.symm fun i x x' hx hx' => ?_
  obtain ⟨y, hy, hle⟩ := h2 i x hx
  rw [hx'] at hy
  cases hy
  exact hle
/-- A whole function, run; its answer may be said in other words. -/
theorem PSpec.run {P : Program} {T : Tys} {f : FuncId} {fn : Func} {c : Code} {args : List AVal} {post : AVal → Prop} (hT : TysOk P T) (hM : P.follows .mixedOrders = true) (hf : P.funcs[f]? = some fn) (hname : (fn.name == "runtime.NumGoroutine") = false) (hb : fn.body = some c) {nt : Nat} (hn : fn.ntmps = nt) (ha : args.length ≤ nt)
    {rs : List ResultVar} (hrs : fn.results.toList = rs) (h : ∀ w0 R0 hG, ARun ⟨P, nt, w0, R0, [], L0 0, hG⟩ T c (fun e env heap => match e with | .normal => resK T (fun t => look t env) (fun i => lookO i heap) (postL fun r => ∃ r', r.le r' ∧ post r' ∧ r'.data = true) rs | .ret => resK T (fun t => look t env) (fun i => lookO i heap) (postL fun r => ∃ r', r.le r' ∧ post r' ∧ r'.data = true) rs | _ => False) (argEnv 0 args) []) :
    PSpec P f args post := by
  refine (PSpec.intro hT hf hname hb hn ha hrs fun w0 R0 hG => ARun_ok (C := ⟨P, nt, w0, R0, [], L0 0, hG⟩) hT hM (h w0 R0 hG)).weaken (fun r ⟨⟨r', h1, h2, h3⟩, _⟩ hd => ⟨r', h1, h2, h3⟩) ?_
  rintro t sz n g ⟨_, h3⟩
  cases h3
theorem PSpec.runF {P : Program} {T : Tys} {f : FuncId} {fn : Func} {c : Code} {args : List AVal} {post : AVal → Prop} (hT : TysOk P T) (hM : P.follows .mixedOrders = true) (hf : P.funcs[f]? = some fn) (hname : (fn.name == "runtime.NumGoroutine") = false) (hb : fn.body = some c) {nt : Nat} (hn : fn.ntmps = nt) (ha : args.length ≤ nt)
    {t : Nat} (hrs : fn.results = #[.tmp t]) (h : ∀ w0 R0 hG, ARun ⟨P, nt, w0, R0, [], L0 0, hG⟩ T c (fun e env heap => match e with | .normal => resF env heap post t | .ret => resF env heap post t | _ => False) (argEnv 0 args) []) :
    PSpec P f args post := PSpec.introF hT hf hname hb hn ha hrs fun w0 R0 hG => ARun_ok (C := ⟨P, nt, w0, R0, [], L0 0, hG⟩) hT hM (h w0 R0 hG)
end Towline
