/- The engine: a run that stops behind each test, where rows may be given up: they are data from then on. Over any program. -/
import Derived.Test.YtjdmnfjgmbnlbaaGreatDoorEngO
namespace Towline
open Go Go.RowKit
set_option linter.unusedVariables false
/-- Code that is still to be run. -/
structure AGo (C : Ctx) (c : Code) (Q : Exit → Env → Heap → Prop) (env : Env) (heap : Heap) : Prop where
  out : AWp C c Q env heap
/-- Code, run as far as plain data say: loops are left, and what stands behind a test. -/
def ARunS (C : Ctx) (T : Tys) : Code → (Exit → Env → Heap → Prop) → Env → Heap → Prop
  | .skip, Q, env, heap => Q .normal env heap
  | .region _ ops draw, Q, env, heap => match draw with
    | false => AOps C.P T C.nt ops (Q .normal) ops.toList env heap
    | true => AOpsD C.P T C.nt ops (fun recs env' heap' => drawOk ops.toList recs.reverse env heap = true ∧ Q .normal env' heap') ops.toList [] env heap
  | .seq x y, Q, env, heap => ARunS C T x (fun e env heap => match e with | .normal => ARunS C T y Q env heap | e => Q e env heap) env heap
  | .cond c x y, Q, env, heap => match opnd (fun t => look t env) c with
    | .d (.b b) => match b with
      | true => AGo C x Q env heap
      | false => AGo C y Q env heap
    | _ => False
  | .block id x, Q, env, heap => ARunS C T x (fun e env heap => match e with | .exit i => (match Nat.beq i id with | true => Q .normal env heap | false => Q (.exit i) env heap) | e => Q e env heap) env heap
  | .loop c, Q, env, heap => ALoop C c Q env heap
  | .exit id, Q, env, heap => Q (.exit id) env heap
  | .ret, Q, env, heap => Q .ret env heap
  | .rangeFunc .., _, _, _ => False
  | .scope x, Q, env, heap => ARunS C T x (fun e env heap => match e with | .goto _ => False | e => Q e env heap) env heap
  | .label _, Q, env, heap => Q .normal env heap
  | .goto _, _, _, _ => False
  | .refuse _, _, _, _ => False
section
variable {C : Ctx} {T : Tys}
theorem ARunS_ok (hT : TysOk C.P T) (hM : C.P.follows .mixedOrders = true) : ∀ {c : Code} {Q : Exit → Env → Heap → Prop} {env : Env} {heap : Heap}, ARunS C T c Q env heap → AWp C c Q env heap := by
  intro c
  induction c with
  | skip => exact fun h => AWp.skip h
  | region id ops draw =>
    intro Q env heap h
    cases draw with
    | false => exact AWp.region hT h
    | true => exact AWp.draw hT hM h
  | seq x y ihx ihy =>
    intro Q env heap h
    refine AWp.seq ((ihx h).mono fun e env heap h => ?_)
    cases e with
    | normal => exact ihy h
    | _ => exact h
  | cond c x y ihx ihy =>
    intro Q env heap h
    simp only [ARunS] at h
    split at h
    · rename_i b e
      refine AWp.cond e (fun hb => ?_) (fun hb => ?_)
      · subst hb; exact h.out
      · subst hb; exact h.out
    · exact h.elim
  | block id x ih => intro Q env heap h; exact AWp.block (ih h)
  | loop c ih => exact fun h => h.out
  | exit id => exact fun h => AWp.exit h
  | ret => exact fun h => AWp.ret h
  | label l => exact fun h => fun L a w hr => wp_label ⟨L, _, _, hr, h⟩
  | scope x ih =>
    intro Q env heap h L a w hr
    refine wp_scope_straight (wp_mono (ih h L a w hr) fun e a' w' ⟨L', env', heap', h1, h2⟩ => ?_)
    cases e with
    | goto l => exact h2.elim
    | _ => exact ⟨L', env', heap', h1, h2⟩
  | _ => exact fun h => h.elim
theorem AGo.go {c : Code} {Q : Exit → Env → Heap → Prop} {env : Env} {heap : Heap} (hT : TysOk C.P T) (hM : C.P.follows .mixedOrders = true) (h : ARunS C T c Q env heap) : AGo C c Q env heap := ⟨ARunS_ok hT hM h⟩
theorem ALoop.introS {X : Type} {c : Code} {Q : Exit → Env → Heap → Prop} {env : Env} {heap : Heap} (hT : TysOk C.P T) (hM : C.P.follows .mixedOrders = true) (S : X → Env × Heap) (μ : X → Nat) (x0 : X) (h0 : CovE env (S x0).1 (CovH heap (S x0).2))
    (round : ∀ x, ARunS C T c (fun e env' heap' => match e with | .normal => ∃ x' ps, μ x' < μ x ∧ CovE (renEs C.lid ps env') (S x').1 (CovH (renHs C.lid ps heap') (S x').2) | e => Q e env' heap') (S x).1 (S x).2) : ALoop C c Q env heap :=
  ⟨AWp.loop (fun x => (S x).1) (fun x => (S x).2) μ x0 (Covers.mk' h0) fun x L a w hr => wp_mono ((ARunS_ok hT hM (round x)) L a w hr) fun e a' w' ⟨L', env', heap', h1, h2⟩ => by
    cases e with
    | normal =>
      obtain ⟨x', ps, h3, h4⟩ := h2
      obtain ⟨L2, h5⟩ := h1.rens ps
      exact ⟨L2, _, _, h5, x', h3, Covers.mk' h4⟩
    | _ => exact ⟨L', env', heap', h1, h2⟩⟩
/-- A row of the call's own that a slot speaks of is given up: the slot holds data. -/
theorem ALoop.frz {c : Code} {Q : Exit → Env → Heap → Prop} {env : Env} {heap : Heap} (s : Nat) (h : frzK (fun e hp => ALoop C c Q e hp) [(0, .tmp s)] env heap) : ALoop C c Q env heap :=
  ⟨fun L a w H => by obtain ⟨e, hp, h1, h2⟩ := frzK_ok h H; exact h1.out L a w h2⟩
theorem AGo.frz {c : Code} {Q : Exit → Env → Heap → Prop} {env : Env} {heap : Heap} (s : Nat) (h : frzK (fun e hp => AGo C c Q e hp) [(0, .tmp s)] env heap) : AGo C c Q env heap :=
  ⟨fun L a w H => by obtain ⟨e, hp, h1, h2⟩ := frzK_ok h H; exact h1.out L a w h2⟩
/-- A box of plain cells that a slot speaks of is given up: the slot holds a pointer that is data. -/
theorem ALoop.frzB {c : Code} {Q : Exit → Env → Heap → Prop} {env : Env} {heap : Heap} (s : Nat) (h : Towline.frzB (fun e hp => ALoop C c Q e hp) s env heap) : ALoop C c Q env heap :=
  ⟨fun L a w H => by obtain ⟨e, hp, h1, h2⟩ := frzB_ok h H; exact h1.out L a w h2⟩
theorem AGo.frzB {c : Code} {Q : Exit → Env → Heap → Prop} {env : Env} {heap : Heap} (s : Nat) (h : Towline.frzB (fun e hp => AGo C c Q e hp) s env heap) : AGo C c Q env heap :=
  ⟨fun L a w H => by obtain ⟨e, hp, h1, h2⟩ := frzB_ok h H; exact h1.out L a w h2⟩
/-- A nil slice in a cell of an object, taken for an empty row of the call's own. -/
theorem AGo.adoptCell {C : Ctx} {c : Code} {Q : Exit → Env → Heap → Prop} {env : Env} {heap heap' : Heap} (b i id sz : Nat) (t : TypeId) (f : Nat → List D) {cells : List AVal} {tag : Option TypeId} (hb : lookO b heap = some (.box cells tag)) (hs : cells[i]? = some (.d (.v (.slice none 0 0)))) (he : freeEnv id env = true) (hh : freeHeap id heap = true)
    (hset : setO b (.box (cells.set i (.rsl id sz 0 0)) tag) heap = some heap') (h : AGo C c Q env ((id, .row t sz 0 f) :: heap')) (hl : memN id C.lid = false := by rfl) : AGo C c Q env heap :=
  ⟨AWp.adoptCell b i id sz t f hb hs he hh hset h.out hl⟩
/-- A row of the call's own that a cell of an object speaks of is given up: the cell holds data. -/
theorem AGo.pub {c : Code} {Q : Exit → Env → Heap → Prop} {env : Env} {heap heap' : Heap} (b i id : Nat) {cells : List AVal} {tag : Option TypeId} {t : TypeId} {sz n n' : Nat} {f : Nat → List D} (hb : lookO b heap = some (.box cells tag)) (hs : cells[i]? = some (.rsl id sz 0 n)) (hid : lookO id heap = some (.row t sz n' f)) (hn : n ≤ n') (hne : Nat.beq b id = false)
    (hset : setO b (.box (cells.set i (.d (.sl sz n f))) tag) (dropH [id] heap) = some heap') (h : AGo C c Q env heap') : AGo C c Q env heap := by
  refine ⟨fun L a w H => ?_⟩
  have hnb : b ≠ id := fun e => by subst e; simp [Nat.beq_refl] at hne
  have hsub : ∀ i o, lko (dropH [id] heap) i = some o → lko heap i = some o := by
    intro i o e
    have e : lookO i (dropH [id] heap) = some o := e
    rw [lookO_dropH] at e
    exact (dropped_some e).1
  have hd := H.drop hsub
  have hobj : lko (dropH [id] heap) b = some (.box cells tag) := by
    show lookO b (dropH [id] heap) = _
    rw [lookO_dropH]
    have hm : memN b [id] = false := by simp [memN, beq_false (show id ≠ b from fun e => hnb e.symm)]
    rw [hm]
    exact hb
  refine h.out L a w ?_
  have hgood : ∀ b', good C L (lko (dropH [id] heap)) w b' → good C L (lko heap') w b' := by
    intro b' hgb
    refine ⟨hgb.1, hgb.2.1, ?_⟩
    rintro ⟨j, oj, h1, h2⟩
    rw [lko_set hset] at h1
    unfold hput at h1
    by_cases hjb : j = b
    · exact hgb.2.2 ⟨b, .box cells tag, hobj, by rw [← hjb]; exact h2⟩
    · rw [if_neg hjb] at h1
      exact hgb.2.2 ⟨j, oj, h1, h2⟩
  have hlook : ∀ j oj, lko heap' j = some oj → (j = b ∧ oj = .box (cells.set i (.d (.sl sz n f))) tag) ∨ lko (dropH [id] heap) j = some oj := by
    intro j oj hj
    rw [lko_set hset] at hj
    unfold hput at hj
    by_cases h2 : j = b
    · left; rw [if_pos h2] at hj; exact ⟨h2, (Option.some.inj hj).symm⟩
    · right; rw [if_neg h2] at hj; exact hj
  have hsome : ∀ j oj, lko heap' j = some oj → ∃ o', lko (dropH [id] heap) j = some o' := by
    intro j oj hj
    rcases hlook j oj hj with ⟨rfl, _⟩ | h
    · exact ⟨_, hobj⟩
    · exact ⟨_, h⟩
  have hview : ∀ v, RepA w L (good C L (lko (dropH [id] heap)) w) (.rsl id sz 0 n) v → RepA w L (good C L (lko (dropH [id] heap)) w) (.d (.sl sz n f)) v := by
    intro v hv
    obtain ⟨y, h1, h2, h3⟩ := viewK_ok (gd := good C L (lko (dropH [id] heap)) w) (gd' := good C L (lko (dropH [id] heap)) w) (h := restrictH [id] (lko heap)) L (fun i ob e => by
        refine (H.obj i ob (restrictH_some e)).mono (Nat.le_refl _) (fun b _ hb => ⟨⟨hb.1, hb.2.1, fun ⟨i, o, h1, h2⟩ => hb.2.2 ⟨i, o, hsub i o h1, h2⟩⟩, rfl⟩) (fun _ _ => rfl) (fun b _ hb => ⟨hb, rfl⟩) (fun _ => true) (fun _ _ => ⟨rfl, rfl⟩) rfl (fun _ h => by cases h)) (fun b hb => hb) (fun i ob b h1 h2 => by
        have h1' := restrictH_some h1
        have h3 := H.own0 i ob b h1' h2
        refine ⟨⟨h3.2, .inr h3.1, fun ⟨j, o, k1, k2⟩ => ?_⟩, h3.2⟩
        have hi := H.inj j i o ob b (hsub j o k1) h1' k2 h2
        subst hi
        have k1 : lookO j (dropH [id] heap) = some o := k1
        rw [lookO_dropH] at k1
        unfold restrictH at h1
        cases hm : memN j [id] with
        | true => rw [hm] at k1; simp at k1
        | false => rw [hm] at h1; cases h1) (.rsl id sz 0 n) (fun y => y = .d (.sl sz n f)) v (by
          have hr : restrictH [id] (lko heap) id = some (.row t sz n' f) := by
            unfold restrictH
            rw [show memN id [id] = true from by simp [memN, Nat.beq_refl]]
            exact hid
          simp only [viewK, hr, Nat.beq_refl]
          exact ⟨by omega, trivial⟩) hv
    rw [h1] at h3
    exact h3
  exact { hd with
    slot := fun x => (hd.slot x).mono1 (Nat.le_refl _) (fun b' _ hb' => ⟨hgood b' hb', rfl⟩) (fun _ _ => rfl)
    obj := fun j oj hj => by
      have mono : ∀ {o}, RepO w (good C L (lko (dropH [id] heap)) w) L j o → RepO w (good C L (lko heap') w) L j o := fun h =>
        h.mono (Nat.le_refl _) (fun b' _ hb' => ⟨hgood b' hb', rfl⟩) (fun _ _ => rfl) (fun b _ hb => ⟨hb, rfl⟩) (fun _ => true) (fun _ _ => ⟨rfl, rfl⟩) rfl (fun _ h => by cases h)
      rcases hlook j oj hj with ⟨rfl, rfl⟩ | h
      · have hro := hd.obj _ _ hobj
        refine mono ?_
        cases hro with
        | box htag hbk hheap hz h1 hr =>
          refine .box htag hbk hheap (by simpa using hz) (fun q hq => h1 q (by simpa using hq)) (fun q y hy => ?_)
          rw [List.getElem?_set] at hy
          split at hy
          · rename_i e
            subst e
            split at hy
            · cases hy
              exact hview _ (hr i _ hs)
            · cases hy
          · exact hr q y hy
      · exact mono (hd.obj j oj h)
    inj := fun x y ox oy b' h1 h2 => by
      obtain ⟨o1, e1⟩ := hsome x ox h1
      obtain ⟨o2, e2⟩ := hsome y oy h2
      exact hd.inj x y o1 o2 b' e1 e2
    own0 := fun x ox b' h1 => by
      obtain ⟨o1, e1⟩ := hsome x ox h1
      exact hd.own0 x o1 b' e1
    kept := fun x ox hl' h1 => by
      obtain ⟨o1, e1⟩ := hsome x ox h1
      exact hd.kept x o1 hl' e1 }
end
/-- A whole function, run so. -/
theorem PSpec.runS {P : Program} {T : Tys} {f : FuncId} {fn : Func} {c : Code} {args : List AVal} {post : AVal → Prop} (hT : TysOk P T) (hM : P.follows .mixedOrders = true) (hf : P.funcs[f]? = some fn) (hname : (fn.name == "runtime.NumGoroutine") = false) (hb : fn.body = some c) {nt : Nat} (hn : fn.ntmps = nt) (ha : args.length ≤ nt)
    {rs : List ResultVar} (hrs : fn.results.toList = rs) (h : ∀ w0 R0 hG, ARunS ⟨P, nt, w0, R0, [], L0 0, hG⟩ T c (fun e env heap => match e with | .normal => resK T (fun t => look t env) (fun i => lookO i heap) (postL fun r => ∃ r', r.le r' ∧ post r' ∧ r'.data = true) rs | .ret => resK T (fun t => look t env) (fun i => lookO i heap) (postL fun r => ∃ r', r.le r' ∧ post r' ∧ r'.data = true) rs | _ => False) (argEnv 0 args) []) :
    PSpec P f args post := by
  refine (PSpec.intro hT hf hname hb hn ha hrs fun w0 R0 hG => ARunS_ok (C := ⟨P, nt, w0, R0, [], L0 0, hG⟩) hT hM (h w0 R0 hG)).weaken (fun r ⟨⟨r', h1, h2, h3⟩, _⟩ hd => ⟨r', h1, h2, h3⟩) ?_
  rintro t sz n g ⟨_, h3⟩
  cases h3
/-- A whole function that is lent objects, run so. -/
theorem LSpec.runS {P : Program} {T : Tys} {f : FuncId} {fn : Func} {c : Code} {args : List AVal} {hl : Heap} {post : AVal → Heap → Prop} (hT : TysOk P T) (hM : P.follows .mixedOrders = true) (hf : P.funcs[f]? = some fn) (hname : (fn.name == "runtime.NumGoroutine") = false) (hb : fn.body = some c) {nt : Nat} (hn : fn.ntmps = nt) (ha : args.length ≤ nt)
    (hid : idsOk nt (keysH hl) = true) {rs : List ResultVar} (hrs : fn.results.toList = rs)
    (h : ∀ w0 R0 Lo hG, ARunS ⟨P, nt, w0, R0, keysH hl, Lo, hG⟩ T c (fun e env heap => match e with | .normal => resL T (fun t => look t env) (fun i => lookO i heap) (postL (finL heap post)) rs | .ret => resL T (fun t => look t env) (fun i => lookO i heap) (postL (finL heap post)) rs | _ => False) (argEnv 0 args) hl) :
    LSpec P f args hl post :=
  LSpec.introW hT hM hf hname hb hn ha hid hrs fun w0 R0 Lo hG => ARunS_ok (C := ⟨P, nt, w0, R0, keysH hl, Lo, hG⟩) hT hM (h w0 R0 Lo hG)
theorem ALoop.pub {C : Ctx} {c : Code} {Q : Exit → Env → Heap → Prop} {env : Env} {heap heap' : Heap} (b i id : Nat) {cells : List AVal} {tag : Option TypeId} {t : TypeId} {sz n n' : Nat} {f : Nat → List D} (hb : lookO b heap = some (.box cells tag)) (hs : cells[i]? = some (.rsl id sz 0 n)) (hid : lookO id heap = some (.row t sz n' f)) (hn : n ≤ n') (hne : Nat.beq b id = false)
    (hset : setO b (.box (cells.set i (.d (.sl sz n f))) tag) (dropH [id] heap) = some heap') (h : ALoop C c Q env heap') : ALoop C c Q env heap := ⟨(AGo.pub (c := .loop c) b i id hb hs hid hn hne hset ⟨h.out⟩).out⟩
/-- What goes on behind a call, hidden while the call's end is worked out. -/
theorem ABack.hide {nt : Nat} {dst : Option Tmp} {S : List Nat} {env : Env} {heap : Heap} {k : Env → Heap → Prop} {r : AVal} {hl : Heap} (h : ∀ k' : Env → Heap → Prop, (∀ e hp, k e hp → k' e hp) → ABack nt dst S env heap k' r hl) : ABack nt dst S env heap k r hl := h k fun _ _ h => h
/-- A word for looking at slots and objects. -/
def Seen (_ : Env) (_ : Heap) : Prop := True
theorem ALoop.see {C : Ctx} {c : Code} {Q : Exit → Env → Heap → Prop} {env : Env} {heap : Heap} (h : Seen env heap → ALoop C c Q env heap) : ALoop C c Q env heap := h trivial
end Towline
