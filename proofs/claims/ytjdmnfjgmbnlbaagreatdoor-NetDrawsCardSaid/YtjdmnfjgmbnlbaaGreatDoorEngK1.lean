/- The engine: statements that draw their order: what each operation reads and writes; in whatever order, the same comes out. Over any program. -/
import Derived.Test.YtjdmnfjgmbnlbaaGreatDoorEngI
import Derived.Orders
namespace Towline
open Go Go.RowKit
set_option linter.unusedVariables false

/-- What an operation reads and writes: slots, objects; which objects are new. -/
structure Rc where
  rt : List Nat
  rh : List Nat
  wt : List (Nat × AVal)
  wh : List (Nat × Option AObj)
  fr : List Nat
def Rc.g (r : Rc) (g : Nat → AVal) : Nat → AVal := fun t => match lookW t r.wt with | some v => v | none => g t
def Rc.h (r : Rc) (h : Nat → Option AObj) : Nat → Option AObj := fun t => match lookW t r.wh with | some v => v | none => h t
structure Agrees (r : Rc) (g0 : Nat → AVal) (h0 : Nat → Option AObj) (g : Nat → AVal) (h : Nat → Option AObj) : Prop where
  t : ∀ t ∈ r.rt, g t = g0 t
  o : ∀ i ∈ r.rh, h i = h0 i
  ft : ∀ d ∈ r.fr, ∀ t, (g t).free d = true
  fo : ∀ d ∈ r.fr, ∀ j o, h j = some o → j ≠ d ∧ o.free d = true
/-- From wherever slots and objects are as the record asks, the operation does what the record says. -/
def StepOk (C : Ctx) (o : Oper) (r : Rc) (g0 : Nat → AVal) (h0 : Nat → Option AObj) : Prop :=
  ∀ g h, Agrees r g0 h0 g h → ∀ L a w, Rel C L g h a w → ∀ (next : Act → World → Prop) (Q : Exit → Act → World → Prop), (∀ L' a' w', Rel C L' (r.g g) (r.h h) a' w' → next a' w') → o.wp C.P a w next Q
def restrict (rt : List Nat) (g : Nat → AVal) : Nat → AVal := fun t => match memN t rt with | true => g t | false => .any
theorem restrict_eq {rt : List Nat} {g g0 : Nat → AVal} (h : ∀ t ∈ rt, g t = g0 t) : restrict rt g = restrict rt g0 := by
  funext t
  unfold restrict
  cases hm : memN t rt with
  | true => exact h t (memN_of.1 hm)
  | false => rfl
theorem restrictH_eq {rh : List Nat} {h h0 : Nat → Option AObj} (e : ∀ t ∈ rh, h t = h0 t) : restrictH rh h = restrictH rh h0 := by
  funext t
  unfold restrictH
  cases hm : memN t rh with
  | true => exact e t (memN_of.1 hm)
  | false => rfl
section
variable {C : Ctx} {T : Tys} {L : Lay} {g : Nat → AVal} {h : Nat → Option AObj} {a : Act} {w : World}
theorem Holds.restrict {gd : Nat → Prop} (H : Holds w gd L g h a) (rt rh : List Nat) : Holds w gd L (restrict rt g) (restrictH rh h) a where
  slot t := by
    unfold Towline.restrict
    cases memN t rt with
    | true => exact H.slot t
    | false => exact .any
  obj id o e := H.obj id o (restrictH_some e)
  glob := H.glob
/-- An object goes, another one comes; slots that speak of the one that went may stay: nobody follows them. -/
theorem Rel.swap {w' : World} (H : Rel C L g h a w) {id d : Nat} (hlid : d ∉ C.lid) (hne : d ≠ id) {o0 o : AObj} (hid : h id = some o0) (he : ∀ t, (g t).free d = true) (hh : ∀ j o, h j = some o → j ≠ d ∧ o.free d = true)
    (hos : w'.os = w.os) (htp : w'.tape = w.tape) (hout : w'.output = w.output) (hsz : w.heap.size ≤ w'.heap.size) (hw : ∀ b, b < w.heap.size → some b ≠ L.blk id → w'.heap[b]? = w.heap[b]?)
    (nb : Option Nat) (nc : Nat) (hnb : ∀ b, nb = some b → b < w'.heap.size ∧ (some b = L.blk id ∨ w.heap.size ≤ b))
    (ho : ∀ gd', Stays w w' (good C L h w) gd' → RepO w' gd' (L.upd d nb nc) d o) :
    Rel C (L.upd d nb nc) g (fun j => if j = d then some o else if j = id then none else h j) a w' ∧ Stays w w' (good C L h w) (good C (L.upd d nb nc) (fun j => if j = d then some o else if j = id then none else h j) w') := by
  have hown := fun b e => H.own0 id o0 b hid e
  have hkold : ∀ {j oj}, j ≠ d → (if j = d then some o else if j = id then none else h j) = some oj → h j = some oj ∧ j ≠ id := by
    intro j oj hj e
    rw [if_neg hj] at e
    split at e
    · cases e
    · rename_i h1; exact ⟨e, h1⟩
  have hgood : Stays w w' (good C L h w) (good C (L.upd d nb nc) (fun j => if j = d then some o else if j = id then none else h j) w') := by
    intro b hlt hgb
    have hne' : some b ≠ L.blk id := fun e => hgb.2.2 ⟨id, o0, hid, e.symm⟩
    refine ⟨⟨Nat.lt_of_lt_of_le hlt hsz, hgb.2.1, ?_⟩, hw b hlt hne'⟩
    rintro ⟨i, oi, h1, h2⟩
    by_cases hi : i = d
    · simp only [Lay.upd, hi, if_true] at h2
      rcases (hnb b h2).2 with e | e
      · exact hne' e
      · omega
    · simp only [Lay.upd, hi, if_false] at h2
      obtain ⟨e1, _⟩ := hkold hi h1
      exact hgb.2.2 ⟨i, oi, e1, h2⟩
  refine ⟨?_, hgood⟩
  have hL : ∀ i, (i != d) = true → (L.upd d nb nc).blk i = L.blk i ∧ (L.upd d nb nc).cap i = L.cap i := by
    intro i hi
    have : i ≠ d := by simpa using hi
    simp [Lay.upd, this]
  have hp : ∀ i, (i != d) = false → i = d := by intro i hi; simpa using hi
  have ht : ∀ b, b < w.heap.size → L.old b → (L.upd d nb nc).old b ∧ w'.heap[b]? = w.heap[b]? := fun b hlt hb => ⟨hb, hw b hlt (fun e => H.old_own hb hid e.symm)⟩
  exact {
    below := H.below.next hos htp hout hsz fun k hk hnl => hw k (Nat.lt_of_lt_of_le hk H.below.size) (fun e => by rcases (hown k e.symm).1 with h1 | h1; omega; exact hnl h1)
    top := H.top
    size := H.size
    defers := H.defers
    slot := fun t => (H.slot t).mono hsz (· != d) hL ht hgood (fun i hi => by rw [hp i hi]; exact he t)
    obj := fun j oj hj => by
      by_cases hi : j = d
      · rw [if_pos hi] at hj
        cases hj
        rw [hi]
        exact ho _ hgood
      · obtain ⟨e1, e2⟩ := hkold hi hj
        have hblk : ∀ b, L.blk j = some b → w'.heap[b]? = w.heap[b]? := fun b hb => hw b (H.own0 j oj b e1 hb).2 (fun e => e2 (H.inj j id oj o0 b e1 hid hb e.symm))
        exact (H.obj j oj e1).mono hsz hgood hblk ht (· != d) hL (by simpa using hi) (fun i' hi' => by rw [hp i' hi']; exact (hh j oj e1).2)
    inj := fun i j oi oj b hi hj hbi hbj => by
      simp only [Lay.upd] at hbi hbj
      by_cases h1 : i = d
      · by_cases h2 : j = d
        · rw [h1, h2]
        · rw [if_neg h2] at hbj
          rw [if_pos h1] at hbi
          obtain ⟨e1, e2⟩ := hkold h2 hj
          rcases (hnb b hbi).2 with e | e
          · exact (e2 (H.inj j id oj o0 b e1 hid hbj e.symm)).elim
          · have := (H.own0 j oj b e1 hbj).2; omega
      · rw [if_neg h1] at hbi
        obtain ⟨e1, e2⟩ := hkold h1 hi
        by_cases h2 : j = d
        · rw [if_pos h2] at hbj
          rcases (hnb b hbj).2 with e | e
          · exact (e2 (H.inj i id oi o0 b e1 hid hbi e.symm)).elim
          · have := (H.own0 i oi b e1 hbi).2; omega
        · rw [if_neg h2] at hbj
          obtain ⟨e1', _⟩ := hkold h2 hj
          exact H.inj i j oi oj b e1 e1' hbi hbj
    own0 := fun i oi b hi hbi => by
      simp only [Lay.upd] at hbi
      by_cases h1 : i = d
      · rw [if_pos h1] at hbi
        obtain ⟨e1, e2⟩ := hnb b hbi
        refine ⟨?_, e1⟩
        rcases e2 with e | e
        · exact (hown b e.symm).1
        · exact .inl (Nat.le_trans H.below.size e)
      · rw [if_neg h1] at hbi
        obtain ⟨e1, _⟩ := hkold h1 hi
        have := H.own0 i oi b e1 hbi
        exact ⟨this.1, Nat.lt_of_lt_of_le this.2 hsz⟩
    kept := fun i oi hl hi => by
      have hne : i ≠ d := fun e => hlid (e ▸ hl)
      simp only [Lay.upd, if_neg hne]
      obtain ⟨e1, _⟩ := hkold hne hi
      exact H.kept i oi hl e1
    lidn := H.lidn }
end
mutual
def idsA : AVal → List Nat
  | .ptr id _ => [id]
  | .rsl id _ _ _ => [id]
  | .rptr id _ _ _ => [id]
  | .mref id => [id]
  | .agg l => idsL l
  | .tup l => idsL l
  | .fn _ l => idsL l
  | _ => []
def idsL : List AVal → List Nat
  | [] => []
  | x :: r => idsA x ++ idsL r
end
def tmpsOf : List Operand → List Nat
  | [] => []
  | .tmp t :: r => t :: tmpsOf r
  | _ :: r => tmpsOf r
def idsOf (g : Nat → AVal) : List Nat → List Nat
  | [] => []
  | t :: r => idsA (g t) ++ idsOf g r
def putD (nt : Nat) (d : Option Tmp) (v : AVal) (rt rh : List Nat) (env : Env) (heap : Heap) (k : Rc → Env → Heap → Prop) : Prop :=
  match d with
  | some t => match Nat.blt t nt with
    | true => forceV (fun v => k ⟨rt, rh, [(t, v)], [], []⟩ ((t, v) :: env) heap) v
    | false => False
  | none => k ⟨rt, rh, [], [], []⟩ env heap
def setD (nt : Nat) (d : Option Tmp) (id : Nat) (o : AObj) (rt rh : List Nat) (env : Env) (heap : Heap) (k : Rc → Env → Heap → Prop) : Prop :=
  match setO id o heap with
  | some h => match d with
    | some t => match Nat.blt t nt with
      | true => k ⟨rt, id :: rh, [(t, .any)], [(id, some o)], []⟩ ((t, .any) :: env) h
      | false => False
    | none => k ⟨rt, id :: rh, [], [(id, some o)], []⟩ env h
  | none => False
def newD (nt : Nat) (d : Option Tmp) (o : AObj) (v : Nat → AVal) (rt rh : List Nat) (env : Env) (heap : Heap) (k : Rc → Env → Heap → Prop) : Prop :=
  match d with
  | some t => match Nat.blt t nt with
    | true => match lookO t heap with
      | none => k ⟨rt, rh, [(t, v t)], [(t, some o)], [t]⟩ ((t, v t) :: env) ((t, o) :: heap)
      | some _ => False
    | false => False
  | none => False
def remO (id : Nat) : Heap → Heap
  | [] => []
  | (j, o) :: r => match Nat.beq j id with
    | true => remO id r
    | false => (j, o) :: remO id r
def appD (nt : Nat) (d : Option Tmp) (old : Nat) (o : AObj) (v : Nat → AVal) (rt rh : List Nat) (env : Env) (heap : Heap) (k : Rc → Env → Heap → Prop) : Prop :=
  match d with
  | some t => match Nat.blt t nt with
    | true => match Nat.beq t old with
      | true => False
      | false => match lookO t heap with
        | none => forceH (fun heap => k ⟨rt, old :: rh, [(t, v t)], [(t, some o), (old, none)], [t]⟩ ((t, v t) :: env) ((t, o) :: heap)) (remO old heap)
        | some _ => False
    | false => False
  | none => False
def AResD (nt : Nat) (d : Option Tmp) (rt rh : List Nat) (env : Env) (heap : Heap) (k : Rc → Env → Heap → Prop) : Option Res → Prop
  | none => False
  | some (.val v) => putD nt d v rt rh env heap k
  | some (.cond v c) => c ∧ putD nt d v rt rh env heap k
  | some (.new o) => newD nt d o (fun t => .ptr t 0) rt rh env heap k
  | some (.newv o v c) => match c with
    | some c => c ∧ newD nt d o v rt rh env heap k
    | none => newD nt d o v rt rh env heap k
  | some (.set id o) => setD nt d id o rt rh env heap k
  | some (.setc id o c) => c ∧ setD nt d id o rt rh env heap k
  | some (.mkrow t sz n f c) => match c with
    | some c => c ∧ newD nt d (.row t sz n f) (fun d => .rsl d sz 0 n) rt rh env heap k
    | none => newD nt d (.row t sz n f) (fun d => .rsl d sz 0 n) rt rh env heap k
  | some (.ndb _) => False
  | some (.pub _ _) => False
  | some (.str c) => ∃ l, c l ∧ putD nt d (.d (.s l)) rt rh env heap k
  | some (.app old t sz n f c) => c ∧ appD nt d old (.row t sz n f) (fun d => .rsl d sz 0 n) rt rh env heap k
  | some (.appv old t cells c) => c ∧ chkV d cells (appD nt d old (.vrow t cells) (fun d => .rsl d 1 0 cells.length) rt rh env heap k)
  | some (.mkv t cells c) => c ∧ chkV d cells (newD nt d (.vrow t cells) (fun d => .rsl d 1 0 cells.length) rt rh env heap k)
  | some (.mget ky l z ok) => ∃ f, findD ky l = some f ∧ putD nt d (okM ok (.d (getD2 z f)) (isS f)) rt rh env heap k
  | some (.mput id ky x l) => ∃ f, findD ky l = some f ∧ ∃ l', putM f ky x l = l' ∧ setD nt d id (.dmp l') rt rh env heap k
  | some (.mdel id ky l) => ∃ f, findD ky l = some f ∧ ∃ l', delM f l = l' ∧ setD nt d id (.dmp l') rt rh env heap k
def putRD (nt : Nat) (d : Option Tmp) (exact : Bool) (rt rh : List Nat) (env : Env) (heap : Heap) (k : Rc → Env → Heap → Prop) (r : AVal) : Prop :=
  match r with
  | .fresh t sz n f => match exact with
    | true => match Nat.blt t markT with
      | true => newD nt d (.row t sz n f) (fun d => .rsl d sz 0 n) rt rh env heap k
      | false => False
    | false => False
  | r => match exact with
    | true => putD nt d r rt rh env heap k
    | false => match r.flat with
      | true => putD nt d r rt rh env heap k
      | false => False
def ACallD (P : Program) (nt : Nat) (d : Option Tmp) (rt rh : List Nat) (env : Env) (heap : Heap) (k : Rc → Env → Heap → Prop) (f : FuncId) (args : List AVal) (exact : Bool) : Prop :=
  ∃ r, PSpec P f args (· = r) ∧ putRD nt d exact rt rh env heap k r
def ABackD (nt : Nat) (dst : Option Tmp) (S p : List Nat) (rt rh : List Nat) (env : Env) (heap : Heap) (k : Rc → Env → Heap → Prop) (r : AVal) (hl' : Heap) : Prop :=
  forceN (fun fr => match ltAll fr with
    | true => deepV (fun r' => deepH (fun hm => forceH (fun hn => match dst with
      | some t => match Nat.blt t nt with
        | true => k ⟨rt, S ++ p ++ rh, [(t, r')], whOf hm (S ++ p), fr⟩ ((t, r') :: env) hn
        | false => False
      | none => k ⟨rt, S ++ p ++ rh, [], whOf hm (S ++ p), fr⟩ env hn) (hm ++ dropH S heap)) (mapH (tauOf (sigI S lentBase) hl' (newBase env dst)) hl')) (r.map (tauOf (sigI S lentBase) hl' (newBase env dst)))
    | false => False) (firsts (newOf (sigI S lentBase) hl' (newBase env dst)))
def ALendD (P : Program) (nt : Nat) (dst : Option Tmp) (rt rh : List Nat) (env : Env) (heap : Heap) (k : Rc → Env → Heap → Prop) (f : FuncId) (args : List AVal) (p : List Nat) : Prop :=
  forceN (fun S => match nodupN S with
    | true => match allIn (fun i => lookO i heap) S with
      | true => deepL (fun args' => deepH (fun hl => ∃ r hl', LSpec P f args' hl (fun a b => a = r ∧ b = hl') ∧ ABackD nt dst S p rt rh env heap k r hl') (pickH (sig S lentBase) (fun i => lookO i heap) S lentBase)) (AVal.mapL (sig S lentBase) args)
      | false => False
    | false => False) (reach 500 (fun i => lookO i heap) args [])
def AStepD (P : Program) (T : Tys) (nt : Nat) (rt rh : List Nat) (o : Oper) (env : Env) (heap : Heap) (k : Rc → Env → Heap → Prop) : Prop :=
  match o.op with
  | .call { callee := .value f, args := as, .. } => match lentTo T (opnd (restrict rt fun t => look t env) f) with
   | some ms => match opnd (restrict rt fun t => look t env) f with
    | .fn f caps => lendK (restrictH rh fun i => lookO i heap) (fun l p => forceH (fun hp => ALendD P nt o.dst rt rh env hp k f (l ++ capsN caps) p) (dropH p heap)) ms (as.toList.map (opnd (restrict rt fun t => look t env))) []
    | _ => False
   | none => match opnd (restrict rt fun t => look t env) f with
    | .fn f caps => argK (restrict rt fun t => look t env) (restrictH rh fun i => lookO i heap) caps (ACallD P nt o.dst rt rh env heap k f) as.toList
    | .d (.cl f n ds) => argK (restrict rt fun t => look t env) (restrictH rh fun i => lookO i heap) [] (fun l b => ACallD P nt o.dst rt rh env heap k f (l ++ capsF n 0 ds) b) as.toList
    | _ => False
  | .convert src dst x => match convS T src dst (opnd (restrict rt fun t => look t env) x) with
    | some l => l.length ≤ 9223372036854775807 ∧ putRD nt o.dst true rt rh env heap k (.d (.sl 1 l.length (bytesF l)))
    | none => AResD nt o.dst rt rh env heap k (aop T (restrict rt fun t => look t env) (restrictH rh fun i => lookO i heap) (.convert src dst x))
  | op => AResD nt o.dst rt rh env heap k (aop T (restrict rt fun t => look t env) (restrictH rh fun i => lookO i heap) op)
end Towline
