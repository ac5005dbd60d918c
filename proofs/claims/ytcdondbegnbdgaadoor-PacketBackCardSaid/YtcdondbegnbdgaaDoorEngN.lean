import Derived.Test.YtcdondbegnbdgaaDoorEngM
import Derived.Orders
import Derived.Scope
/- The engine, part nine: rows of operations, calls, the forms of code. Over any program. -/
namespace Towline
open Go Go.RowKit
set_option linter.unusedVariables false

mutual
/-- The rows that a value speaks of. -/
def rowIds : AVal → List Nat
  | .rsl id _ _ _ => [id]
  | .agg l => rowIdsL l
  | .tup l => rowIdsL l
  | _ => []
def rowIdsL : List AVal → List Nat
  | [] => []
  | x :: r => rowIds x ++ rowIdsL r
end
def rowsOf (g : Nat → AVal) : List Operand → List Nat
  | [] => []
  | x :: r => rowIds (opnd g x) ++ rowsOf g r
/-- The arguments, rows of the call's own read as what they hold. -/
def pubK (g : Nat → AVal) (h : Nat → Option AObj) (k : List AVal → Prop) : List Operand → Prop
  | [] => k []
  | x :: r => match (opnd g x).pure with
    | true => pubK g h (fun l => k (opnd g x :: l)) r
    | false => viewK h (fun v => pubK g h (fun l => k (v :: l)) r) (opnd g x)
def putF (nt : Nat) (d : Option Tmp) (v : AVal) (env : Env) (heap : Heap) (k : Env → Heap → Prop) : Prop :=
  match d with
  | some t => match Nat.blt t nt with
    | true => forceV (fun v => k ((t, v) :: env) heap) v
    | false => False
  | none => k env heap
def newK (nt : Nat) (d : Option Tmp) (o : AObj) (v : Nat → AVal) (env : Env) (heap : Heap) (k : Env → Heap → Prop) : Prop :=
  match d with
  | some t => match freeEnv t env with
    | true => match freeHeap t heap with
      | true => putF nt (some t) (v t) env ((t, o) :: heap) k
      | false => False
    | false => False
  | none => False
def appK (nt : Nat) (d : Option Tmp) (old : Nat) (o : AObj) (v : Nat → AVal) (env : Env) (heap : Heap) (k : Env → Heap → Prop) : Prop :=
  match killE old env with
  | some env => match killHp old heap with
    | some heap => newK nt d o v env heap k
    | none => False
  | none => False
def ARes (nt : Nat) (d : Option Tmp) (env : Env) (heap : Heap) (k : Env → Heap → Prop) : Option Res → Prop
  | none => False
  | some (.val v) => putF nt d v env heap k
  | some (.cond v c) => c ∧ putF nt d v env heap k
  | some (.new o) => newK nt d o (fun t => .ptr t 0) env heap k
  | some (.set id o) => match setO id o heap with
    | some h => putF nt d .any env h k
    | none => False
  | some (.setc id o c) => c ∧ match setO id o heap with
    | some h => putF nt d .any env h k
    | none => False
  | some (.mkrow t sz n f c) => match c with
    | some c => c ∧ newK nt d (.row t sz n f) (fun d => .rsl d sz 0 n) env heap k
    | none => newK nt d (.row t sz n f) (fun d => .rsl d sz 0 n) env heap k
  | some (.ndb c) => ∀ b, c b → putF nt d (.d (.b b)) env heap k
  | some (.str c) => ∃ l, c l ∧ putF nt d (.d (.s l)) env heap k
  | some (.pub id v) => forceH (fun hp => putF nt d v env hp k) (dropH [id] heap)
  | some (.app old t sz n f c) => c ∧ appK nt d old (.row t sz n f) (fun d => .rsl d sz 0 n) env heap k
/-- Rows of the call's own that are laid into a slice of slices: they are read as what they hold from then on. -/
def frzK (k : Env → Heap → Prop) : List (Nat × Operand) → Env → Heap → Prop
  | [], env, heap => k env heap
  | (_, .tmp t) :: r, env, heap => match look t env with
    | .rsl id sz o n => viewK (restrictH [id] fun i => lookO i heap) (fun v => forceH (fun hp => frzK k r ((t, v) :: env) hp) (dropH [id] heap)) (.rsl id sz o n)
    | _ => frzK k r env heap
  | _ :: r, env, heap => frzK k r env heap
def gtmp (ops : Array Oper) (j : Nat) : Option Tmp := (ops[j]?).bind (·.dst)
def putP (nt : Nat) (d : Option Tmp) (exact : Bool) (env : Env) (heap : Heap) (k : Env → Heap → Prop) (r : AVal) : Prop :=
  match exact with
  | true => putF nt d r env heap k
  | false => match r.flat with
    | true => putF nt d r env heap k
    | false => False
/-- What a call has answered is put away. -/
def putR (nt : Nat) (d : Option Tmp) (exact : Bool) (env : Env) (heap : Heap) (k : Env → Heap → Prop) (r : AVal) : Prop :=
  match r with
  | .fresh t sz n f => match exact with
    | true => newK nt d (.row t sz n f) (fun d => .rsl d sz 0 n) env heap k
    | false => False
  | r => putP nt d exact env heap k r
/-- A call of a function that is named, or that a slot holds. -/
def ACall (P : Program) (nt : Nat) (d : Option Tmp) (env : Env) (heap : Heap) (k : Env → Heap → Prop) (f : FuncId) (args : List AVal) (exact : Bool) : Prop :=
  ∃ post, PSpec P f args post ∧ ∀ r, post r → putR nt d exact env heap k r
/-- A text that is turned into bytes. -/
def convS (T : Tys) (src dst : TypeId) (v : AVal) : Option (List UInt8) :=
  match lookT src T with
  | some ⟨.string, _, _, _⟩ => match lookT dst T with
    | some ⟨.slice e, _, _, _⟩ => match lookT e T with
      | some ⟨.int .u8, _, _, _⟩ => match v with
        | .d (.s l) => some l
        | _ => none
      | _ => none
    | _ => none
  | _ => none
theorem convS_some {P : Program} {T : Tys} (hT : TysOk P T) {src dst : TypeId} {v : AVal} {l : List UInt8} (h : convS T src dst v = some l) : v = .d (.s l) ∧ P.underlying src = some .string ∧ ∃ e, P.underlying dst = some (.slice e) ∧ P.underlying e = some (.int .u8) := by
  unfold convS at h
  split at h
  · rename_i e1
    split at h
    · rename_i e2
      split at h
      · rename_i e3
        split at h
        · cases h
          exact ⟨rfl, (hT.get e1).string rfl, _, (hT.get e2).slice rfl, (hT.get e3).int rfl⟩
        · cases h
      · cases h
    · cases h
  · cases h
/-- The bytes of a text, in new memory. -/
theorem conv_bytes {P : Program} (w : World) (R : Nat → Prop) {src dst e : TypeId} (l : List UInt8) (hs : P.underlying src = some .string) (hd : P.underlying dst = some (.slice e)) (he : P.underlying e = some (.int .u8)) (hl : l.length ≤ 9223372036854775807) :
    ∃ v w', (convert src dst (.string ⟨l.toArray⟩)).run P w = .ok v w' ∧ Below w.heap.size w w' ∧ RepA w' (L0 w.heap.size) (fun b => R b ∨ (w.heap.size ≤ b ∧ b < w'.heap.size)) (.d (.sl 1 l.length (bytesF l))) v := by
  refine ⟨_, _, run_bytes_of_string (P := P) w src dst e ⟨l.toArray⟩ hs hd he, (Below.refl _ w).drew.alloc (Nat.le_refl _) _, ?_⟩
  have hz : (⟨l.toArray⟩ : ByteArray).size = l.length := by show l.toArray.size = _; simp
  have hge := grownCap_ge w (⟨l.toArray⟩ : ByteArray).size 0 e
  have hle := grownCap_le_maxLen w (⟨l.toArray⟩ : ByteArray).size 0 e (by rw [hz]; exact hl)
  rw [hz] at hge hle ⊢
  by_cases h0 : l.length = 0
  · obtain rfl := List.eq_nil_of_length_eq_zero h0
    exact .d (.sl0 _ _ _ _ hle)
  refine .d (.sl 1 l.length (bytesF l) w.heap.size 0 _ (fun k _ => .int .u8 ((l.getD k 0).toNat : Nat)) (by omega) hge hle (.inr ⟨Nat.le_refl _, ?_⟩) ?_ (fun _ _ => rfl) (fun k hk j hj => ?_) (fun k hk j x hx => ?_))
  · show _ < (w.heap.push _).size
    simp
  · show _ < (w.heap.push _).size
    simp
  · have : j = 0 := by omega
    subst this
    have h1 := World.cell?_alloc_mark w.drew (bytesRow ⟨l.toArray⟩ (grownCap w l.length 0 e)) e ((bytesRow ⟨l.toArray⟩ (grownCap w l.length 0 e)).size, (bytesRow ⟨l.toArray⟩ (grownCap w l.length 0 e)).size + 1) k
    have h3 := bytesRow_at ⟨l.toArray⟩ (grownCap w l.length 0 e) k (by simpa using hk)
    rw [h3] at h1
    have e1 : 0 + k * 1 + 0 = k := by omega
    rw [e1]
    have e2 : (⟨l.toArray⟩ : ByteArray).data[k]'(by simpa using hk) = l.getD k 0 := by
      rw [List.getD_eq_getElem?_getD, List.getElem?_eq_getElem hk]
      simp
    rw [e2] at h1
    exact h1
  · match j, hx with
    | 0, hx =>
      cases hx
      exact .i _ _
/-- The same, as a row of the call's own. -/
theorem conv_row {P : Program} (w : World) {src dst e : TypeId} (l : List UInt8) (hs : P.underlying src = some .string) (hd : P.underlying dst = some (.slice e)) (he : P.underlying e = some (.int .u8)) (hl : l.length ≤ 9223372036854775807) :
    ∃ v w' cap, (convert src dst (.string ⟨l.toArray⟩)).run P w = .ok v w' ∧ Below w.heap.size w w' ∧ w.heap.size < w'.heap.size ∧ ∀ (L : Lay) (d : Nat) (gd : Nat → Prop),
      RepO w' gd (L.upd d (some w.heap.size) cap) d (.row markT 1 l.length (bytesF l)) ∧ RepA w' (L.upd d (some w.heap.size) cap) gd (.rsl d 1 0 l.length) v := by
  have hz : (⟨l.toArray⟩ : ByteArray).size = l.length := by show l.toArray.size = _; simp
  have hge := grownCap_ge w (⟨l.toArray⟩ : ByteArray).size 0 e
  have hle := grownCap_le_maxLen w (⟨l.toArray⟩ : ByteArray).size 0 e (by rw [hz]; exact hl)
  have hrun := run_bytes_of_string (P := P) w src dst e ⟨l.toArray⟩ hs hd he
  rw [hz] at hge hle hrun
  generalize hcap : grownCap w l.length 0 e = cap at hge hle hrun
  have hsz : (bytesRow ⟨l.toArray⟩ cap).size = cap := by
    unfold bytesRow
    rw [Array.size_append, Array.size_map, Array.size_replicate, hz]
    show l.toArray.size + _ = _
    rw [List.size_toArray]; omega
  refine ⟨_, _, cap, hrun, (Below.refl _ w).drew.alloc (Nat.le_refl _) _, ?_, fun L d gd => ⟨?_, ?_⟩⟩
  · show _ < (w.heap.push _).size
    simp
  · refine .row (b := w.heap.size) (cs := bytesRow ⟨l.toArray⟩ cap) (by simp [Lay.upd]) (heap_alloc_new w.drew _) (by simpa [Lay.upd] using hge) (by simpa [Lay.upd] using hle) (by simpa [Lay.upd] using hsz) (fun _ _ => rfl) (fun k hk j x hx => ?_) (fun h => absurd h (Nat.lt_irrefl _)) (.inr ⟨Nat.le_refl _, Nat.le_refl _⟩)
    match j, hx with
    | 0, hx =>
      cases hx
      have h3 := bytesRow_at ⟨l.toArray⟩ cap k (by simpa using hk)
      rw [show k * 1 + 0 = k from by omega, Array.getD_eq_getD_getElem?, h3]
      have e2 : (⟨l.toArray⟩ : ByteArray).data[k]'(by simpa using hk) = l.getD k 0 := by
        rw [List.getD_eq_getElem?_getD, List.getElem?_eq_getElem hk]
        simp
      rw [e2]
      exact .i _ _
  · have : RepA (w.drew.alloc (.cells (bytesRow ⟨l.toArray⟩ cap) e ((bytesRow ⟨l.toArray⟩ cap).size, (bytesRow ⟨l.toArray⟩ cap).size + 1))) (L.upd d (some w.heap.size) cap) gd (.rsl d 1 0 l.length) (.slice (((L.upd d (some w.heap.size) cap).blk d).map fun b => ⟨b, 0 * 1, none⟩) l.length ((L.upd d (some w.heap.size) cap).cap d - 0)) :=
      .rsl (by simpa [Lay.upd] using hge) (fun _ => ⟨_, by simp [Lay.upd]; rfl⟩) (fun _ => rfl)
    simpa [Lay.upd] using this
def AStep (P : Program) (T : Tys) (nt : Nat) (o : Oper) (env : Env) (heap : Heap) (k : Env → Heap → Prop) : Prop :=
  match o.op with
  | .call { callee := .value f, args := as, .. } => match lentTo T (opnd (fun t => look t env) f) with
    | some ms => match opnd (fun t => look t env) f with
      | .fn f caps => lendK (fun i => lookO i heap) (fun l p => forceH (fun hp => ALend P nt o.dst env hp k f (l ++ capsN caps)) (dropH p heap)) ms (as.toList.map (opnd fun t => look t env)) []
      | _ => False
    | none => match (match o.dst with | some d => memN d T.pub | none => false) with
     | true => match opnd (fun t => look t env) f with
      | .fn f [] => pubK (fun t => look t env) (restrictH (rowsOf (fun t => look t env) as.toList) fun i => lookO i heap) (fun l => ACall P nt o.dst env (dropH (rowsOf (fun t => look t env) as.toList) heap) k f l true) as.toList
      | _ => False
     | false => match opnd (fun t => look t env) f with
      | .fn f caps => argK (fun t => look t env) (fun i => lookO i heap) caps (ACall P nt o.dst env heap k f) as.toList
      | .d (.cl f n ds) => argK (fun t => look t env) (fun i => lookO i heap) [] (fun l b => ACall P nt o.dst env heap k f (l ++ capsF n 0 ds) b) as.toList
      | _ => False
  | .convert src dst x => match convS T src dst (opnd (fun t => look t env) x) with
    | some l => l.length ≤ 9223372036854775807 ∧ (match (match o.dst with | some d => memN d T.pub | none => false) with
      | true => newK nt o.dst (.row markT 1 l.length (bytesF l)) (fun d => .rsl d 1 0 l.length) env heap k
      | false => putR nt o.dst true env heap k (.d (.sl 1 l.length (bytesF l))))
    | none => ARes nt o.dst env heap k (aop T (fun t => look t env) (fun i => lookO i heap) (.convert src dst x))
  | .buildSlice ty n els => frzK (fun env heap => ARes nt o.dst env heap k (aop T (fun t => look t env) (fun i => lookO i heap) (.buildSlice ty n els))) els.toList env heap
  | op => ARes nt o.dst env heap k (aop T (fun t => look t env) (fun i => lookO i heap) op)
def AOps (P : Program) (T : Tys) (nt : Nat) (ops : Array Oper) (K : Env → Heap → Prop) : List Oper → Env → Heap → Prop
  | [], env, heap => K env heap
  | o :: r, env, heap =>
    match o.guard with
    | none => AStep P T nt o env heap (AOps P T nt ops K r)
    | some (j, want) => match gtmp ops j with
      | some t => match look t env with
        | .d (.b x) => match x with
          | true => match want with
            | true => AStep P T nt o ((t, .d (.b true)) :: env) heap (AOps P T nt ops K r)
            | false => putF nt o.dst (.tup []) ((t, .d (.b true)) :: env) heap (AOps P T nt ops K r)
          | false => match want with
            | true => putF nt o.dst (.tup []) ((t, .d (.b false)) :: env) heap (AOps P T nt ops K r)
            | false => AStep P T nt o ((t, .d (.b false)) :: env) heap (AOps P T nt ops K r)
        | .tup [] => putF nt o.dst (.tup []) env heap (AOps P T nt ops K r)
        | _ => False
      | none => False
section
variable {C : Ctx} {T : Tys} {L : Lay} {env : Env} {heap : Heap} {a : Act} {w : World}
theorem repA_tup0 {gd : Nat → Prop} {v : Value} (h : RepA w L gd (.tup []) v) : v = undef := by
  cases h with
  | @tup _ l vs hz h => 
    have : vs = #[] := Array.eq_empty_of_size_eq_zero hz
    rw [this]; rfl
theorem yielded_undef {ops : Array Oper} {tmps : Array Value} {j t : Nat} (ht : gtmp ops j = some t) (hb : tmps.getD t undef = undef) : yielded ops tmps j = none := by
  unfold yielded
  have : (ops[j]?).bind (·.dst) = some t := ht
  rw [this]
  rw [Array.getD_eq_getD_getElem?] at hb
  simp only [Option.bind_some]
  cases h : tmps[t]? with
  | none => rfl
  | some v => rw [h] at hb; simp only [Option.getD_some] at hb; rw [hb]; rfl
theorem Rel.holds {g : Nat → AVal} {h : Nat → Option AObj} (H : Rel C L g h a w) : Holds w (good C L h w) L g h a := ⟨H.slot, H.obj⟩
theorem putF_ok {d : Option Tmp} {v : AVal} {k : Env → Heap → Prop} (h : Rel C L (lk env) (lko heap) a w) (hk : putF C.nt d v env heap k) {u : Value} (hv : RepA w L (good C L (lko heap) w) v u) : ∃ env', k env' heap ∧ Rel C L (lk env') (lko heap) (a.put d u) w := by
  unfold putF at hk
  cases d with
  | none => exact ⟨env, hk, h⟩
  | some t =>
    simp only at hk
    cases hb : Nat.blt t C.nt with
    | false => rw [hb] at hk; exact hk.elim
    | true =>
      rw [hb] at hk
      have hlt : t < C.nt := Nat.lt_of_succ_le (by simpa [Nat.blt] using hb)
      exact ⟨_, forceV_eq hk, by rw [lk_cons]; exact h.put hlt hv⟩
theorem putF_lt {nt t : Nat} {v : AVal} {env : Env} {heap : Heap} {k : Env → Heap → Prop} (hk : putF nt (some t) v env heap k) : t < nt := by
  unfold putF at hk
  simp only at hk
  cases hbl : Nat.blt t nt with
  | false => rw [hbl] at hk; exact hk.elim
  | true => exact Nat.lt_of_succ_le (by simpa [Nat.blt] using hbl)
theorem newK_ok {d : Option Tmp} {o : AObj} {v : Nat → AVal} {k : Env → Heap → Prop} (h : Rel C L (lk env) (lko heap) a w) (hk : newK C.nt d o v env heap k) {w' : World} {nb : Option Nat} {nc : Nat} {u : Value} (hb : Below w.heap.size w w') (hnb : ∀ b, nb = some b → w.heap.size ≤ b ∧ b < w'.heap.size)
    (ho : ∀ t, (∀ s, (look s env).free t = true) → RepO w' (good C (L.upd t nb nc) (hput (lko heap) t o) w') (L.upd t nb nc) t o ∧ RepA w' (L.upd t nb nc) (good C (L.upd t nb nc) (hput (lko heap) t o) w') (v t) u) :
    ∃ L' env' heap', k env' heap' ∧ Rel C L' (lk env') (lko heap') (a.put d u) w' := by
  unfold newK at hk
  cases d with
  | none => exact hk.elim
  | some t =>
    simp only at hk
    cases h1 : freeEnv t env with
    | false => rw [h1] at hk; exact hk.elim
    | true =>
      rw [h1] at hk
      simp only at hk
      cases h2 : freeHeap t heap with
      | false => rw [h2] at hk; exact hk.elim
      | true =>
        rw [h2] at hk
        simp only at hk
        obtain ⟨o1, o2⟩ := ho t (freeEnv_look h1)
        have hnew := h.new (h.lid_slot (putF_lt hk)) (freeEnv_look h1) (freeHeap_look h2) hb nb nc hnb (o := o) o1
        rw [← lko_cons] at hnew o2
        obtain ⟨env', k1, k2⟩ := putF_ok hnew hk o2
        exact ⟨_, env', _, k1, k2⟩
theorem putR_ok {d : Option Tmp} {k : Env → Heap → Prop} {exact_ : Bool} (h : Rel C L (lk env) (lko heap) a w) {w' : World} (hbel : Below w.heap.size w w') {r : AVal} {v : Value} (hk : putR C.nt d exact_ env heap k r) (hrep : RepR w w' (seen (good C L (lko heap) w) w exact_) r v) :
    ∃ L' env' heap', k env' heap' ∧ Rel C L' (lk env') (lko heap') (a.put d v) w' := by
  have hw' := h.world (hbel.mono h.below.size) (fun b hb => hbel.block b hb)
  have hnew : ∀ b, w.heap.size ≤ b → b < w'.heap.size → good C L (lko heap) w' b := fun b hb1 hb2 => ⟨hb2, .inr (.inl (Nat.le_trans h.below.size hb1)), fun ⟨id, ob, h1, h2⟩ => by have := (h.own0 id ob b h1 h2).2; omega⟩
  have plain : ∀ {r : AVal}, putP C.nt d exact_ env heap k r → r.data = true → RepA w' (L0 w.heap.size) (fun b => seen (good C L (lko heap) w) w exact_ b ∨ (w.heap.size ≤ b ∧ b < w'.heap.size)) r v →
      ∃ L' env' heap', k env' heap' ∧ Rel C L' (lk env') (lko heap') (a.put d v) w' := by
    intro r hk hd hrep
    unfold putP at hk
    cases exact_ with
    | true =>
      have hrep' : RepA w' L (good C L (lko heap) w') r v := hrep.data (Nat.le_refl _) hd fun b _ hb => ⟨by
        rcases hb with hb | ⟨hb1, hb2⟩
        · exact ⟨Nat.lt_of_lt_of_le hb.1 hbel.size, hb.2⟩
        · exact hnew b hb1 hb2, rfl⟩
      obtain ⟨env', k1, k2⟩ := putF_ok hw' hk hrep'
      exact ⟨_, _, _, k1, k2⟩
    | false =>
      simp only at hk
      cases hf : r.flat with
      | false => rw [hf] at hk; exact hk.elim
      | true =>
        rw [hf] at hk
        obtain ⟨env', k1, k2⟩ := putF_ok hw' hk (hrep.flat hf)
        exact ⟨_, _, _, k1, k2⟩
  cases r with
  | fresh t sz n f =>
    cases exact_ with
    | false => exact hk.elim
    | true =>
      obtain ⟨xs, hown, hf, hr⟩ := hrep
      refine newK_ok h hk hbel (nb := v.ownBlock) (nc := capOf v) (fun b hb => ⟨(hown.lt b hb).1, (hown.lt b hb).2⟩) fun t' _ => ?_
      refine row_of_own hown hf (fun k hk j x hx => (hr k hk j x hx).mono (Nat.le_refl _) fun b hlt hb => ⟨?_, rfl⟩) L t'
      obtain ⟨hb1, hb2⟩ := hb
      have hgb : good C L (lko heap) w' b := by
        rcases hb1 with hb | ⟨hb1, hb3⟩
        · exact ⟨Nat.lt_of_lt_of_le hb.1 hbel.size, hb.2⟩
        · exact hnew b hb1 hb3
      refine ⟨hgb.1, hgb.2.1, ?_⟩
      rintro ⟨i, oi, h1, h2⟩
      unfold hput at h1
      split at h1
      · rename_i hi
        simp only [Lay.upd, hi, if_true] at h2
        exact hb2 h2
      · rename_i hi
        simp only [Lay.upd, hi, if_false] at h2
        exact hgb.2.2 ⟨i, oi, h1, h2⟩
  | any => exact plain hk hrep.1 hrep.2
  | d x => exact plain hk hrep.1 hrep.2
  | agg l => exact plain hk hrep.1 hrep.2
  | tup l => exact plain hk hrep.1 hrep.2
  | fn => cases hrep.1
  | eptr => cases hrep.1
  | ptr => cases hrep.1
  | rsl => cases hrep.1
  | rptr => cases hrep.1
theorem pubK_ok {gd : Nat → Prop} {g : Nat → AVal} {h : Nat → Option AObj} (hslot : ∀ x, RepA w L gd (opnd g x) (a.eval x)) (ho : ∀ id o, h id = some o → RepO w gd L id o) (hb : ∀ id o b, h id = some o → L.blk id = some b → gd b ∧ b < w.heap.size) :
    ∀ {as : List Operand} {k : List AVal → Prop}, pubK g h k as → ∃ l, k l ∧ l.length = as.length ∧ ∀ (i : Nat) (x : AVal), l[i]? = some x → RepA w (L0 w.heap.size) gd x ((as.map a.eval).getD i undef)
  | [], k, hk => ⟨[], hk, rfl, fun i x hx => by simp at hx⟩
  | x :: r, k, hk => by
    have main : ∀ y, pubK g h (fun l => k (y :: l)) r → RepA w (L0 w.heap.size) gd y (a.eval x) → ∃ l, k l ∧ l.length = (x :: r).length ∧ ∀ (i : Nat) (z : AVal), l[i]? = some z → RepA w (L0 w.heap.size) gd z (((x :: r).map a.eval).getD i undef) := by
      intro y hk hy
      obtain ⟨l, e1, e2, e3⟩ := pubK_ok hslot ho hb hk
      refine ⟨y :: l, e1, by simp [e2], fun i z hz => ?_⟩
      cases i with
      | zero => simp only [List.getElem?_cons_zero, Option.some.injEq] at hz; subst hz; exact hy
      | succ i => simpa using e3 i z hz
    simp only [pubK] at hk
    cases hp : (opnd g x).pure with
    | true =>
      rw [hp] at hk
      exact main _ hk ((hslot x).enter hp)
    | false =>
      rw [hp] at hk
      obtain ⟨y, h1, h2, h3⟩ := viewK_ok (gd' := gd) (L0 w.heap.size) ho (fun b hb => hb) hb _ _ _ hk (hslot x)
      exact main y h1 h3
theorem ARes_ok (hT : TysOk C.P T) {o : Oper} {k : Env → Heap → Prop} (h : Rel C L (lk env) (lko heap) a w) (ares : ARes C.nt o.dst env heap k (aop T (fun t => look t env) (fun i => lookO i heap) o.op)) {next : Act → World → Prop} {Q : Exit → Act → World → Prop}
    (hn : ∀ L env heap a w, k env heap → Rel C L (lk env) (lko heap) a w → next a w) : o.wp C.P a w next Q := by
  cases hr : aop T (fun t => look t env) (fun i => lookO i heap) o.op with
  | none => rw [hr] at ares; exact ares.elim
  | some r =>
    rw [hr] at ares
    have hok := aop_ok hT h.holds hr
    have makes : ∀ {ob : AObj} {v : Nat → AVal}, newK C.nt o.dst ob v env heap k → (∀ d, (∀ t, (look t env).free d = true) → MakesOk C.P w (good C L (lko heap) w) L a o d (v d) ob) → o.wp C.P a w next Q := by
      intro ob v hk hok
      have hk' := hk
      unfold newK at hk'
      cases hd : o.dst with
      | none => rw [hd] at hk'; exact hk'.elim
      | some t =>
        rw [hd] at hk' hk
        simp only at hk'
        cases h1 : freeEnv t env with
        | false => rw [h1] at hk'; exact hk'.elim
        | true =>
          clear hk'
          obtain ⟨w', nb, nc, u, r1, r2, r3, r4⟩ := hok t (freeEnv_look h1)
          unfold newK at hk
          simp only at hk
          rw [h1] at hk
          simp only at hk
          cases h2 : freeHeap t heap with
          | false => rw [h2] at hk; exact hk.elim
          | true =>
            rw [h2] at hk
            simp only at hk
            have hst := stays_new (C := C) (L := L) (h := lko heap) (id := t) (nb := nb) (nc := nc) r2 r3 ob
            have hnew := h.new (h.lid_slot (putF_lt hk)) (freeEnv_look h1) (freeHeap_look h2) r2 nb nc r3 (o := ob) (r4 _ hst).1
            have hu := (r4 _ hst).2
            rw [← lko_cons] at hnew hu
            obtain ⟨env', k1, k2⟩ := putF_ok hnew hk hu
            unfold Oper.wp
            rw [r1, Oper.upon_value, hd]
            exact hn _ _ _ _ _ k1 k2
    have writes : ∀ {id : Nat} {ob : AObj}, (match setO id ob heap with | some h => putF C.nt o.dst .any env h k | none => False) → (∃ o0, lko heap id = some o0) → WritesOk C.P w (good C L (lko heap) w) L a o id ob → o.wp C.P a w next Q := by
      rintro id ob hk ⟨o0, ho0⟩ ⟨b, w', r1, r2, r3, r4, r5, r6, r7, r8⟩
      cases hs : setO id ob heap with
      | none => rw [hs] at hk; exact hk.elim
      | some h' =>
        rw [hs] at hk
        simp only at hk
        have hset := h.set ho0 r1 r3 r4 r5 r6 r7 r8
        rw [← lko_set hs] at hset
        unfold Oper.wp
        rcases r2 with r2 | ⟨u, r2⟩
        · obtain ⟨env', k1, k2⟩ := putF_ok hset hk (.any (v := undef))
          rw [r2, Oper.upon_skip]
          exact hn _ _ _ _ _ k1 k2
        · obtain ⟨env', k1, k2⟩ := putF_ok hset hk (.any (v := u))
          rw [r2, Oper.upon_value]
          exact hn _ _ _ _ _ k1 k2
    cases r with
    | val v =>
      obtain ⟨u, h1, h2⟩ := hok
      obtain ⟨env', k1, k2⟩ := putF_ok h ares h2
      unfold Oper.wp
      rw [h1, Oper.upon_value]
      exact hn _ _ _ _ _ k1 k2
    | cond v c =>
      obtain ⟨u, h1, h2⟩ := hok ares.1
      obtain ⟨env', k1, k2⟩ := putF_ok h ares.2 h2
      unfold Oper.wp
      rw [h1, Oper.upon_value]
      exact hn _ _ _ _ _ k1 k2
    | new ob => exact makes ares hok
    | set id ob => exact writes ares hok.1 hok.2
    | setc id ob c => exact writes ares.2 hok.1 (hok.2 ares.1)
    | mkrow t sz n f c =>
      cases c with
      | none => exact makes ares (fun d _ => hok (fun q hq => by cases hq) d)
      | some c => exact makes ares.2 (fun d _ => hok (fun q hq => by cases hq; exact ares.1) d)
    | ndb c =>
      obtain ⟨b, h1, h2⟩ := hok
      obtain ⟨env', k1, k2⟩ := putF_ok h (ares b h2) (.d (.b b))
      unfold Oper.wp
      rw [h1, Oper.upon_value]
      exact hn _ _ _ _ _ k1 k2
    | str c =>
      obtain ⟨l, hc, hk⟩ := ares
      obtain ⟨u, h1, h2⟩ := hok l hc
      obtain ⟨env', k1, k2⟩ := putF_ok h hk h2
      unfold Oper.wp
      rw [h1, Oper.upon_value]
      exact hn _ _ _ _ _ k1 k2
    | pub id v =>
      have hk := forceH_eq ares
      obtain ⟨⟨o0, ho0⟩, u, h1, h2⟩ := hok
      have hsub : ∀ i o, lko (dropH [id] heap) i = some o → lko heap i = some o := by
        intro i o e
        have e : lookO i (dropH [id] heap) = some o := e
        rw [lookO_dropH] at e
        exact (dropped_some e).1
      have hd := h.drop hsub
      have hv := h2 (good C L (lko (dropH [id] heap)) w) (fun b hb => good_drop hsub hb) (fun b hb => by
        have h3 := h.own0 id o0 b ho0 hb
        refine ⟨⟨h3.2, .inr h3.1, fun ⟨j, oj, k1, k2⟩ => ?_⟩, h3.2⟩
        have k1 : lookO j (dropH [id] heap) = some oj := k1
        rw [lookO_dropH] at k1
        obtain ⟨k3, k4⟩ := dropped_some (h0 := fun i => lookO i heap) k1
        have := h.inj j id oj o0 b k3 ho0 k2 hb
        subst this
        simp [memN] at k4)
      obtain ⟨env', k1, k2⟩ := putF_ok hd hk hv
      unfold Oper.wp
      rw [h1, Oper.upon_value]
      exact hn _ _ _ _ _ k1 k2
    | app old t sz n f c =>
      obtain ⟨hc, hk⟩ := ares
      obtain ⟨⟨t0, sz0, n0, f0, hold⟩, hmv⟩ := hok
      obtain ⟨w', nb, nc, u, r1, r2, r3, r4, r5, r6, r7, r8⟩ := hmv hc (fun b hb hg => hg.2.2 ⟨old, _, hold, hb⟩)
      unfold appK at hk
      cases he : killE old env with
      | none => rw [he] at hk; exact hk.elim
      | some env1 =>
        rw [he] at hk
        simp only at hk
        cases hh : killHp old heap with
        | none => rw [hh] at hk; exact hk.elim
        | some heap1 =>
          rw [hh] at hk
          simp only at hk
          unfold newK at hk
          cases hd : o.dst with
          | none => rw [hd] at hk; exact hk.elim
          | some t' =>
            rw [hd] at hk
            simp only at hk
            cases h1 : freeEnv t' env1 with
            | false => rw [h1] at hk; exact hk.elim
            | true =>
              rw [h1] at hk
              simp only at hk
              cases h2 : freeHeap t' heap1 with
              | false => rw [h2] at hk; exact hk.elim
              | true =>
                rw [h2] at hk
                simp only at hk
                have ke := killE_look he
                have kh := killHp_look hh
                obtain ⟨happ, hst⟩ := h.app (d := t') (h.lid_slot (putF_lt hk)) (o := .row t sz n f) hold (fun s => by rw [← ke]; exact freeEnv_look h1 s) (fun j oj hj => by rw [← kh] at hj; exact freeHeap_look h2 j oj hj) r2 r3 r4 r5 r6 nb nc r7 (fun gd' hst => (r8 t' gd' hst).1)
                have hu := (r8 t' _ hst).2
                rw [← ke, ← kh, ← lko_cons] at happ
                rw [← kh, ← lko_cons] at hu
                obtain ⟨env', k1, k2⟩ := putF_ok happ hk hu
                unfold Oper.wp
                rw [r1, Oper.upon_value, hd]
                exact hn _ _ _ _ _ k1 k2
theorem frzK_ok {k : Env → Heap → Prop} : ∀ {l : List (Nat × Operand)} {env : Env} {heap : Heap}, frzK k l env heap → Rel C L (lk env) (lko heap) a w → ∃ env' heap', k env' heap' ∧ Rel C L (lk env') (lko heap') a w
  | [], env, heap, hk, h => ⟨env, heap, hk, h⟩
  | (_, .const _) :: r, env, heap, hk, h => frzK_ok (l := r) hk h
  | (_, .func _) :: r, env, heap, hk, h => frzK_ok (l := r) hk h
  | (_, .global _) :: r, env, heap, hk, h => frzK_ok (l := r) hk h
  | (_, .tmp t) :: r, env, heap, hk, h => by
    unfold frzK at hk
    split at hk
    · rename_i id sz o n e
      have hsub : ∀ i o, lko (dropH [id] heap) i = some o → lko heap i = some o := by
        intro i o e
        have e : lookO i (dropH [id] heap) = some o := e
        rw [lookO_dropH] at e
        exact (dropped_some e).1
      have hd := h.drop hsub
      obtain ⟨y, h1, h2, h3⟩ := viewK_ok (gd := good C L (lko (dropH [id] heap)) w) (gd' := good C L (lko (dropH [id] heap)) w) L (fun i ob e => by
          refine (h.obj i ob (restrictH_some e)).mono (Nat.le_refl _) (fun b _ hb => ⟨⟨hb.1, hb.2.1, fun ⟨i, o, h1, h2⟩ => hb.2.2 ⟨i, o, hsub i o h1, h2⟩⟩, rfl⟩) (fun _ _ => rfl) (fun b _ hb => ⟨hb, rfl⟩) (fun _ => true) (fun _ _ => ⟨rfl, rfl⟩) rfl (fun _ h => by cases h)) (fun b hb => hb) (fun i ob b h1 h2 => by
          have h1' := restrictH_some h1
          have h3 := h.own0 i ob b h1' h2
          refine ⟨⟨h3.2, .inr h3.1, fun ⟨j, o, k1, k2⟩ => ?_⟩, h3.2⟩
          have hi := h.inj j i o ob b (hsub j o k1) h1' k2 h2
          subst hi
          have k1 : lookO j (dropH [id] heap) = some o := k1
          rw [lookO_dropH] at k1
          unfold restrictH at h1
          cases hm : memN j [id] with
          | true => rw [hm] at k1; simp at k1
          | false => rw [hm] at h1; cases h1) _ _ _ hk (by
            have := hd.slot t
            rw [show lk env t = .rsl id sz o n from e] at this
            exact this)
      have hk2 := forceH_eq h1
      refine frzK_ok (l := r) hk2 ?_
      rw [lk_cons]
      exact { hd with
        slot := fun s => by
          unfold gput
          split
          · rename_i e; subst e; exact h3
          · exact hd.slot s }
    · exact frzK_ok (l := r) hk h
theorem AStep_ok (hT : TysOk C.P T) {o : Oper} {k : Env → Heap → Prop} (h : Rel C L (lk env) (lko heap) a w) (hk : AStep C.P T C.nt o env heap k) {next : Act → World → Prop} {Q : Exit → Act → World → Prop}
    (hn : ∀ L env heap a w, k env heap → Rel C L (lk env) (lko heap) a w → next a w) : o.wp C.P a w next Q := by
  unfold AStep at hk
  split at hk
  · rename_i f as ts hop
    have hf := h.holds.opnd f
    generalize hfv : a.eval f = fv at hf
    split at hk
    · split at hk
      · rename_i fid caps e
        have e' : opnd (lk env) f = .fn fid caps := e
        rw [e'] at hf
        obtain ⟨l, p, hk, hlen, _, hargs⟩ := lendK_st hk
        have hk := forceH_eq hk
        have hsub : ∀ i o, lko (dropH p heap) i = some o → lko heap i = some o := by
          intro i o e
          have e : lookO i (dropH p heap) = some o := e
          rw [lookO_dropH] at e
          exact (dropped_some e).1
        have hd := h.drop hsub
        have hlko : lko (dropH p heap) = fun j => if memN j p = true then none else lko heap j := by
          funext j
          show lookO j (dropH p heap) = _
          rw [lookO_dropH]
        cases hf with
        | @fn _ _ _ cvs hcz hcr =>
          have hlen' : l.length = as.size := by rw [hlen]; simp
          obtain ⟨⟨fn, c, e1, e2, e3⟩, hcalls⟩ := ALend_ok hd hk (vs := as.map a.eval ++ cvs) (by rw [Array.size_append, List.length_append, capsN_len, Array.size_map]; omega) (fun i y hy => by
            by_cases hi : i < l.length
            · rw [List.getElem?_append_left hi] at hy
              have hi' : i < as.size := by omega
              have hx : (as.toList.map (opnd fun t => look t env))[i]? = some (opnd (lk env) as[i]) := by simp [hi']
              have := hargs C L (lk env) (lko heap) a w h (fun _ _ h => h) i _ y (a.eval as[i]) hx hy (h.holds.opnd _)
              rw [hlko]
              rw [Array.getD_eq_getD_getElem?, Array.getElem?_append_left (by simpa using hi'), Array.getElem?_map, Array.getElem?_eq_getElem hi']
              exact this
            · rw [List.getElem?_append_right (by omega)] at hy
              obtain ⟨x, hx, hr⟩ := capsN_get hy
              have := hr w L _ (good C L (lko (dropH p heap)) w) _ (hcr _ x hx)
              rw [Array.getD_eq_getD_getElem?, Array.getElem?_append_right (by simp; omega)]
              rw [Array.getD_eq_getD_getElem?, hlen'] at this
              simpa using this)
          have hname : fn.name ≠ "runtime.NumGoroutine" := by simpa using e2
          have hrun : (execOp a.eval o).run C.P w = .ok (.enter fid (as.map a.eval ++ cvs)) w := by
            simp [execOp, hop, resolve, hfv, Deferred.ofValue, invoke, callFunc, e1, hname, e3]
          unfold Oper.wp
          rw [hrun, Oper.upon_enter]
          refine hcalls.mono ?_
          rintro e' w' ⟨v, rfl, L', env', heap', k1, k2⟩
          exact hn _ _ _ _ _ k1 k2
      · exact hk.elim
    split at hk
    · split at hk
      · rename_i fid e
        have e' : opnd (lk env) f = .fn fid [] := e
        rw [e'] at hf
        generalize hids : rowsOf (fun t => look t env) as.toList = ids at hk
        have hsub : ∀ i o, lko (dropH ids heap) i = some o → lko heap i = some o := by
          intro i o e
          have e : lookO i (dropH ids heap) = some o := e
          rw [lookO_dropH] at e
          split at e
          · cases e
          · exact e
        have hd := h.drop hsub
        obtain ⟨l, ⟨post, ⟨⟨fn, c, e1, e2, e3⟩, hcalls⟩, hpost⟩, hl, hargs⟩ := pubK_ok (gd := good C L (lko (dropH ids heap)) w) (a := a) (g := lk env) (h := restrictH ids (lko heap)) (w := w) (L := L) hd.holds.opnd (fun id ob e => by
          refine (h.obj id ob (restrictH_some e)).mono (Nat.le_refl _) (fun b _ hb => ⟨⟨hb.1, hb.2.1, fun ⟨i, o, h1, h2⟩ => hb.2.2 ⟨i, o, hsub i o h1, h2⟩⟩, rfl⟩) (fun _ _ => rfl) (fun b _ hb => ⟨hb, rfl⟩) (fun _ => true) (fun _ _ => ⟨rfl, rfl⟩) rfl (fun _ h => by cases h)) (fun id ob b h1 h2 => by
          have h1' := restrictH_some h1
          have h3 := h.own0 id ob b h1' h2
          refine ⟨⟨h3.2, .inr h3.1, fun ⟨i, o, k1, k2⟩ => ?_⟩, h3.2⟩
          have hi := h.inj i id o ob b (hsub i o k1) h1' k2 h2
          subst hi
          have k1 : lookO i (dropH ids heap) = some o := k1
          rw [lookO_dropH] at k1
          unfold restrictH at h1
          cases hm : memN i ids with
          | true => rw [hm] at k1; simp at k1
          | false => rw [hm] at h1; cases h1) hk
        cases hf with
        | @fn _ _ _ cvs hcz hcr =>
          have hcv : cvs = #[] := by simpa using hcz
          subst hcv
          have hname : fn.name ≠ "runtime.NumGoroutine" := by simpa using e2
          have hrun : (execOp a.eval o).run C.P w = .ok (.enter fid (as.map a.eval ++ #[])) w := by
            simp [execOp, hop, resolve, hfv, Deferred.ofValue, invoke, callFunc, e1, hname, e3]
          unfold Oper.wp
          rw [hrun, Oper.upon_enter]
          refine (hcalls w (good C L (lko (dropH ids heap)) w) (as.map a.eval ++ #[]) (fun b hb => hb.1) (by simp [hl]) (fun i x hx => by
            have := hargs i x hx
            simpa [Array.getD_eq_getD_getElem?, List.getD_eq_getElem?_getD] using this)).mono ?_
          rintro e' w' ⟨v, r, rfl, hr, hbel, hrep⟩
          obtain ⟨L', env', heap', k1, k2⟩ := putR_ok hd hbel (hpost r hr) hrep
          exact hn _ _ _ _ _ k1 k2
      · exact hk.elim
    split at hk
    · rename_i fid caps e
      have e' : opnd (lk env) f = .fn fid caps := e
      rw [e'] at hf
      cases hf with
      | @fn _ _ _ cvs hcz hcr =>
        obtain ⟨l, b, hk, hl, hargs⟩ := argK_ok h.holds (fun b hb => hb.1) (fun b hb => h.old_lt hb) (fun id o b h1 h2 => (h.own0 id o b h1 h2).2) hcz hcr hk
        unfold ACall at hk
        obtain ⟨post, ⟨⟨fn, c, e1, e2, e3⟩, hcalls⟩, hpost⟩ := hk
        have hname : fn.name ≠ "runtime.NumGoroutine" := by simpa using e2
        have hrun : (execOp a.eval o).run C.P w = .ok (.enter fid (as.map a.eval ++ cvs)) w := by
          simp [execOp, hop, resolve, hfv, Deferred.ofValue, invoke, callFunc, e1, hname, e3]
        unfold Oper.wp
        rw [hrun, Oper.upon_enter]
        have hR : ∀ b', seen (good C L (lko heap) w) w b b' → b' < w.heap.size := by
          intro b' hb'
          cases b with
          | true => exact hb'.1
          | false => exact hb'
        refine (hcalls w (seen (good C L (lko heap) w) w b) (as.map a.eval ++ cvs) hR (by simp [hl]) (fun i x hx => by
          have := hargs b id i x hx
          simpa [Array.getD_eq_getD_getElem?, List.getD_eq_getElem?_getD, Array.getElem?_append, List.getElem?_append] using this)).mono ?_
        rintro e' w' ⟨v, r, rfl, hr, hbel, hrep⟩
        obtain ⟨L', env', heap', k1, k2⟩ := putR_ok h hbel (hpost r hr) hrep
        exact hn _ _ _ _ _ k1 k2
    · rename_i fid n ds e
      have e' : opnd (lk env) f = .d (.cl fid n ds) := e
      rw [e'] at hf
      cases hf with
      | d hcl =>
        obtain ⟨l, b, hk, hl, hargs⟩ := argK_ok h.holds (fun b hb => hb.1) (fun b hb => h.old_lt hb) (fun id o b h1 h2 => (h.own0 id o b h1 h2).2) (caps := []) (cvs := #[]) rfl (fun i x hx => by simp at hx) hk
        unfold ACall at hk
        obtain ⟨post, ⟨⟨fn, c, e1, e2, e3⟩, hcalls⟩, hpost⟩ := hk
        have hname : fn.name ≠ "runtime.NumGoroutine" := by simpa using e2
        obtain ⟨cvs, rfl, hcz, hall⟩ := cl_args hcl (l := l) (xs := as.map a.eval) (gd'' := seen (good C L (lko heap) w) w b) (by simpa using hl) (fun b' hb' => by
          cases b with
          | true => exact hb'
          | false => exact hb'.1) (fun i x hx => by
          have := hargs b id i x hx
          simpa [Array.getD_eq_getD_getElem?, List.getD_eq_getElem?_getD] using this)
        have hrun : (execOp a.eval o).run C.P w = .ok (.enter fid (as.map a.eval ++ cvs)) w := by
          simp [execOp, hop, resolve, hfv, Deferred.ofValue, invoke, callFunc, e1, hname, e3]
        unfold Oper.wp
        rw [hrun, Oper.upon_enter]
        have hR : ∀ b', seen (good C L (lko heap) w) w b b' → b' < w.heap.size := by
          intro b' hb'
          cases b with
          | true => exact hb'.1
          | false => exact hb'
        refine (hcalls w (seen (good C L (lko heap) w) w b) (as.map a.eval ++ cvs) hR (by simp [hl, hcz, (capsF_get n 0 ds).1]) hall).mono ?_
        rintro e' w' ⟨v, r, rfl, hr, hbel, hrep⟩
        obtain ⟨L', env', heap', k1, k2⟩ := putR_ok h hbel (hpost r hr) hrep
        exact hn _ _ _ _ _ k1 k2
    · exact hk.elim
  · rename_i src dst x hop
    split at hk
    · rename_i l e
      obtain ⟨hl, hk⟩ := hk
      obtain ⟨e1, e2, e, e3, e4⟩ := convS_some hT e
      have e1 : opnd (lk env) x = .d (.s l) := e1
      have hx : a.eval x = .string ⟨l.toArray⟩ := repA_s (e1 ▸ h.holds.opnd x)
      split at hk
      · obtain ⟨v, w', cap, r1, r2, r3, r4⟩ := conv_row (P := C.P) w l e2 e3 e4 hl
        obtain ⟨L', env', heap', k1, k2⟩ := newK_ok h hk r2 (nb := some w.heap.size) (nc := cap) (u := v) (fun b hb => by cases hb; exact ⟨Nat.le_refl _, r3⟩) fun t _ => r4 L t _
        unfold Oper.wp
        rw [show (execOp a.eval o).run C.P w = .ok (.value v) w' from by simp [execOp, hop, hx, r1, Result.andThen], Oper.upon_value]
        exact hn _ _ _ _ _ k1 k2
      obtain ⟨v, w', r1, r2, r3⟩ := conv_bytes (P := C.P) w (seen (good C L (lko heap) w) w true) l e2 e3 e4 hl
      obtain ⟨L', env', heap', k1, k2⟩ := putR_ok (exact_ := true) h r2 hk ⟨rfl, r3⟩
      unfold Oper.wp
      rw [show (execOp a.eval o).run C.P w = .ok (.value v) w' from by simp [execOp, hop, hx, r1, Result.andThen], Oper.upon_value]
      exact hn _ _ _ _ _ k1 k2
    · exact ARes_ok hT h (by rw [hop]; exact hk) hn
  · rename_i ty n els hop
    obtain ⟨env', heap', k1, k2⟩ := frzK_ok hk h
    exact ARes_ok hT k2 (by rw [hop]; exact k1) hn
  · exact ARes_ok hT h hk hn
end
section
variable {C : Ctx} {T : Tys} {L : Lay} {env : Env} {heap : Heap} {a : Act} {w : World}
theorem AOps_ok (hT : TysOk C.P T) {ops : Array Oper} {K : Env → Heap → Prop} {Q : Exit → Act → World → Prop} (hn : ∀ L env heap a w, K env heap → Rel C L (lk env) (lko heap) a w → Q .normal a w) :
    ∀ (l : List Oper) (L : Lay) (env : Env) (heap : Heap) (a : Act) (w : World), AOps C.P T C.nt ops K l env heap → Rel C L (lk env) (lko heap) a w → wpList C.P ops Q l a w
  | [], L, env, heap, a, w, h, hr => hn L env heap a w h hr
  | o :: r, L, env, heap, a, w, h, hr => by
    have step : ∀ env, AStep C.P T C.nt o env heap (AOps C.P T C.nt ops K r) → Rel C L (lk env) (lko heap) a w → o.wp C.P a w (wpList C.P ops Q r) Q := fun env h hr =>
      AStep_ok hT hr h fun L env heap a w hk hr => AOps_ok hT hn r L env heap a w hk hr
    have skip : ∀ env, putF C.nt o.dst (.tup []) env heap (AOps C.P T C.nt ops K r) → Rel C L (lk env) (lko heap) a w → wpList C.P ops Q r (a.put o.dst undef) w := fun env h hr => by
      obtain ⟨env', k1, k2⟩ := putF_ok hr h (.tup (vs := #[]) rfl fun i x hx => by simp at hx)
      exact AOps_ok hT hn r L env' heap _ w k1 k2
    unfold AOps at h
    unfold wpList
    cases hg : o.guard with
    | none =>
      rw [hg] at h
      rw [if_pos (by simp [Region.wanted, hg])]
      exact .inl (step env h hr)
    | some jw =>
      obtain ⟨j, want⟩ := jw
      rw [hg] at h
      simp only at h
      cases ht : gtmp ops j with
      | none => rw [ht] at h; exact h.elim
      | some t =>
        rw [ht] at h
        simp only at h
        have hslot : RepA w L (good C L (lko heap) w) (look t env) (a.tmps.getD t undef) := hr.slot t
        split at h
        · rename_i x e
          rw [e] at hslot
          have hb := repA_b hslot
          have hlt : t < a.tmps.size := by
            rcases Nat.lt_or_ge t a.tmps.size with h1 | h1
            · exact h1
            · rw [Array.getD_eq_getD_getElem?, Array.getElem?_eq_none h1] at hb; cases hb
          have hy : yielded ops a.tmps j = some x := by
            unfold yielded
            have : (ops[j]?).bind (·.dst) = some t := ht
            rw [this]
            rw [Array.getD_eq_getD_getElem?, Array.getElem?_eq_getElem hlt] at hb
            simp only [Option.bind_some, Array.getElem?_eq_getElem hlt]
            simp only [Option.getD_some] at hb
            rw [hb]
          have hr' : ∀ b, x = b → Rel C L (lk ((t, .d (.b b)) :: env)) (lko heap) a w := fun b hxb => {
            below := hr.below
            top := hr.top
            size := hr.size
            defers := hr.defers
            slot := fun s => by
              rw [lk_cons]
              unfold gput
              split
              · rename_i hs; rw [hs, hb, ← hxb]; exact .d (.b _)
              · exact hr.slot s
            obj := hr.obj
            inj := hr.inj
            own0 := hr.own0
            kept := hr.kept
            lidn := hr.lidn }
          have hwant : Region.wanted o (yielded ops a.tmps) = (x == want) := by simp [Region.wanted, hg, hy]
          rw [hwant]
          cases x <;> cases want <;> simp only at h
          · rw [if_pos (by decide)]; exact .inl (step _ h (hr' _ rfl))
          · rw [if_neg (by decide)]; exact skip _ h (hr' _ rfl)
          · rw [if_neg (by decide)]; exact skip _ h (hr' _ rfl)
          · rw [if_pos (by decide)]; exact .inl (step _ h (hr' _ rfl))
        · rename_i e
          rw [e] at hslot
          rw [if_neg]
          · exact skip _ h hr
          · have hb : a.tmps.getD t undef = undef := repA_tup0 hslot
            simp [Region.wanted, hg, yielded_undef ht hb]
        · exact h.elim
/-- Code, run from where env and heap hold, ends as Q says. -/
def AWp (C : Ctx) (c : Code) (Q : Exit → Env → Heap → Prop) (env : Env) (heap : Heap) : Prop :=
  ∀ L a w, Rel C L (lk env) (lko heap) a w → c.wp C.P (fun e a' w' => ∃ L' env' heap', Rel C L' (lk env') (lko heap') a' w' ∧ Q e env' heap') a w
section
variable {Q Q' : Exit → Env → Heap → Prop} {x y : Code}
theorem AWp.mono (h : AWp C x Q env heap) (hq : ∀ e env heap, Q e env heap → Q' e env heap) : AWp C x Q' env heap :=
  fun L a w hr => wp_mono (h L a w hr) fun e a w ⟨L', env', heap', h1, h2⟩ => ⟨L', env', heap', h1, hq _ _ _ h2⟩
theorem AWp.region (hT : TysOk C.P T) {id : Nat} {ops : Array Oper} (h : AOps C.P T C.nt ops (Q .normal) ops.toList env heap) : AWp C (.region id ops false) Q env heap :=
  fun L a w hr => wp_region_list (AOps_ok hT (fun L env heap a w hk hr => ⟨L, env, heap, hr, hk⟩) _ L env heap a w h hr)
theorem AWp.seq (h : AWp C x (fun e env heap => match e with | .normal => AWp C y Q env heap | e => Q e env heap) env heap) : AWp C (.seq x y) Q env heap :=
  fun L a w hr => wp_seq (wp_mono (h L a w hr) fun e a' w' ⟨L', env', heap', h1, h2⟩ => by
    cases e with
    | normal => exact h2 L' a' w' h1
    | _ => exact ⟨L', env', heap', h1, h2⟩)
theorem AWp.skip (h : Q .normal env heap) : AWp C .skip Q env heap := fun L a w hr => wp_skip ⟨L, env, heap, hr, h⟩
theorem AWp.exit {id : Nat} (h : Q (.exit id) env heap) : AWp C (.exit id) Q env heap := fun L a w hr => wp_exit ⟨L, env, heap, hr, h⟩
theorem AWp.ret (h : Q .ret env heap) : AWp C .ret Q env heap := fun L a w hr => wp_ret ⟨L, env, heap, hr, h⟩
theorem AWp.block {id : Nat} (h : AWp C x (fun e env heap => match e with | .exit i => (match Nat.beq i id with | true => Q .normal env heap | false => Q (.exit i) env heap) | e => Q e env heap) env heap) : AWp C (.block id x) Q env heap :=
  fun L a w hr => wp_block (wp_mono (h L a w hr) fun e a' w' ⟨L', env', heap', h1, h2⟩ => by
    cases e with
    | exit i =>
      simp only [Exit.inBlock]
      by_cases hi : i = id
      · subst hi
        rw [if_pos rfl]
        simp only [beq_self] at h2
        exact ⟨L', env', heap', h1, h2⟩
      · rw [if_neg hi]
        simp only [beq_false hi] at h2
        exact ⟨L', env', heap', h1, h2⟩
    | _ => exact ⟨L', env', heap', h1, h2⟩)
theorem AWp.cond {c : Operand} {b : Bool} (hc : opnd (fun t => look t env) c = .d (.b b)) (h1 : b = true → AWp C x Q env heap) (h0 : b = false → AWp C y Q env heap) : AWp C (.cond c x y) Q env heap :=
  fun L a w hr => by
    have hv := repA_b (hc ▸ hr.holds.opnd c)
    exact wp_cond_split hv (fun e => h1 e L a w hr) (fun e => h0 e L a w hr)
/-- What one object says, the other one says too. -/
def OLe : AObj → AObj → Prop
  | .box l a, .box m b => match b with | none => CLe l m | some t => CLe l m ∧ a = some t
  | .row t sz n f, .row t' sz' n' f' => t = t' ∧ sz = sz' ∧ n = n' ∧ ∀ k, k < n → f k = f' k
  | _, _ => False
where CLe : List AVal → List AVal → Prop
  | [], [] => True
  | x :: r, y :: s => x.le y ∧ CLe r s
  | _, _ => False
theorem CLe_get : ∀ {l m : List AVal}, OLe.CLe l m → m.length = l.length ∧ ∀ (i : Nat) (y : AVal), m[i]? = some y → ∃ x, l[i]? = some x ∧ x.le y
  | [], [], _ => ⟨rfl, fun i y h => by simp at h⟩
  | x :: r, y :: s, h => by
    obtain ⟨h1, h2⟩ := CLe_get h.2
    refine ⟨by simp [h1], fun i z hz => ?_⟩
    cases i with
    | zero => simp only [List.getElem?_cons_zero, Option.some.injEq] at hz; subst hz; exact ⟨x, rfl, h.1⟩
    | succ i => simp only [List.getElem?_cons_succ] at hz ⊢; exact h2 i z hz
  | [], _ :: _, h => h.elim
  | _ :: _, [], h => h.elim
theorem RepO.weaken {gd : Nat → Prop} {id : Nat} {o o' : AObj} (h : RepO w gd L id o) (hl : OLe o o') : RepO w gd L id o' := by
  cases h with
  | @box cells tag cs t b htag hb hh hz h1 hr =>
    cases o' with
    | row => exact hl.elim
    | box m tag' =>
      have hl' : OLe.CLe cells m ∧ ∀ t', tag' = some t' → t = t' := by
        cases tag' with
        | none => exact ⟨hl, fun _ h => by cases h⟩
        | some t' => exact ⟨hl.1, fun q hq => by cases hq; exact htag _ hl.2⟩
      obtain ⟨hl, ht⟩ := hl'
      obtain ⟨k1, k2⟩ := CLe_get hl
      exact .box ht hb hh (by omega) (fun i hi => h1 i (by omega)) fun i y hy => by
        obtain ⟨x, hx, hle⟩ := k2 i y hy
        exact hle.out _ _ _ _ (hr i x hx)
  | @row0 t sz f hb hc =>
    cases o' with
    | box => exact hl.elim
    | row t' sz' n' f' =>
      obtain ⟨rfl, rfl, rfl, _⟩ := hl
      exact .row0 hb hc
  | @row t sz n f cs b t2 mk hb hh hn hm hz hf hr hty hmk =>
    cases o' with
    | box => exact hl.elim
    | row t' sz' n' f' =>
      obtain ⟨rfl, rfl, rfl, hff⟩ := hl
      exact .row hb hh hn hm hz (fun k hk => by rw [← hff k hk]; exact hf k hk) (fun k hk j x hx => hr k hk j x (by rw [hff k hk]; exact hx)) hty hmk
theorem OLe.box_refl : ∀ l : List AVal, OLe.CLe l l
  | [] => trivial
  | x :: r => ⟨.refl x, OLe.box_refl r⟩
theorem OLe.refl (o : AObj) : OLe o o := by
  cases o with
  | box l tag =>
    cases tag with
    | none => exact OLe.box_refl l
    | some t => exact ⟨OLe.box_refl l, rfl⟩
  | row t sz n f => exact ⟨rfl, rfl, rfl, fun _ _ => rfl⟩
/-- env and heap say no more than env' and heap' do. -/
def Covers (env' : Env) (heap' : Heap) (env : Env) (heap : Heap) : Prop :=
  (∀ t, (look t env').le (look t env)) ∧ ∀ id o, lookO id heap = some o → ∃ o', lookO id heap' = some o' ∧ OLe o' o
theorem Rel.weaken {env' : Env} {heap' : Heap} (h : Rel C L (lk env') (lko heap') a w) (hc : Covers env' heap' env heap) : Rel C L (lk env) (lko heap) a w := by
  have hg : ∀ b, b < w.heap.size → good C L (lko heap') w b → good C L (lko heap) w b ∧ w.heap[b]? = w.heap[b]? := fun b _ hb => ⟨⟨hb.1, hb.2.1, fun ⟨id, o, h1, h2⟩ => by
    obtain ⟨o', e1, _⟩ := hc.2 id o h1
    exact hb.2.2 ⟨id, o', e1, h2⟩⟩, rfl⟩
  exact {
    below := h.below
    top := h.top
    size := h.size
    defers := h.defers
    slot := fun t => ((hc.1 t).out _ _ _ _ (h.slot t)).mono1 (Nat.le_refl _) hg (fun _ _ => rfl)
    obj := fun id o ho => by
      obtain ⟨o', e1, e2⟩ := hc.2 id o ho
      exact ((h.obj id o' e1).weaken e2).mono (Nat.le_refl _) hg (fun _ _ => rfl) (fun b _ hb => ⟨hb, rfl⟩) (fun _ => true) (fun _ _ => ⟨rfl, rfl⟩) rfl (fun _ h => by cases h)
    inj := fun i j oi oj b h1 h2 => by
      obtain ⟨o1, e1, _⟩ := hc.2 i oi h1
      obtain ⟨o2, e2, _⟩ := hc.2 j oj h2
      exact h.inj i j o1 o2 b e1 e2
    own0 := fun id o b h1 => by
      obtain ⟨o1, e1, _⟩ := hc.2 id o h1
      exact h.own0 id o1 b e1
    kept := fun id o hl h1 => by
      obtain ⟨o1, e1, _⟩ := hc.2 id o h1
      exact h.kept id o1 hl e1
    lidn := h.lidn }
theorem AWp.weaken {env' : Env} {heap' : Heap} (hc : Covers env' heap' env heap) (h : AWp C x Q env heap) : AWp C x Q env' heap' := fun L a w hr => h L a w (hr.weaken hc)
end
end
end Towline

/- The engine, part nine: loops, and whole functions. Over any program. -/
namespace Towline
open Go Go.RowKit
set_option linter.unusedVariables false

theorem least_of {p : Nat → Prop} (h : ∃ n, p n) : ∃ n, p n ∧ ∀ m, p m → n ≤ m := by
  obtain ⟨n, hn⟩ := h
  induction n using Nat.strongRecOn with
  | _ n ih =>
    by_cases hlt : ∃ m, m < n ∧ p m
    · obtain ⟨m, h1, h2⟩ := hlt
      exact ih m h1 h2
    · exact ⟨n, hn, fun m hm => by
        rcases Nat.lt_or_ge m n with h1 | h1
        · exact (hlt ⟨m, h1, hm⟩).elim
        · exact h1⟩
section
variable {C : Ctx} {T : Tys} {L : Lay} {env : Env} {heap : Heap} {a : Act} {w : World} {Q : Exit → Env → Heap → Prop}
/-- A loop: what holds at its head is given by x; a round lowers the measure. -/
theorem AWp.loop {X : Type} {c : Code} (E : X → Env) (H : X → Heap) (μ : X → Nat) (x0 : X) (h0 : Covers env heap (E x0) (H x0))
    (round : ∀ x, AWp C c (fun e env' heap' => match e with | .normal => ∃ x', μ x' < μ x ∧ Covers env' heap' (E x') (H x') | e => Q e env' heap') (E x) (H x)) : AWp C (.loop c) Q env heap := by
  intro L a w hr
  let I : Nat → Act → World → Prop := fun n a w => ∃ x L, μ x = n ∧ Rel C L (lk (E x)) (lko (H x)) a w
  let M : Act → World → Nat := fun a w => Classical.epsilon fun n => I n a w ∧ ∀ m, I m a w → n ≤ m
  have hM : ∀ a w, (∃ n, I n a w) → I (M a w) a w ∧ ∀ m, I m a w → M a w ≤ m := fun a w h => Classical.epsilon_spec (p := fun n => I n a w ∧ ∀ m, I m a w → n ≤ m) (least_of h)
  refine wp_loop (fun a w => ∃ n, I n a w) M ⟨_, x0, L, rfl, hr.weaken h0⟩ fun a w hI => ?_
  obtain ⟨⟨x, L, hx, hrel⟩, hmin⟩ := hM a w hI
  refine wp_mono (round x L a w hrel) fun e a' w' ⟨L', env', heap', h1, h2⟩ => ?_
  cases e with
  | normal =>
    obtain ⟨x', hlt, hcov⟩ := h2
    have hI' : I (μ x') a' w' := ⟨x', L', rfl, h1.weaken hcov⟩
    refine ⟨⟨_, hI'⟩, ?_⟩
    have := (hM a' w' ⟨_, hI'⟩).2 _ hI'
    omega
  | _ => exact ⟨L', env', heap', h1, h2⟩
end
def resK (T : Tys) (g : Nat → AVal) (h : Nat → Option AObj) (k : List AVal → Prop) : List ResultVar → Prop
  | [] => k []
  | .tmp t :: r => viewK h (fun v => resK T g h (fun l => k (v :: l)) r) (g t)
  | .cell a t :: r => match lookT t T with
    | some d => match aCells h (g a) with
      | some (l, none) => match aPart d l with
        | some v => viewK h (fun v => resK T g h (fun l => k (v :: l)) r) v
        | none => False
      | _ => False
    | none => False
def postL (post : AVal → Prop) : List AVal → Prop
  | [x] => post x
  | l => post (.tup l)
def argEnv : Nat → List AVal → Env
  | _, [] => []
  | n, x :: r => (n, x) :: argEnv (n + 1) r
theorem look_argEnv : ∀ (l : List AVal) (n t : Nat), look t (argEnv n l) = if n ≤ t ∧ t < n + l.length then l.getD (t - n) .any else .any
  | [], n, t => by rw [if_neg (by simp)]; rfl
  | x :: r, n, t => by
    show look t ((n, x) :: argEnv (n + 1) r) = _
    rw [look_cons, look_argEnv r (n + 1) t]
    by_cases h : t = n
    · subst h; simp
    · rw [if_neg h]
      by_cases h2 : n + 1 ≤ t ∧ t < n + 1 + r.length
      · rw [if_pos h2, if_pos (by simp; omega), show t - n = (t - (n + 1)) + 1 from by omega]; rfl
      · rw [if_neg h2, if_neg (by simp; omega)]
section
variable {C : Ctx} {T : Tys} {L : Lay} {env : Env} {heap : Heap} {a : Act} {w : World}
def resSem (tmps : Array Value) : ResultVar → Sem Value
  | .tmp t => Pure.pure (tmps.getD t undef)
  | .cell a t => do loadVar t (← asAddr (tmps.getD a undef))
theorem results_eq (fn : Func) (tmps : Array Value) : results fn tmps = (do let vs ← fn.results.mapM (resSem tmps); Pure.pure (if h : vs.size = 1 then vs[0] else .tuple vs)) := rfl
def bare (C : Ctx) (w : World) (b : Nat) : Prop := b < w.heap.size ∧ (C.R0 b ∨ C.w0.heap.size ≤ b ∨ C.lent b)
theorem resK_ok (hT : TysOk C.P T) (hr : Rel C L (lk env) (lko heap) a w) : ∀ (rs : List ResultVar) (k : List AVal → Prop), resK T (fun t => look t env) (fun i => lookO i heap) k rs →
    ∃ (vs : List Value) (l : List AVal), (rs.mapM (resSem a.tmps)).run C.P w = .ok vs w ∧ k l ∧ AVal.dataL l = true ∧ vs.length = l.length ∧ ∀ (i : Nat) (x : AVal), l[i]? = some x → RepA w (L0 C.w0.heap.size) (bare C w) x (vs.getD i undef)
  | [], k, hk => ⟨[], [], rfl, hk, rfl, rfl, fun i x hx => by simp at hx⟩
  | rv :: r, k, hk => by
    have hown : ∀ id o b, lko heap id = some o → L.blk id = some b → bare C w b ∧ b < w.heap.size := fun id o b h1 h2 => ⟨⟨(hr.own0 id o b h1 h2).2, .inr (hr.own0 id o b h1 h2).1⟩, (hr.own0 id o b h1 h2).2⟩
    have fin : ∀ (x : AVal) (v : Value), RepA w L (good C L (lko heap) w) x v → viewK (fun i => lookO i heap) (fun v => resK T (fun t => look t env) (fun i => lookO i heap) (fun l => k (v :: l)) r) x →
        ∀ m : Sem Value, m.run C.P w = .ok v w → ∃ (vs : List Value) (l : List AVal), (do let y ← m; let ys ← r.mapM (resSem a.tmps); Pure.pure (y :: ys)).run C.P w = .ok vs w ∧ k l ∧ AVal.dataL l = true ∧ vs.length = l.length ∧ ∀ (i : Nat) (x : AVal), l[i]? = some x → RepA w (L0 C.w0.heap.size) (bare C w) x (vs.getD i undef) := by
      intro x v hv hk m hm
      obtain ⟨y, h1, h2, h3⟩ := viewK_ok (L0 C.w0.heap.size) hr.obj (fun b hb => ⟨hb.1, hb.2.1⟩) hown x _ v hk hv
      obtain ⟨vs, l, e1, e2, e3, e4, e5⟩ := resK_ok hT hr r _ h1
      refine ⟨v :: vs, y :: l, by simp [hm, e1], e2, by simp [AVal.dataL, h2, e3], by simp [e4], fun i z hz => ?_⟩
      cases i with
      | zero => simp only [List.getElem?_cons_zero, Option.some.injEq] at hz; subst hz; exact h3
      | succ i => simp only [List.getElem?_cons_succ] at hz; simpa using e5 i z hz
    cases rv with
    | tmp t =>
      simp only [resK] at hk
      obtain ⟨vs, l, h⟩ := fin _ _ (hr.slot t) hk (resSem a.tmps (.tmp t)) rfl
      exact ⟨vs, l, by rw [List.mapM_cons]; exact h.1, h.2⟩
    | cell b t =>
      simp only [resK] at hk
      cases ht : lookT t T with
      | none => rw [ht] at hk; exact hk.elim
      | some d =>
        rw [ht] at hk
        simp only at hk
        cases hc : aCells (fun i => lookO i heap) (look b env) with
        | none => rw [hc] at hk; exact hk.elim
        | some lc =>
          obtain ⟨cl, c⟩ := lc
          rw [hc] at hk
          cases c with
          | some c => exact hk.elim
          | none =>
            simp only at hk
            cases hp : aPart d cl with
            | none => rw [hp] at hk; exact hk.elim
            | some x =>
              rw [hp] at hk
              simp only at hk
              obtain ⟨bb, off, hv', hl⟩ := aCells_ok hr.holds (hr.slot b) hc (fun q hq => by cases hq)
              obtain ⟨u, h1, h2⟩ := loadAt_ok (P := C.P) hT ht hp hl
              have h1' : (loadVar t ⟨bb, off, none⟩).run C.P w = .ok u w := by simpa [Instr.loadAt, Instr.sureAddr] using h1
              obtain ⟨vs, l, h⟩ := fin _ _ h2 hk (resSem a.tmps (.cell b t)) (by simp [resSem, hv', asAddr, h1'])
              exact ⟨vs, l, by rw [List.mapM_cons]; exact h.1, h.2⟩
end
theorem no_lent {P : Program} {nt : Nat} {w : World} {R : Nat → Prop} {L : Lay} (b : Nat) : ¬ Ctx.lent ⟨P, nt, w, R, [], L⟩ b := fun ⟨i, h, _⟩ => by cases h
/-- A whole function. -/
theorem PSpec.intro {P : Program} {T : Tys} {f : FuncId} {fn : Func} {c : Code} {args : List AVal} {post : AVal → Prop} (hT : TysOk P T) (hf : P.funcs[f]? = some fn) (hname : (fn.name == "runtime.NumGoroutine") = false) (hb : fn.body = some c) {nt : Nat} (hn : fn.ntmps = nt) (ha : args.length ≤ nt)
    {rs : List ResultVar} (hrs : fn.results.toList = rs) (h : ∀ w0 R0, AWp ⟨P, nt, w0, R0, [], L0 0⟩ c (fun e env heap => match e with | .normal => resK T (fun t => look t env) (fun i => lookO i heap) (postL post) rs | .ret => resK T (fun t => look t env) (fun i => lookO i heap) (postL post) rs | _ => False) (argEnv 0 args) []) :
    PSpec P f args (fun r => post r ∧ r.data = true) := by
  refine ⟨⟨fn, c, hf, hname, hb⟩, fun w R vs hR hz hargs => ?_⟩
  have hrel : Rel ⟨P, nt, w, R, [], L0 0⟩ (L0 w.heap.size) (lk (argEnv 0 args)) (lko []) { tmps := vs ++ Array.replicate (fn.ntmps - vs.size) undef, defers := [] } w := {
    below := BelowL.refl _ _
    top := fun b => ⟨fun h => ⟨h, no_lent b⟩, fun h => h.1⟩
    size := by simp [hn, hz]; omega
    defers := rfl
    slot := fun t => by
      show RepA _ _ _ (look t _) _
      rw [look_argEnv]
      split
      · rename_i hlt
        have hlt' : t < args.length := by omega
        have := hargs t args[t] (List.getElem?_eq_getElem hlt')
        simp only [Nat.sub_zero, List.getD_eq_getElem?_getD, List.getElem?_eq_getElem hlt', Option.getD_some]
        have e : (vs ++ Array.replicate (fn.ntmps - vs.size) undef).getD t undef = vs.getD t undef := by
          simp only [Array.getD_eq_getD_getElem?]
          rw [Array.getElem?_append_left (by omega)]
        rw [e]
        exact this.mono1 (Nat.le_refl _) (fun b hlt hb => ⟨⟨hlt, .inl hb, fun ⟨id, o, h1, _⟩ => by simp [lookO] at h1⟩, rfl⟩) (fun _ _ => rfl)
      · exact .any
    obj := fun id o h => by simp [lookO] at h
    inj := fun i j oi oj b h => by simp [lookO] at h
    own0 := fun id o b h => by simp [lookO] at h
    kept := fun id o h => by cases h
    lidn := fun i h => by cases h }
  refine calls_of_wp hf hb (wp_mono (h w R _ _ w hrel) fun e a' w' ⟨L', env', heap', h1, h2⟩ => ?_)
  have fin : resK T (fun t => look t env') (fun i => lookO i heap') (postL post) rs → a'.defers = [] ∧ ∃ v, (results fn a'.tmps).run P w' = .ok v w' ∧ ∃ v' r, Ending.returned v = .returned v' ∧ (post r ∧ r.data = true) ∧ Below w.heap.size w w' ∧ RepR w w' R r v' := by
    intro h2
    obtain ⟨us, l, e1, e2, e3, e4, e5⟩ := resK_ok (C := ⟨P, nt, w, R, [], L0 0⟩) hT h1 rs _ h2
    refine ⟨h1.defers, (if h : us.toArray.size = 1 then us.toArray[0] else .tuple us.toArray), ?_, ?_⟩
    · rw [results_eq, Array.mapM_eq_mapM_toList, hrs]
      simp only [Sem.run_bind, Sem.run_map, e1, Result.andThen_ok, Sem.run_pure]
    · have hw : ∀ b, bare ⟨P, nt, w, R, [], L0 0⟩ w' b → R b ∨ (w.heap.size ≤ b ∧ b < w'.heap.size) := fun b hb => hb.2.imp id fun h => ⟨h.resolve_right (no_lent b), hb.1⟩
      have hd := AVal.dataL_get e3
      have e5' : ∀ (i : Nat) (x : AVal), l[i]? = some x → RepA w' (L0 w.heap.size) (fun b => R b ∨ (w.heap.size ≤ b ∧ b < w'.heap.size)) x (us.getD i undef) := fun i x hx => (e5 i x hx).data (Nat.le_refl _) (hd i x hx) fun b _ hb => ⟨hw b hb, rfl⟩
      have tup : post (.tup l) → us.toArray.size ≠ 1 → ∃ v' r, Ending.returned (if h : us.toArray.size = 1 then us.toArray[0] else .tuple us.toArray) = .returned v' ∧ (post r ∧ r.data = true) ∧ Below w.heap.size w w' ∧ RepR w w' R r v' := by
        intro hp hne
        refine ⟨.tuple us.toArray, .tup l, by rw [dif_neg hne], ⟨hp, by simpa [AVal.data] using e3⟩, h1.below.plain no_lent, by simpa [AVal.data] using e3, .tup (by simpa using e4) fun i x hx => ?_⟩
        have := e5' i x hx
        simpa [Array.getD_eq_getD_getElem?, List.getD_eq_getElem?_getD] using this
      cases l with
      | nil => exact tup e2 (by simp at e4; simp [e4])
      | cons x r =>
        cases r with
        | cons y r => exact tup e2 (by simp at e4; simp [e4])
        | nil =>
          have hl : us.length = 1 := by simpa using e4
          obtain ⟨u, rfl⟩ := List.length_eq_one_iff.1 hl
          have := e5' 0 x rfl
          have hdx := hd 0 x rfl
          refine ⟨u, x, by simp, ⟨e2, hdx⟩, h1.below.plain no_lent, ?_⟩
          cases x with
          | fresh => cases hdx
          | _ => exact ⟨hdx, by simpa using this⟩
  cases e with
  | normal => exact fin h2
  | ret => exact fin h2
  | _ => exact h2.elim
/-- What a function answers that hands out a row of its own. -/
def resF (env : Env) (heap : Heap) (post : AVal → Prop) (t : Nat) : Prop :=
  match look t env with
  | .rsl id sz o n => match o with
    | 0 => match lookO id heap with
      | some (.row ty sz' n' f) => match Nat.blt ty markT with
        | true => sz = sz' ∧ n = n' ∧ ∃ m f', n' = m ∧ (∀ k, k < m → f k = f' k) ∧ post (.fresh ty sz m f')
        | false => False
      | _ => False
    | _ => False
  | .d (.v (.slice none 0 0)) => ∃ ty sz f', post (.fresh ty sz 0 f')
  | _ => False
theorem PSpec.introF {P : Program} {T : Tys} {f : FuncId} {fn : Func} {c : Code} {args : List AVal} {post : AVal → Prop} (hT : TysOk P T) (hf : P.funcs[f]? = some fn) (hname : (fn.name == "runtime.NumGoroutine") = false) (hb : fn.body = some c) {nt : Nat} (hn : fn.ntmps = nt) (ha : args.length ≤ nt)
    {t : Nat} (hrs : fn.results = #[.tmp t]) (h : ∀ w0 R0, AWp ⟨P, nt, w0, R0, [], L0 0⟩ c (fun e env heap => match e with | .normal => resF env heap post t | .ret => resF env heap post t | _ => False) (argEnv 0 args) []) :
    PSpec P f args post := by
  refine ⟨⟨fn, c, hf, hname, hb⟩, fun w R vs hR hz hargs => ?_⟩
  have hrel : Rel ⟨P, nt, w, R, [], L0 0⟩ (L0 w.heap.size) (lk (argEnv 0 args)) (lko []) { tmps := vs ++ Array.replicate (fn.ntmps - vs.size) undef, defers := [] } w := {
    below := BelowL.refl _ _
    top := fun b => ⟨fun h => ⟨h, no_lent b⟩, fun h => h.1⟩
    size := by simp [hn, hz]; omega
    defers := rfl
    slot := fun t => by
      show RepA _ _ _ (look t _) _
      rw [look_argEnv]
      split
      · rename_i hlt
        have hlt' : t < args.length := by omega
        have := hargs t args[t] (List.getElem?_eq_getElem hlt')
        simp only [Nat.sub_zero, List.getD_eq_getElem?_getD, List.getElem?_eq_getElem hlt', Option.getD_some]
        have e : (vs ++ Array.replicate (fn.ntmps - vs.size) undef).getD t undef = vs.getD t undef := by
          simp only [Array.getD_eq_getD_getElem?]
          rw [Array.getElem?_append_left (by omega)]
        rw [e]
        exact this.mono1 (Nat.le_refl _) (fun b hlt hb => ⟨⟨hlt, .inl hb, fun ⟨id, o, h1, _⟩ => by simp [lookO] at h1⟩, rfl⟩) (fun _ _ => rfl)
      · exact .any
    obj := fun id o h => by simp [lookO] at h
    inj := fun i j oi oj b h => by simp [lookO] at h
    own0 := fun id o b h => by simp [lookO] at h
    kept := fun id o h => by cases h
    lidn := fun i h => by cases h }
  refine calls_of_wp hf hb (wp_mono (h w R _ _ w hrel) fun e a' w' ⟨L', env', heap', h1, h2⟩ => ?_)
  have fin : resF env' heap' post t → a'.defers = [] ∧ ∃ v, (results fn a'.tmps).run P w' = .ok v w' ∧ ∃ v' r, Ending.returned v = .returned v' ∧ post r ∧ Below w.heap.size w w' ∧ RepR w w' R r v' := by
    intro h2
    refine ⟨h1.defers, a'.tmps.getD t undef, results_tmp hrs _ _ _, ?_⟩
    have hslot : RepA w' L' (good ⟨P, nt, w, R, [], L0 0⟩ L' (lko heap') w') (look t env') (a'.tmps.getD t undef) := h1.slot t
    generalize a'.tmps.getD t undef = v at hslot
    unfold resF at h2
    split at h2
    · rename_i id sz o n e
      rw [e] at hslot
      split at h2
      · split at h2
        · rename_i ty sz' n' ff hrow
          cases hbt : Nat.blt ty markT with
          | false => rw [hbt] at h2; exact h2.elim
          | true =>
          rw [hbt] at h2
          have hmt : ty < markT := Nat.le_of_ble_eq_true hbt
          obtain ⟨rfl, rfl, m, f', rfl, hff, hp⟩ := h2
          refine ⟨v, _, rfl, hp, h1.below.plain no_lent, ?_⟩
          have hro := h1.obj id _ hrow
          have hgood : ∀ b, good ⟨P, nt, w, R, [], L0 0⟩ L' (lko heap') w' b → (R b ∨ (w.heap.size ≤ b ∧ b < w'.heap.size)) ∧ L'.blk id ≠ some b := fun b hb => ⟨hb.2.1.imp (fun h => h) fun h => ⟨h.resolve_right (no_lent b), hb.1⟩, fun e => hb.2.2 ⟨id, _, hrow, e⟩⟩
          cases hslot with
          | rsl hcap hbb had =>
            have had := had (.inl rfl)
            subst had
            cases hro with
            | row0 hbk hck =>
              refine ⟨[], ?_, fun k hk => by omega, fun k hk => by omega⟩
              rw [hbk, hck]
              exact World.ownsRow_nil w' w.heap.size ty sz
            | @row _ _ _ _ cs b t9 mk hbk hh hn' hm hz' hfl hr hty hmk =>
              have ht9 := hty hmt
              subst ht9
              have hmk0 : mk = (0, 0) := hmk.resolve_right fun h => Nat.not_le_of_lt hmt h.1
              subst hmk0
              have hb0 := h1.own0 id _ b hrow hbk
              refine ⟨cs.toList.take (n * sz), ⟨?_, .inr ⟨b, L'.cap id, cs, by rw [hbk]; simp, hb0.1.resolve_right (no_lent b), hh, hn', hm, hz', rfl⟩⟩, fun k hk => by rw [← hff k hk]; exact hfl k hk, fun k hk j x hx => ?_⟩
              · rw [List.length_take, Array.length_toList, hz']
                exact Nat.min_eq_left (Nat.mul_le_mul_right _ hn')
              · rw [← hff k hk] at hx
                have hj : j < sz := by rw [← hfl k hk]; exact (List.getElem?_eq_some_iff.1 hx).1
                have hlt : k * sz + j < n * sz := by
                  have := Nat.mul_le_mul_right sz (show k + 1 ≤ n from hk)
                  rw [Nat.add_mul] at this; omega
                have := hr k hk j x hx
                rw [List.getD_eq_getElem?_getD, List.getElem?_take, if_pos hlt]
                have h' := this.mono (Nat.le_refl _) (good' := fun b => (R b ∨ (w.heap.size ≤ b ∧ b < w'.heap.size)) ∧ (Value.slice ((L'.blk id).map fun b => ⟨b, 0 * sz, none⟩) n (L'.cap id - 0)).ownBlock ≠ some b) (fun b' _ hb' => ⟨⟨(hgood b' hb').1, by
                  have := (hgood b' hb').2
                  rw [hbk] at this ⊢
                  simpa [Value.ownBlock] using this⟩, rfl⟩)
                simpa [Array.getD_eq_getD_getElem?] using h'
        · exact h2.elim
      · exact h2.elim
    · rename_i e
      rw [e] at hslot
      obtain ⟨ty, sz, f', hp⟩ := h2
      rw [repA_v hslot]
      exact ⟨_, _, rfl, hp, h1.below.plain no_lent, [], World.ownsRow_nil w' w.heap.size ty sz, fun k hk => by omega, fun k hk => by omega⟩
    · exact h2.elim
  cases e with
  | normal => exact fin h2
  | ret => exact fin h2
  | _ => exact h2.elim
end Towline

/- The engine: statements that draw their order: what each operation reads and writes; in whatever order, the same comes out. Over any program. -/
namespace Towline
open Go Go.RowKit
set_option linter.unusedVariables false

/-- What an operation reads and writes: slots, objects; which objects are new. -/
structure Rc where
  rt : List Nat
  rh : List Nat
  wt : List (Nat × AVal)
  wh : List (Nat × Option AObj)
  fr : List Nat
def Rc.g (r : Rc) (g : Nat → AVal) : Nat → AVal := fun t => match lookW t r.wt with | some v => v | none => g t
def Rc.h (r : Rc) (h : Nat → Option AObj) : Nat → Option AObj := fun t => match lookW t r.wh with | some v => v | none => h t
structure Agrees (r : Rc) (g0 : Nat → AVal) (h0 : Nat → Option AObj) (g : Nat → AVal) (h : Nat → Option AObj) : Prop where
  t : ∀ t ∈ r.rt, g t = g0 t
  o : ∀ i ∈ r.rh, h i = h0 i
  ft : ∀ d ∈ r.fr, ∀ t, (g t).free d = true
  fo : ∀ d ∈ r.fr, ∀ j o, h j = some o → j ≠ d ∧ o.free d = true
/-- From wherever slots and objects are as the record asks, the operation does what the record says. -/
def StepOk (C : Ctx) (o : Oper) (r : Rc) (g0 : Nat → AVal) (h0 : Nat → Option AObj) : Prop :=
  ∀ g h, Agrees r g0 h0 g h → ∀ L a w, Rel C L g h a w → ∀ (next : Act → World → Prop) (Q : Exit → Act → World → Prop), (∀ L' a' w', Rel C L' (r.g g) (r.h h) a' w' → next a' w') → o.wp C.P a w next Q
def restrict (rt : List Nat) (g : Nat → AVal) : Nat → AVal := fun t => match memN t rt with | true => g t | false => .any
theorem restrict_eq {rt : List Nat} {g g0 : Nat → AVal} (h : ∀ t ∈ rt, g t = g0 t) : restrict rt g = restrict rt g0 := by
  funext t
  unfold restrict
  cases hm : memN t rt with
  | true => exact h t (memN_of.1 hm)
  | false => rfl
theorem restrictH_eq {rh : List Nat} {h h0 : Nat → Option AObj} (e : ∀ t ∈ rh, h t = h0 t) : restrictH rh h = restrictH rh h0 := by
  funext t
  unfold restrictH
  cases hm : memN t rh with
  | true => exact e t (memN_of.1 hm)
  | false => rfl
section
variable {C : Ctx} {T : Tys} {L : Lay} {g : Nat → AVal} {h : Nat → Option AObj} {a : Act} {w : World}
theorem Holds.restrict {gd : Nat → Prop} (H : Holds w gd L g h a) (rt rh : List Nat) : Holds w gd L (restrict rt g) (restrictH rh h) a where
  slot t := by
    unfold Towline.restrict
    cases memN t rt with
    | true => exact H.slot t
    | false => exact .any
  obj id o e := H.obj id o (restrictH_some e)
/-- An object goes, another one comes; slots that speak of the one that went may stay: nobody follows them. -/
theorem Rel.swap {w' : World} (H : Rel C L g h a w) {id d : Nat} (hlid : d ∉ C.lid) (hne : d ≠ id) {o0 o : AObj} (hid : h id = some o0) (he : ∀ t, (g t).free d = true) (hh : ∀ j o, h j = some o → j ≠ d ∧ o.free d = true)
    (hos : w'.os = w.os) (htp : w'.tape = w.tape) (hout : w'.output = w.output) (hsz : w.heap.size ≤ w'.heap.size) (hw : ∀ b, b < w.heap.size → some b ≠ L.blk id → w'.heap[b]? = w.heap[b]?)
    (nb : Option Nat) (nc : Nat) (hnb : ∀ b, nb = some b → b < w'.heap.size ∧ (some b = L.blk id ∨ w.heap.size ≤ b))
    (ho : ∀ gd', Stays w w' (good C L h w) gd' → RepO w' gd' (L.upd d nb nc) d o) :
    Rel C (L.upd d nb nc) g (fun j => if j = d then some o else if j = id then none else h j) a w' ∧ Stays w w' (good C L h w) (good C (L.upd d nb nc) (fun j => if j = d then some o else if j = id then none else h j) w') := by
  have hown := fun b e => H.own0 id o0 b hid e
  have hkold : ∀ {j oj}, j ≠ d → (if j = d then some o else if j = id then none else h j) = some oj → h j = some oj ∧ j ≠ id := by
    intro j oj hj e
    rw [if_neg hj] at e
    split at e
    · cases e
    · rename_i h1; exact ⟨e, h1⟩
  have hgood : Stays w w' (good C L h w) (good C (L.upd d nb nc) (fun j => if j = d then some o else if j = id then none else h j) w') := by
    intro b hlt hgb
    have hne' : some b ≠ L.blk id := fun e => hgb.2.2 ⟨id, o0, hid, e.symm⟩
    refine ⟨⟨Nat.lt_of_lt_of_le hlt hsz, hgb.2.1, ?_⟩, hw b hlt hne'⟩
    rintro ⟨i, oi, h1, h2⟩
    by_cases hi : i = d
    · simp only [Lay.upd, hi, if_true] at h2
      rcases (hnb b h2).2 with e | e
      · exact hne' e
      · omega
    · simp only [Lay.upd, hi, if_false] at h2
      obtain ⟨e1, _⟩ := hkold hi h1
      exact hgb.2.2 ⟨i, oi, e1, h2⟩
  refine ⟨?_, hgood⟩
  have hL : ∀ i, (i != d) = true → (L.upd d nb nc).blk i = L.blk i ∧ (L.upd d nb nc).cap i = L.cap i := by
    intro i hi
    have : i ≠ d := by simpa using hi
    simp [Lay.upd, this]
  have hp : ∀ i, (i != d) = false → i = d := by intro i hi; simpa using hi
  have ht : ∀ b, b < w.heap.size → L.old b → (L.upd d nb nc).old b ∧ w'.heap[b]? = w.heap[b]? := fun b hlt hb => ⟨hb, hw b hlt (fun e => H.old_own hb hid e.symm)⟩
  exact {
    below := H.below.next hos htp hout hsz fun k hk hnl => hw k (Nat.lt_of_lt_of_le hk H.below.size) (fun e => by rcases (hown k e.symm).1 with h1 | h1; omega; exact hnl h1)
    top := H.top
    size := H.size
    defers := H.defers
    slot := fun t => (H.slot t).mono hsz (· != d) hL ht hgood (fun i hi => by rw [hp i hi]; exact he t)
    obj := fun j oj hj => by
      by_cases hi : j = d
      · rw [if_pos hi] at hj
        cases hj
        rw [hi]
        exact ho _ hgood
      · obtain ⟨e1, e2⟩ := hkold hi hj
        have hblk : ∀ b, L.blk j = some b → w'.heap[b]? = w.heap[b]? := fun b hb => hw b (H.own0 j oj b e1 hb).2 (fun e => e2 (H.inj j id oj o0 b e1 hid hb e.symm))
        exact (H.obj j oj e1).mono hsz hgood hblk ht (· != d) hL (by simpa using hi) (fun i' hi' => by rw [hp i' hi']; exact (hh j oj e1).2)
    inj := fun i j oi oj b hi hj hbi hbj => by
      simp only [Lay.upd] at hbi hbj
      by_cases h1 : i = d
      · by_cases h2 : j = d
        · rw [h1, h2]
        · rw [if_neg h2] at hbj
          rw [if_pos h1] at hbi
          obtain ⟨e1, e2⟩ := hkold h2 hj
          rcases (hnb b hbi).2 with e | e
          · exact (e2 (H.inj j id oj o0 b e1 hid hbj e.symm)).elim
          · have := (H.own0 j oj b e1 hbj).2; omega
      · rw [if_neg h1] at hbi
        obtain ⟨e1, e2⟩ := hkold h1 hi
        by_cases h2 : j = d
        · rw [if_pos h2] at hbj
          rcases (hnb b hbj).2 with e | e
          · exact (e2 (H.inj i id oi o0 b e1 hid hbi e.symm)).elim
          · have := (H.own0 i oi b e1 hbi).2; omega
        · rw [if_neg h2] at hbj
          obtain ⟨e1', _⟩ := hkold h2 hj
          exact H.inj i j oi oj b e1 e1' hbi hbj
    own0 := fun i oi b hi hbi => by
      simp only [Lay.upd] at hbi
      by_cases h1 : i = d
      · rw [if_pos h1] at hbi
        obtain ⟨e1, e2⟩ := hnb b hbi
        refine ⟨?_, e1⟩
        rcases e2 with e | e
        · exact (hown b e.symm).1
        · exact .inl (Nat.le_trans H.below.size e)
      · rw [if_neg h1] at hbi
        obtain ⟨e1, _⟩ := hkold h1 hi
        have := H.own0 i oi b e1 hbi
        exact ⟨this.1, Nat.lt_of_lt_of_le this.2 hsz⟩
    kept := fun i oi hl hi => by
      have hne : i ≠ d := fun e => hlid (e ▸ hl)
      simp only [Lay.upd, if_neg hne]
      obtain ⟨e1, _⟩ := hkold hne hi
      exact H.kept i oi hl e1
    lidn := H.lidn }
end
mutual
def idsA : AVal → List Nat
  | .ptr id _ => [id]
  | .rsl id _ _ _ => [id]
  | .rptr id _ _ _ => [id]
  | .agg l => idsL l
  | .tup l => idsL l
  | .fn _ l => idsL l
  | _ => []
def idsL : List AVal → List Nat
  | [] => []
  | x :: r => idsA x ++ idsL r
end
def tmpsOf : List Operand → List Nat
  | [] => []
  | .tmp t :: r => t :: tmpsOf r
  | _ :: r => tmpsOf r
def idsOf (g : Nat → AVal) : List Nat → List Nat
  | [] => []
  | t :: r => idsA (g t) ++ idsOf g r
def putD (nt : Nat) (d : Option Tmp) (v : AVal) (rt rh : List Nat) (env : Env) (heap : Heap) (k : Rc → Env → Heap → Prop) : Prop :=
  match d with
  | some t => match Nat.blt t nt with
    | true => forceV (fun v => k ⟨rt, rh, [(t, v)], [], []⟩ ((t, v) :: env) heap) v
    | false => False
  | none => k ⟨rt, rh, [], [], []⟩ env heap
def setD (nt : Nat) (d : Option Tmp) (id : Nat) (o : AObj) (rt rh : List Nat) (env : Env) (heap : Heap) (k : Rc → Env → Heap → Prop) : Prop :=
  match setO id o heap with
  | some h => match d with
    | some t => match Nat.blt t nt with
      | true => k ⟨rt, id :: rh, [(t, .any)], [(id, some o)], []⟩ ((t, .any) :: env) h
      | false => False
    | none => k ⟨rt, id :: rh, [], [(id, some o)], []⟩ env h
  | none => False
def newD (nt : Nat) (d : Option Tmp) (o : AObj) (v : Nat → AVal) (rt rh : List Nat) (env : Env) (heap : Heap) (k : Rc → Env → Heap → Prop) : Prop :=
  match d with
  | some t => match Nat.blt t nt with
    | true => match lookO t heap with
      | none => k ⟨rt, rh, [(t, v t)], [(t, some o)], [t]⟩ ((t, v t) :: env) ((t, o) :: heap)
      | some _ => False
    | false => False
  | none => False
def remO (id : Nat) : Heap → Heap
  | [] => []
  | (j, o) :: r => match Nat.beq j id with
    | true => remO id r
    | false => (j, o) :: remO id r
def appD (nt : Nat) (d : Option Tmp) (old : Nat) (o : AObj) (v : Nat → AVal) (rt rh : List Nat) (env : Env) (heap : Heap) (k : Rc → Env → Heap → Prop) : Prop :=
  match d with
  | some t => match Nat.blt t nt with
    | true => match Nat.beq t old with
      | true => False
      | false => match lookO t heap with
        | none => forceH (fun heap => k ⟨rt, old :: rh, [(t, v t)], [(t, some o), (old, none)], [t]⟩ ((t, v t) :: env) ((t, o) :: heap)) (remO old heap)
        | some _ => False
    | false => False
  | none => False
def AResD (nt : Nat) (d : Option Tmp) (rt rh : List Nat) (env : Env) (heap : Heap) (k : Rc → Env → Heap → Prop) : Option Res → Prop
  | none => False
  | some (.val v) => putD nt d v rt rh env heap k
  | some (.cond v c) => c ∧ putD nt d v rt rh env heap k
  | some (.new o) => newD nt d o (fun t => .ptr t 0) rt rh env heap k
  | some (.set id o) => setD nt d id o rt rh env heap k
  | some (.setc id o c) => c ∧ setD nt d id o rt rh env heap k
  | some (.mkrow t sz n f c) => match c with
    | some c => c ∧ newD nt d (.row t sz n f) (fun d => .rsl d sz 0 n) rt rh env heap k
    | none => newD nt d (.row t sz n f) (fun d => .rsl d sz 0 n) rt rh env heap k
  | some (.ndb _) => False
  | some (.pub _ _) => False
  | some (.str c) => ∃ l, c l ∧ putD nt d (.d (.s l)) rt rh env heap k
  | some (.app old t sz n f c) => c ∧ appD nt d old (.row t sz n f) (fun d => .rsl d sz 0 n) rt rh env heap k
def putRD (nt : Nat) (d : Option Tmp) (exact : Bool) (rt rh : List Nat) (env : Env) (heap : Heap) (k : Rc → Env → Heap → Prop) (r : AVal) : Prop :=
  match r with
  | .fresh t sz n f => match exact with
    | true => newD nt d (.row t sz n f) (fun d => .rsl d sz 0 n) rt rh env heap k
    | false => False
  | r => match exact with
    | true => putD nt d r rt rh env heap k
    | false => match r.flat with
      | true => putD nt d r rt rh env heap k
      | false => False
def ACallD (P : Program) (nt : Nat) (d : Option Tmp) (rt rh : List Nat) (env : Env) (heap : Heap) (k : Rc → Env → Heap → Prop) (f : FuncId) (args : List AVal) (exact : Bool) : Prop :=
  ∃ r, PSpec P f args (· = r) ∧ putRD nt d exact rt rh env heap k r
def ABackD (nt : Nat) (dst : Option Tmp) (S p : List Nat) (rt rh : List Nat) (env : Env) (heap : Heap) (k : Rc → Env → Heap → Prop) (r : AVal) (hl' : Heap) : Prop :=
  forceN (fun fr => match ltAll fr with
    | true => deepV (fun r' => deepH (fun hm => forceH (fun hn => match dst with
      | some t => match Nat.blt t nt with
        | true => k ⟨rt, S ++ p ++ rh, [(t, r')], whOf hm (S ++ p), fr⟩ ((t, r') :: env) hn
        | false => False
      | none => k ⟨rt, S ++ p ++ rh, [], whOf hm (S ++ p), fr⟩ env hn) (hm ++ dropH S heap)) (mapH (tauOf (sigI S lentBase) hl' (newBase env dst)) hl')) (r.map (tauOf (sigI S lentBase) hl' (newBase env dst)))
    | false => False) (firsts (newOf (sigI S lentBase) hl' (newBase env dst)))
def ALendD (P : Program) (nt : Nat) (dst : Option Tmp) (rt rh : List Nat) (env : Env) (heap : Heap) (k : Rc → Env → Heap → Prop) (f : FuncId) (args : List AVal) (p : List Nat) : Prop :=
  forceN (fun S => match nodupN S with
    | true => match allIn (fun i => lookO i heap) S with
      | true => deepL (fun args' => deepH (fun hl => ∃ r hl', LSpec P f args' hl (fun a b => a = r ∧ b = hl') ∧ ABackD nt dst S p rt rh env heap k r hl') (pickH (sig S lentBase) (fun i => lookO i heap) S lentBase)) (AVal.mapL (sig S lentBase) args)
      | false => False
    | false => False) (reach 500 (fun i => lookO i heap) args [])
def AStepD (P : Program) (T : Tys) (nt : Nat) (rt rh : List Nat) (o : Oper) (env : Env) (heap : Heap) (k : Rc → Env → Heap → Prop) : Prop :=
  match o.op with
  | .call { callee := .value f, args := as, .. } => match lentTo T (opnd (restrict rt fun t => look t env) f) with
   | some ms => match opnd (restrict rt fun t => look t env) f with
    | .fn f caps => lendK (restrictH rh fun i => lookO i heap) (fun l p => forceH (fun hp => ALendD P nt o.dst rt rh env hp k f (l ++ capsN caps) p) (dropH p heap)) ms (as.toList.map (opnd (restrict rt fun t => look t env))) []
    | _ => False
   | none => match opnd (restrict rt fun t => look t env) f with
    | .fn f caps => argK (restrict rt fun t => look t env) (restrictH rh fun i => lookO i heap) caps (ACallD P nt o.dst rt rh env heap k f) as.toList
    | .d (.cl f n ds) => argK (restrict rt fun t => look t env) (restrictH rh fun i => lookO i heap) [] (fun l b => ACallD P nt o.dst rt rh env heap k f (l ++ capsF n 0 ds) b) as.toList
    | _ => False
  | op => AResD nt o.dst rt rh env heap k (aop T (restrict rt fun t => look t env) (restrictH rh fun i => lookO i heap) op)
end Towline

/- The engine: an operation of a statement that draws its order does what its record says. Over any program. -/
namespace Towline
open Go Go.RowKit
set_option linter.unusedVariables false
theorem Rc.g_one {rt rh : List Nat} {t : Nat} {v : AVal} {wh : List (Nat × Option AObj)} {fr : List Nat} (g : Nat → AVal) : Rc.g ⟨rt, rh, [(t, v)], wh, fr⟩ g = gput g t v := by
  funext s
  unfold Rc.g gput
  rw [lookW_cons]
  by_cases h : s = t
  · simp [h]
  · simp [h, lookW]
theorem Rc.g_nil {rt rh : List Nat} {wh : List (Nat × Option AObj)} {fr : List Nat} (g : Nat → AVal) : Rc.g ⟨rt, rh, [], wh, fr⟩ g = g := rfl
theorem Rc.h_nil {rt rh : List Nat} {wt : List (Nat × AVal)} {fr : List Nat} (h : Nat → Option AObj) : Rc.h ⟨rt, rh, wt, [], fr⟩ h = h := rfl
theorem Rc.h_one {rt rh : List Nat} {t : Nat} {o : AObj} {wt : List (Nat × AVal)} {fr : List Nat} (h : Nat → Option AObj) : Rc.h ⟨rt, rh, wt, [(t, some o)], fr⟩ h = hput h t o := by
  funext s
  unfold Rc.h hput
  rw [lookW_cons]
  by_cases e : s = t
  · simp [e]
  · simp [e, lookW]
theorem Rc.h_two {rt rh : List Nat} {t old : Nat} {o : AObj} {wt : List (Nat × AVal)} {fr : List Nat} (h : Nat → Option AObj) : Rc.h ⟨rt, rh, wt, [(t, some o), (old, none)], fr⟩ h = fun j => if j = t then some o else if j = old then none else h j := by
  funext s
  unfold Rc.h
  rw [lookW_cons, lookW_cons]
  by_cases e : s = t
  · simp [e]
  · by_cases e2 : s = old
    · subst e2; simp [e]
    · simp [e, e2, lookW]
theorem lko_rem (id : Nat) : ∀ heap : Heap, lko (remO id heap) = fun j => if j = id then none else lko heap j
  | [] => by funext j; simp [remO, lookO]
  | (k, o) :: r => by
    have ih := lko_rem id r
    have eq : remO id ((k, o) :: r) = (match Nat.beq k id with | true => remO id r | false => (k, o) :: remO id r) := rfl
    rw [eq]
    by_cases h : k = id
    · subst h
      rw [beq_self]
      simp only
      rw [ih, lko_cons]
      funext j
      unfold hput
      by_cases hj : j = k
      · simp [hj]
      · simp [hj]
    · rw [beq_false h]
      simp only
      rw [lko_cons, lko_cons, ih]
      funext j
      unfold hput
      by_cases hj : j = k
      · subst hj; simp [h]
      · simp [hj]
section
variable {h : Nat → Option AObj} {g : Nat → AVal}
/-- y reads as x does, in whatever world. -/
def Reads (h : Nat → Option AObj) (x y : AVal) : Prop := ∀ (w : World) (gd gd' : Nat → Prop) (L L' : Lay) (v : Value), (∀ id o, h id = some o → RepO w gd L id o) → (∀ b, gd b → gd' b) → (∀ id o b, h id = some o → L.blk id = some b → gd' b ∧ b < w.heap.size) → RepA w L gd x v → RepA w L' gd' y v
mutual
theorem viewK_st : ∀ (x : AVal) (k : AVal → Prop), viewK h k x → ∃ y, k y ∧ y.data = true ∧ Reads h x y
  | .any, k, hk => ⟨.any, hk, rfl, fun _ _ _ _ _ _ _ _ _ _ => .any⟩
  | .d x, k, hk => ⟨.d x, hk, rfl, fun w gd gd' L L' v _ hg _ hv => hv.data (Nat.le_refl _) rfl (fun b _ hb => ⟨hg b hb, rfl⟩)⟩
  | .agg l, k, hk => by
    obtain ⟨m, e1, e2, e3, e4⟩ := viewL_st l _ hk
    refine ⟨.agg m, e1, e2, fun w gd gd' L L' v ho hg hb hv => ?_⟩
    obtain ⟨vs, rfl, k1, k2, k3⟩ := repA_agg hv
    exact .agg (by omega) (fun i hi => k2 i (by omega)) (e4 w gd gd' L L' (fun i => vs.getD i undef) ho hg hb k3)
  | .tup l, k, hk => by
    obtain ⟨m, e1, e2, e3, e4⟩ := viewL_st l _ hk
    refine ⟨.tup m, e1, e2, fun w gd gd' L L' v ho hg hb hv => ?_⟩
    cases hv with
    | @tup _ _ vs hz hr => exact .tup (by omega) (e4 w gd gd' L L' (fun i => vs.getD i undef) ho hg hb hr)
  | .fn f l, k, hk => by
    simp only [viewK] at hk
    cases hc : clF h l with
    | none => rw [hc] at hk; exact hk.elim
    | some m =>
      rw [hc] at hk
      exact ⟨_, hk, rfl, fun w gd gd' L L' v ho hg hb hv => .d (fn_view ho hg hb hc hv)⟩
  | .rsl id sz o n, k, hk => by
    simp only [viewK] at hk
    cases hid : h id with
    | none => rw [hid] at hk; exact hk.elim
    | some ob =>
      rw [hid] at hk
      cases ob with
      | box => exact hk.elim
      | row t sz' n' f =>
        simp only at hk
        cases hbq : Nat.beq sz sz' with
        | false => rw [hbq] at hk; exact hk.elim
        | true =>
          rw [hbq] at hk
          have := Nat.eq_of_beq_eq_true hbq
          subst this
          simp only at hk
          obtain ⟨hle, hk⟩ := hk
          cases o with
          | zero => exact ⟨_, hk, rfl, fun w gd gd' L L' v ho hg hb hv => .d (by simpa using row_view ho hg hb hid hle hv)⟩
          | succ o => exact ⟨_, hk, rfl, fun w gd gd' L L' v ho hg hb hv => .d (row_view ho hg hb hid hle hv)⟩
  | .eptr .., k, hk => hk.elim
  | .ptr .., k, hk => hk.elim
  | .rptr .., k, hk => hk.elim
  | .fresh .., k, hk => hk.elim
theorem viewL_st : ∀ (l : List AVal) (k : List AVal → Prop), viewL h k l → ∃ m, k m ∧ AVal.dataL m = true ∧ m.length = l.length ∧
    ∀ (w : World) (gd gd' : Nat → Prop) (L L' : Lay) (vs : Nat → Value), (∀ id o, h id = some o → RepO w gd L id o) → (∀ b, gd b → gd' b) → (∀ id o b, h id = some o → L.blk id = some b → gd' b ∧ b < w.heap.size) → (∀ (i : Nat) (x : AVal), l[i]? = some x → RepA w L gd x (vs i)) → ∀ (i : Nat) (x : AVal), m[i]? = some x → RepA w L' gd' x (vs i)
  | [], k, hk => ⟨[], hk, rfl, rfl, fun w gd gd' L L' vs _ _ _ _ i x hx => by simp at hx⟩
  | x :: r, k, hk => by
    simp only [viewL] at hk
    obtain ⟨y, h1, h2, h3⟩ := viewK_st x _ hk
    obtain ⟨m, e1, e2, e3, e4⟩ := viewL_st r _ h1
    refine ⟨y :: m, e1, by simp [AVal.dataL, h2, e2], by simp [e3], fun w gd gd' L L' vs ho hg hb hv i z hz => ?_⟩
    cases i with
    | zero => simp only [List.getElem?_cons_zero, Option.some.injEq] at hz; subst hz; exact h3 w gd gd' L L' _ ho hg hb (hv 0 x rfl)
    | succ i => simp only [List.getElem?_cons_succ] at hz; exact e4 w gd gd' L L' (fun i => vs (i + 1)) ho hg hb (fun i z hz => hv (i + 1) z hz) i z hz
end
/-- What holds when a call begins. -/
structure Begins (w : World) (gd : Nat → Prop) (L : Lay) (g : Nat → AVal) (h : Nat → Option AObj) (a : Act) : Prop where
  holds : Holds w gd L g h a
  gd : ∀ b, gd b → b < w.heap.size
  top : ∀ b, L.old b → b < w.heap.size
  own : ∀ id o b, h id = some o → L.blk id = some b → b < w.heap.size
def Caps (g : Nat → AVal) (h : Nat → Option AObj) (x y : AVal) : Prop := ∀ (w : World) (gd : Nat → Prop) (L : Lay) (a : Act) (v : Value), Begins w gd L g h a → RepA w L (fun b => gd b ∨ L.old b) x v → RepA w (L0 w.heap.size) (fun b => b < w.heap.size) y v
theorem data_pure : ∀ y : AVal, y.data = true → y.pure = true := by
  intro y
  apply AVal.rec (motive_1 := fun y => y.data = true → y.pure = true) (motive_2 := fun l => AVal.dataL l = true → AVal.pureL l = true)
  all_goals simp_all [AVal.data, AVal.pure, AVal.dataL, AVal.pureL]
theorem capK_st {x : AVal} {k : AVal → Prop} (hk : capK h k x) : ∃ y, k y ∧ Caps g h x y := by
  have view : ∀ {x : AVal}, viewK h k x → ∃ y, k y ∧ Caps g h x y := by
    intro x hk
    obtain ⟨y, h1, h2, h3⟩ := viewK_st x k hk
    refine ⟨y, h1, fun w gd L a v B hv => h3 w (fun b => gd b ∨ L.old b) _ L _ v ?_ ?_ ?_ hv⟩
    · exact fun id o ho => (B.holds.obj id o ho).mono (Nat.le_refl _) (fun b _ hb => ⟨.inl hb, rfl⟩) (fun _ _ => rfl) (fun b _ hb => ⟨hb, rfl⟩) (fun _ => true) (fun _ _ => ⟨rfl, rfl⟩) rfl (fun _ h => by cases h)
    · intro b hb
      rcases hb with hb | hb
      · exact B.gd b hb
      · exact B.top _ ‹_›
    · exact fun id o b h1 h2 => ⟨B.own id o b h1 h2, B.own id o b h1 h2⟩
  have direct : ∀ {x y : AVal}, k y → (∀ (w : World) (gd : Nat → Prop) (L : Lay) (a : Act) (v : Value), Begins w gd L g h a → capK h (· = y) x → RepA w L (fun b => gd b ∨ L.old b) x v → RepA w (L0 w.heap.size) (fun b => b < w.heap.size) y v) → capK h (· = y) x → ∃ y, k y ∧ Caps g h x y :=
    fun hk hr hc => ⟨_, hk, fun w gd L a v B hv => hr w gd L a v B hc hv⟩
  have old : ∀ {x y : AVal} (w : World) (gd : Nat → Prop) (L : Lay) (a : Act) (v : Value), Begins w gd L g h a → capK h (· = y) x → RepA w L (fun b => gd b ∨ L.old b) x v → RepA w (L0 w.heap.size) (fun b => b < w.heap.size) y v := by
    intro x y w gd L a v B hc hv
    obtain ⟨y', e, _, hr⟩ := capK_ok B.holds B.gd B.top B.own hc hv
    rw [← e]; exact hr
  cases x with
  | ptr id off =>
    have hk0 := hk
    simp only [capK] at hk
    cases ho : h id with
    | none => rw [ho] at hk; exact hk.elim
    | some ob =>
      rw [ho] at hk
      cases ob with
      | row => exact hk.elim
      | box l =>
        simp only at hk
        cases hu : unliftF l with
        | none => rw [hu] at hk; exact hk.elim
        | some ds =>
          rw [hu] at hk
          simp only at hk
          exact direct hk old (by simp [capK, ho, hu])
  | eptr a b c d e => exact direct (y := .eptr a b c d e) hk old rfl
  | any => exact view hk
  | d x => exact view hk
  | agg l => exact view hk
  | tup l => exact view hk
  | rsl => exact view hk
  | rptr => exact view hk
  | fn => exact view hk
  | fresh => exact view hk
theorem capL_st : ∀ {l : List AVal} {k : List AVal → Prop}, capL h k l → ∃ m, k m ∧ m.length = l.length ∧ ∀ (w : World) (gd : Nat → Prop) (L : Lay) (a : Act) (vs : Nat → Value), Begins w gd L g h a → (∀ (i : Nat) (x : AVal), l[i]? = some x → RepA w L (fun b => gd b ∨ L.old b) x (vs i)) → ∀ (i : Nat) (x : AVal), m[i]? = some x → RepA w (L0 w.heap.size) (fun b => b < w.heap.size) x (vs i)
  | [], k, hk => ⟨[], hk, rfl, fun w gd L a vs _ _ i x hx => by simp at hx⟩
  | x :: r, k, hk => by
    obtain ⟨y, h1, h2⟩ := capK_st (g := g) hk
    obtain ⟨m, e1, e2, e3⟩ := capL_st h1
    refine ⟨y :: m, e1, by simp [e2], fun w gd L a vs B hv i z hz => ?_⟩
    cases i with
    | zero => simp only [List.getElem?_cons_zero, Option.some.injEq] at hz; subst hz; exact h2 w gd L a _ B (hv 0 x rfl)
    | succ i => simp only [List.getElem?_cons_succ] at hz; exact e3 w gd L a (fun i => vs (i + 1)) B (fun i z hz => hv (i + 1) z hz) i z hz
theorem argV_st {x : AVal} {k : AVal → Bool → Prop} (hk : argV h k x) : ∃ y b, k y b ∧ ∀ (w : World) (gd : Nat → Prop) (L : Lay) (a : Act) (v : Value), Begins w gd L g h a → RepA w L gd x v → ∀ b', (b' = true → b = true) → RepA w (L0 w.heap.size) (seen gd w b') y v := by
  have plain : ∀ {x : AVal}, (match x.pure with | true => forceV (fun v => k v true) x | false => viewK h (fun v => k v false) x) → ∃ y b, k y b ∧ ∀ (w : World) (gd : Nat → Prop) (L : Lay) (a : Act) (v : Value), Begins w gd L g h a → RepA w L gd x v → ∀ b', (b' = true → b = true) → RepA w (L0 w.heap.size) (seen gd w b') y v := by
    intro x hk
    cases hp : x.pure with
    | true =>
      rw [hp] at hk
      refine ⟨x, true, forceV_eq (k := fun v => k v true) hk, fun w gd L a v B hv b' _ => ?_⟩
      have hrep := hv.enter hp
      cases b' with
      | true => exact hrep
      | false => exact hrep.mono1 (Nat.le_refl _) (fun b _ hb => ⟨B.gd b hb, rfl⟩) (fun _ _ => rfl)
    | false =>
      rw [hp] at hk
      obtain ⟨y, h1, h2, h3⟩ := viewK_st x _ hk
      refine ⟨y, false, h1, fun w gd L a v B hv b' hb' => ?_⟩
      cases b' with
      | true => exact absurd (hb' rfl) (by decide)
      | false => exact h3 w gd _ L _ v B.holds.obj B.gd (fun id o b h1 h2 => ⟨B.own id o b h1 h2, B.own id o b h1 h2⟩) hv
  cases x with
  | fn f l =>
    simp only [argV] at hk
    obtain ⟨m, h1, h2, h3⟩ := capL_st (g := g) hk
    refine ⟨_, true, h1, fun w gd L a v B hv b' _ => ?_⟩
    cases hv with
    | @fn _ _ _ vs hz hr =>
      exact .fn (by omega) fun i x hx => (h3 w gd L a (fun i => vs.getD i undef) B hr i x hx).mono1 (Nat.le_refl _) (fun b hlt _ => ⟨.inr hlt, rfl⟩) (fun _ _ => rfl)
  | any => exact plain hk
  | d x => exact plain hk
  | agg l => exact plain hk
  | tup l => exact plain hk
  | ptr => exact plain hk
  | eptr => exact plain hk
  | rsl => exact plain hk
  | rptr => exact plain hk
  | fresh => exact plain hk
theorem argK_st {caps : List AVal} : ∀ {as : List Operand} {k : List AVal → Bool → Prop}, argK g h caps k as → ∃ l b, k l b ∧ l.length = as.length + caps.length ∧
    ∀ (w : World) (gd : Nat → Prop) (L : Lay) (a : Act) (cvs : Array Value), Begins w gd L g h a → cvs.size = caps.length → (∀ (i : Nat) (x : AVal), caps[i]? = some x → RepA w L (fun b => gd b ∨ L.old b) x (cvs.getD i undef)) →
      ∀ b', (b' = true → b = true) → ∀ (i : Nat) (x : AVal), l[i]? = some x → RepA w (L0 w.heap.size) (seen gd w b') x ((as.map a.eval ++ cvs.toList).getD i undef)
  | [], k, hk => by
    obtain ⟨m, h1, h3, h4⟩ := capL_st (g := g) hk
    refine ⟨m, _, h1, by simp; omega, fun w gd L a cvs B hcz hcr b' hb' i x hx => ?_⟩
    have hlt : i < caps.length := by rw [← h3]; exact (List.getElem?_eq_some_iff.1 hx).1
    cases b' with
    | true =>
      cases caps with
      | nil => simp at hlt
      | cons => exact absurd (hb' rfl) (by simp)
    | false =>
      have := h4 w gd L a (fun i => cvs.getD i undef) B hcr i x hx
      simpa [seen, Array.getD_eq_getD_getElem?, List.getD_eq_getElem?_getD] using this
  | x :: r, k, hk => by
    obtain ⟨y, b, h1, h2⟩ := argV_st (g := g) hk
    obtain ⟨l, b2, e1, e2, e3⟩ := argK_st h1
    refine ⟨y :: l, b && b2, e1, by simp [e2]; omega, fun w gd L a cvs B hcz hcr b' hb' i z hz => ?_⟩
    have hbb : b' = true → b = true ∧ b2 = true := fun h => by simpa using hb' h
    cases i with
    | zero =>
      simp only [List.getElem?_cons_zero, Option.some.injEq] at hz
      subst hz
      exact h2 w gd L a _ B (B.holds.opnd x) b' (fun h => (hbb h).1)
    | succ i =>
      simp only [List.getElem?_cons_succ] at hz
      simpa using e3 w gd L a cvs B hcz hcr b' (fun h => (hbb h).2) i z hz
end
section
variable {C : Ctx} {T : Tys} {env : Env} {heap : Heap}
/-- What is claimed of an operation with its record. -/
def Claims (C : Ctx) (rt : List Nat) (o : Oper) (env : Env) (heap : Heap) (k : Rc → Env → Heap → Prop) : Prop :=
  ∃ r env' heap', k r env' heap' ∧ r.rt = rt ∧ lk env' = r.g (lk env) ∧ lko heap' = r.h (lko heap) ∧ StepOk C o r (lk env) (lko heap)
theorem blt_lt {t n : Nat} (h : Nat.blt t n = true) : t < n := Nat.lt_of_succ_le (by simpa [Nat.blt] using h)
def wtOf (d : Option Tmp) (v : AVal) : List (Nat × AVal) := match d with | some t => [(t, v)] | none => []
theorem put_step {L : Lay} {g : Nat → AVal} {h : Nat → Option AObj} {a : Act} {w : World} (H : Rel C L g h a w) {d : Option Tmp} {rt rh : List Nat} {v : AVal} {u : Value} (hd : ∀ t, d = some t → t < C.nt) (hv : RepA w L (good C L h w) v u) {wt : List (Nat × AVal)} (hwt : wt = wtOf d v) :
    Rel C L (Rc.g ⟨rt, rh, wt, [], []⟩ g) (Rc.h ⟨rt, rh, wt, [], []⟩ h) (a.put d u) w := by
  subst hwt
  cases d with
  | none => exact H
  | some t => unfold wtOf; rw [Rc.g_one, Rc.h_nil]; exact H.put (hd t rfl) hv
theorem putD_claims {o : Oper} {d : Option Tmp} {v : AVal} {rt rh : List Nat} {k : Rc → Env → Heap → Prop} (hk : putD C.nt d v rt rh env heap k)
    (hs : ∀ g h, (∀ t ∈ rt, g t = lk env t) → (∀ i ∈ rh, h i = lko heap i) → ∀ L a w, Rel C L g h a w → ∀ (next : Act → World → Prop) (Q : Exit → Act → World → Prop), (∀ u w', Rel C L g h a w' → RepA w' L (good C L h w') v u → next (a.put d u) w') → o.wp C.P a w next Q) : Claims C rt o env heap k := by
  unfold putD at hk
  cases d with
  | none =>
    refine ⟨_, env, heap, hk, rfl, rfl, rfl, fun g h ha L a w H next Q hn => hs g h ha.t ha.o L a w H next Q fun u w' H' hv => hn L _ w' H'⟩
  | some t =>
    simp only at hk
    cases hb : Nat.blt t C.nt with
    | false => rw [hb] at hk; exact hk.elim
    | true =>
      rw [hb] at hk
      refine ⟨⟨rt, rh, [(t, v)], [], []⟩, _, heap, forceV_eq (k := fun v => k ⟨rt, rh, [(t, v)], [], []⟩ ((t, v) :: env) heap) hk, rfl, by rw [lk_cons, Rc.g_one], rfl, fun g h ha L a w H next Q hn => hs g h ha.t ha.o L a w H next Q fun u w' H' hv => hn L _ w' ?_⟩
      rw [Rc.g_one, Rc.h_nil]
      exact H'.put (blt_lt hb) hv
theorem setD_claims {o : Oper} {d : Option Tmp} {id : Nat} {ob : AObj} {rt rh : List Nat} {k : Rc → Env → Heap → Prop} (hk : setD C.nt d id ob rt rh env heap k)
    (hs : ∀ g h, (∀ t ∈ rt, g t = lk env t) → (∀ i ∈ rh, h i = lko heap i) → ∀ L a w, Rel C L g h a w → (∃ o0, h id = some o0) ∧ WritesOk C.P w (good C L h w) L a o id ob) (hdst : o.dst = d) : Claims C rt o env heap k := by
  unfold setD at hk
  cases hso : setO id ob heap with
  | none => rw [hso] at hk; exact hk.elim
  | some h' =>
    rw [hso] at hk
    simp only at hk
    have step : ∀ {wt : List (Nat × AVal)}, (wt = match d with | some t => [(t, .any)] | none => []) → (∀ t, d = some t → t < C.nt) → StepOk C o ⟨rt, id :: rh, wt, [(id, some ob)], []⟩ (lk env) (lko heap) := by
      intro wt hwt hd g h ha L a w H next Q hn
      obtain ⟨⟨o0, ho0⟩, b, w', r1, r2, r3, r4, r5, r6, r7, r8⟩ := hs g h ha.t (fun i hi => ha.o i (by simp [hi])) L a w H
      have hset := H.set ho0 r1 r3 r4 r5 r6 r7 r8
      unfold Oper.wp
      rcases r2 with r2 | ⟨u, r2⟩
      · rw [r2, Oper.upon_skip, hdst]
        refine hn L _ w' ?_
        rw [Rc.h_one]
        subst hwt
        cases d with
        | none => exact hset
        | some t => rw [Rc.g_one]; exact hset.put (hd t rfl) .any
      · rw [r2, Oper.upon_value, hdst]
        refine hn L _ w' ?_
        rw [Rc.h_one]
        subst hwt
        cases d with
        | none => exact hset
        | some t => rw [Rc.g_one]; exact hset.put (hd t rfl) .any
    cases d with
    | none => exact ⟨_, env, h', hk, rfl, rfl, by rw [Rc.h_one, lko_set hso], step rfl (fun t h => by cases h)⟩
    | some t =>
      simp only at hk
      cases hb : Nat.blt t C.nt with
      | false => rw [hb] at hk; exact hk.elim
      | true =>
        rw [hb] at hk
        exact ⟨_, _, h', hk, rfl, by rw [lk_cons, Rc.g_one], by rw [Rc.h_one, lko_set hso], step rfl (fun t' h => by cases h; exact blt_lt hb)⟩
theorem newD_claims {o : Oper} {d : Option Tmp} {ob : AObj} {v : Nat → AVal} {rt rh : List Nat} {k : Rc → Env → Heap → Prop} (hk : newD C.nt d ob v rt rh env heap k)
    (hs : ∀ g h, (∀ t ∈ rt, g t = lk env t) → (∀ i ∈ rh, h i = lko heap i) → ∀ L a w, Rel C L g h a w → ∀ t, d = some t → (∀ s, (g s).free t = true) → ∀ (next : Act → World → Prop) (Q : Exit → Act → World → Prop),
      (∀ u w' nb nc, Below w.heap.size w w' → (∀ b, nb = some b → w.heap.size ≤ b ∧ b < w'.heap.size) → RepO w' (good C (L.upd t nb nc) (hput h t ob) w') (L.upd t nb nc) t ob ∧ RepA w' (L.upd t nb nc) (good C (L.upd t nb nc) (hput h t ob) w') (v t) u → next (a.put d u) w') → o.wp C.P a w next Q) : Claims C rt o env heap k := by
  unfold newD at hk
  cases d with
  | none => exact hk.elim
  | some t =>
    simp only at hk
    cases hb : Nat.blt t C.nt with
    | false => rw [hb] at hk; exact hk.elim
    | true =>
      rw [hb] at hk
      simp only at hk
      cases hl : lookO t heap with
      | some _ => rw [hl] at hk; exact hk.elim
      | none =>
        rw [hl] at hk
        refine ⟨_, _, _, hk, rfl, by rw [lk_cons, Rc.g_one], by rw [lko_cons, Rc.h_one], fun g h ha L a w H next Q hn => ?_⟩
        have hft := ha.ft t (by simp)
        have hfo := ha.fo t (by simp)
        refine hs g h ha.t ha.o L a w H t rfl hft next Q fun u w' nb nc h1 h2 h3 => hn (L.upd t nb nc) _ w' ?_
        rw [Rc.g_one, Rc.h_one]
        exact (H.new (H.lid_slot (blt_lt hb)) hft hfo h1 nb nc h2 h3.1).put (blt_lt hb) h3.2
theorem lendD_claims {rt rh : List Nat} {o : Oper} {k : Rc → Env → Heap → Prop} {f : Operand} {as : Array Operand} {ts : Array TypeId} {fid : FuncId} {caps l : List AVal} {p : List Nat} (hop : o.op = .call { callee := .value f, args := as, argTypes := ts }) (e : opnd (restrict rt fun t => look t env) f = .fn fid caps)
    (hlen : l.length = (as.toList.map (opnd (restrict rt fun t => look t env))).length)
    (hargs : ∀ (C : Ctx) (L : Lay) (g : Nat → AVal) (h0 : Nat → Option AObj) (a : Act) (w : World), Rel C L g h0 a w → (∀ i o, restrictH rh (fun i => lookO i heap) i = some o → h0 i = some o) → ∀ (i : Nat) (x y : AVal) (v : Value), (as.toList.map (opnd (restrict rt fun t => look t env)))[i]? = some x → l[i]? = some y → RepA w L (good C L h0 w) x v → RepA w L (good C L (fun j => if memN j p = true then none else h0 j) w) y v)
    (hk : ALendD C.P C.nt o.dst rt rh env (dropH p heap) k fid (l ++ capsN caps) p) : Claims C rt o env heap k := by
  unfold ALendD at hk
  have hk := forceN_eq hk
  generalize reach 500 (fun i => lookO i (dropH p heap)) (l ++ capsN caps) [] = S at hk
  cases hn : nodupN S with
  | false => rw [hn] at hk; exact hk.elim
  | true =>
    rw [hn] at hk
    simp only at hk
    cases ha : allIn (fun i => lookO i (dropH p heap)) S with
    | false => rw [ha] at hk; exact hk.elim
    | true =>
      rw [ha] at hk
      simp only at hk
      obtain ⟨r, hl', hs, hb⟩ := deepH_eq (deepL_eq hk)
      rw [AVal.mapL_eq] at hs
      obtain ⟨⟨fn, c, e1, e2, e3⟩, _⟩ := id hs
      unfold ABackD at hb
      have hb := forceN_eq hb
      generalize newBase env o.dst = nb at hb
      generalize hfr : firsts (newOf (sigI S lentBase) hl' nb) = fr at hb
      cases hlt : ltAll fr with
      | false => rw [hlt] at hb; exact hb.elim
      | true =>
        rw [hlt] at hb
        simp only at hb
        have hb := deepH_eq (deepV_eq hb)
        have hb := forceH_eq hb
        generalize hhm : mapH (tauOf (sigI S lentBase) hl' nb) hl' = hm at hb
        -- what the step does
        have hSin : ∀ i, i ∈ S → ∃ ob, lookO i heap = some ob ∧ memN i p = false := by
          intro i hi
          obtain ⟨ob, h1⟩ := allIn_ok ha i hi
          rw [lookO_dropH] at h1
          obtain ⟨h2, h3⟩ := dropped_some (h0 := fun i => lookO i heap) h1
          exact ⟨ob, h2, h3⟩
        have heq : lko (hm ++ dropH S (dropH p heap)) = fun i => match lookW i (whOf hm (S ++ p)) with | some v => v | none => lko heap i := by
          funext i
          show lookO i _ = _
          rw [lookO_app_eq, lookW_whOf, lookO_dropH, lookO_dropH]
          cases lookO i hm with
          | some ob => rfl
          | none =>
            have : memN i (S ++ p) = (memN i S || memN i p) := by
              cases h1 : memN i (S ++ p) with
              | true => 
                have := List.mem_append.1 (memN_of.1 h1)
                rcases this with h | h
                · rw [memN_of.2 h]; rfl
                · rw [memN_of.2 h]; simp
              | false =>
                cases h2 : memN i S with
                | true => rw [memN_of.2 (List.mem_append_left p (memN_of.1 h2))] at h1; cases h1
                | false =>
                  cases h3 : memN i p with
                  | true => rw [memN_of.2 (List.mem_append_right S (memN_of.1 h3))] at h1; cases h1
                  | false => rfl
            simp only [this]
            cases memN i S <;> cases memN i p <;> rfl
        have step : ∀ (wt : List (Nat × AVal)) (g : Nat → AVal) (h : Nat → Option AObj), Agrees ⟨rt, S ++ p ++ rh, wt, whOf hm (S ++ p), fr⟩ (lk env) (lko heap) g h → ∀ L a w, Rel C L g h a w → ∀ (next : Act → World → Prop) (Q : Exit → Act → World → Prop),
            (∀ L' v w', Rel C L' g (Rc.h ⟨rt, S ++ p ++ rh, wt, whOf hm (S ++ p), fr⟩ h) a w' → RepA w' L' (good C L' (Rc.h ⟨rt, S ++ p ++ rh, wt, whOf hm (S ++ p), fr⟩ h) w') (r.map (tauOf (sigI S lentBase) hl' nb)) v → next (a.put o.dst v) w') → o.wp C.P a w next Q := by
          intro wt g h hag L a w H next Q hnext
          have h1 : ∀ t ∈ rt, g t = lk env t := hag.t
          have h2 : ∀ i ∈ rh, h i = lko heap i := fun i hi => hag.o i (by simp [hi])
          have hS : ∀ i, i ∈ S → h i = lko heap i := fun i hi => hag.o i (by simp [hi])
          have hsub : ∀ i ob, (if memN i p = true then none else h i) = some ob → h i = some ob := fun i ob e => (dropped_some e).1
          have H1 := H.drop hsub
          have hL : Lends (fun j => if memN j p = true then none else h j) (sig S lentBase) (sigI S lentBase) (pickH (sig S lentBase) (fun i => lookO i (dropH p heap)) S lentBase) :=
            lends_of' hn ha fun i hi => by
              rw [lookO_dropH, hS i hi]
          have hr : restrict rt g = restrict rt (lk env) := restrict_eq h1
          have hf := (H.holds.restrict rt rh).opnd f
          have e' : opnd (restrict rt g) f = .fn fid caps := by rw [hr]; exact e
          rw [e'] at hf
          generalize hfv : a.eval f = fv at hf
          cases hf with
          | @fn _ _ _ cvs hcz hcr =>
            have hlen' : l.length = as.size := by rw [hlen]; simp
            have hcalls := H1.lend hL hs (vs := as.map a.eval ++ cvs) (by rw [Array.size_append, List.length_append, capsN_len, Array.size_map]; omega) (fun i y hy => by
              by_cases hi : i < l.length
              · rw [List.getElem?_append_left hi] at hy
                have hi' : i < as.size := by omega
                have hx : (as.toList.map (opnd (restrict rt fun t => look t env)))[i]? = some (opnd (restrict rt (lk env)) as[i]) := by simp [hi']
                have := hargs C L g h a w H (fun i ob e => by
                  have hm' : i ∈ rh := by
                    unfold restrictH at e
                    cases hq : memN i rh with
                    | true => exact memN_of.1 hq
                    | false => rw [hq] at e; cases e
                  rw [h2 i hm']; exact restrictH_some e) i _ y (a.eval as[i]) hx hy (by rw [← hr]; exact (H.holds.restrict rt rh).opnd _)
                rw [Array.getD_eq_getD_getElem?, Array.getElem?_append_left (by simpa using hi'), Array.getElem?_map, Array.getElem?_eq_getElem hi']
                exact this
              · rw [List.getElem?_append_right (by omega)] at hy
                obtain ⟨x, hx, hr⟩ := capsN_get hy
                have := hr w L _ (good C L (fun j => if memN j p = true then none else h j) w) _ (hcr _ x hx)
                rw [Array.getD_eq_getD_getElem?, Array.getElem?_append_right (by simp; omega)]
                rw [Array.getD_eq_getD_getElem?, hlen'] at this
                simpa using this)
            have hname : fn.name ≠ "runtime.NumGoroutine" := by simpa using e2
            have hrun : (execOp a.eval o).run C.P w = .ok (.enter fid (as.map a.eval ++ cvs)) w := by
              simp [execOp, hop, resolve, hfv, Deferred.ofValue, invoke, callFunc, e1, hname, e3]
            unfold Oper.wp
            rw [hrun, Oper.upon_enter]
            refine hcalls.mono ?_
            rintro ee w' ⟨v, r', hl'', L', rfl, ⟨rfl, rfl⟩, hlp, hrep⟩
            have hfrm : ∀ {i j}, lookW i (newOf (sigI S lentBase) hl'' nb) = some j → i ∈ fr := fun h => by rw [← hfr]; exact firsts_mem h
            obtain ⟨hrel, hres⟩ := H1.back hL hlp (τ := tauOf (sigI S lentBase) hl'' nb) (τn := newOf (sigI S lentBase) hl'' nb) (h' := Rc.h ⟨rt, S ++ p ++ rh, wt, whOf hm (S ++ p), fr⟩ h)
              (fun j i hji => by
                rcases tauOf_ok hji with ⟨k1, k2⟩ | k1
                · left
                  refine ⟨k1, k2, ?_⟩
                  cases hn' : lookW i (newOf (sigI S lentBase) hl'' nb) with
                  | none => rfl
                  | some j' =>
                    have hm' := (sigI_mem k1).1
                    obtain ⟨ob, q1, _⟩ := hSin i hm'
                    have := (hag.fo i (hfrm hn') i ob (by rw [hS i hm']; exact q1)).1
                    exact absurd rfl this
                · right; exact k1)
              (fun i j hij => by
                have hi := hfrm hij
                refine ⟨fun hl => ?_, hag.ft i hi, fun q ob hq _ => hag.fo i hi q ob (hsub q ob hq)⟩
                have := (H.lidn i hl).1
                have := ltAll_ok hlt i hi
                omega)
              (fun i ob ho => by
                unfold Rc.h at ho
                simp only [lookW_whOf] at ho
                cases hq : lookO i hm with
                | some o1 =>
                  rw [hq] at ho
                  simp only [Option.some.injEq] at ho
                  subst ho
                  rw [← hhm] at hq
                  left; exact mapH_from hq
                | none =>
                  rw [hq] at ho
                  simp only at ho
                  cases hq2 : memN i (S ++ p) with
                  | true => rw [hq2] at ho; simp at ho
                  | false =>
                    rw [hq2] at ho
                    simp at ho
                    right
                    have hn1 : memN i p = false := by
                      cases hq3 : memN i p with
                      | false => rfl
                      | true => rw [memN_of.2 (List.mem_append_right S (memN_of.1 hq3))] at hq2; cases hq2
                    refine ⟨by simp [hn1, ho], ?_⟩
                    cases hs' : lookW i (sig S lentBase) with
                    | none => rfl
                    | some j => rw [memN_of.2 (List.mem_append_left p (sig_ge hs').2)] at hq2; cases hq2)
            exact hnext _ v w' hrel (hres _ v hrep)
        cases hd : o.dst with
        | none =>
          rw [hd] at hb
          exact ⟨_, _, _, hb, rfl, rfl, heq, fun g h hag L a w H next Q hnx => step _ g h hag L a w H next Q fun L' v w' hrel hrep => hnx L' _ w' (by rw [hd]; exact hrel)⟩
        | some t =>
          rw [hd] at hb
          simp only at hb
          cases hbl : Nat.blt t C.nt with
          | false => rw [hbl] at hb; exact hb.elim
          | true =>
            rw [hbl] at hb
            simp only at hb
            refine ⟨_, _, _, hb, rfl, by rw [lk_cons, Rc.g_one], heq, fun g h hag L a w H next Q hnx => step _ g h hag L a w H next Q fun L' v w' hrel hrep => hnx L' _ w' ?_⟩
            rw [Rc.g_one, hd]
            exact hrel.put (blt_lt hbl) hrep
theorem AStepD_ok (hT : TysOk C.P T) {rt rh : List Nat} {o : Oper} {k : Rc → Env → Heap → Prop} (hk : AStepD C.P T C.nt rt rh o env heap k) : Claims C rt o env heap k := by
  have tail : ∀ {r : AVal} {b : Bool}, putRD C.nt o.dst b rt rh env heap k r → (∀ g h, (∀ t ∈ rt, g t = lk env t) → (∀ i ∈ rh, h i = lko heap i) → ∀ L a w, Rel C L g h a w → ∀ (next : Act → World → Prop) (Q : Exit → Act → World → Prop),
      (∀ v w', Below w.heap.size w w' → RepR w w' (seen (good C L h w) w b) r v → next (a.put o.dst v) w') → o.wp C.P a w next Q) → Claims C rt o env heap k := by
    intro r b hpt run
    have newgood : ∀ {g h L a w w'}, Rel C L g h a w → Below w.heap.size w w' → ∀ b, w.heap.size ≤ b → b < w'.heap.size → good C L h w' b := fun H hbel b hb1 hb2 => ⟨hb2, .inr (.inl (Nat.le_trans H.below.size hb1)), fun ⟨id, ob, h1, h2⟩ => by have := (H.own0 id ob b h1 h2).2; omega⟩
    have plain : ∀ {r : AVal}, (match (generalizing := false) b with | true => putD C.nt o.dst r rt rh env heap k | false => match r.flat with | true => putD C.nt o.dst r rt rh env heap k | false => False) →
        (∀ g h, (∀ t ∈ rt, g t = lk env t) → (∀ i ∈ rh, h i = lko heap i) → ∀ L a w, Rel C L g h a w → ∀ (next : Act → World → Prop) (Q : Exit → Act → World → Prop),
        (∀ v w', Below w.heap.size w w' → r.data = true ∧ RepA w' (L0 w.heap.size) (fun b' => seen (good C L h w) w b b' ∨ (w.heap.size ≤ b' ∧ b' < w'.heap.size)) r v → next (a.put o.dst v) w') → o.wp C.P a w next Q) → Claims C rt o env heap k := by
      intro r hpt run
      have fin : putD C.nt o.dst r rt rh env heap k → (b = true ∨ r.flat = true) → Claims C rt o env heap k := by
        intro hpt hb
        refine putD_claims hpt fun g h h1 h2 L a w H next Q hn => run g h h1 h2 L a w H next Q fun v w' hbel ⟨hd, hrep⟩ => hn v w' (H.world (hbel.mono H.below.size) (fun b hb => hbel.block b hb)) ?_
        rcases hb with hb | hb
        · subst hb
          exact hrep.data (Nat.le_refl _) hd fun b' _ hb => ⟨by
            rcases hb with hb | ⟨hb1, hb2⟩
            · exact ⟨Nat.lt_of_lt_of_le hb.1 hbel.size, hb.2⟩
            · exact newgood H hbel b' hb1 hb2, rfl⟩
        · exact hrep.flat hb
      cases b with
      | true => exact fin hpt (.inl rfl)
      | false =>
        simp only at hpt
        cases hf : r.flat with
        | false => rw [hf] at hpt; exact hpt.elim
        | true => rw [hf] at hpt; exact fin hpt (.inr hf)
    unfold putRD at hpt
    cases r with
    | fresh t sz n f =>
      simp only at hpt
      cases b with
      | false => exact hpt.elim
      | true =>
        refine newD_claims hpt fun g h h1 h2 L a w H t' hd hft next Q hn => run g h h1 h2 L a w H next Q fun v w' hbel hrep => ?_
        obtain ⟨xs, hown, hf, hr⟩ := hrep
        refine hn v w' v.ownBlock (capOf v) hbel (fun b hb => ⟨(hown.lt b hb).1, (hown.lt b hb).2⟩) ?_
        refine row_of_own hown hf (fun k hk j x hx => (hr k hk j x hx).mono (Nat.le_refl _) fun b hlt hb => ⟨?_, rfl⟩) L t'
        obtain ⟨hb1, hb2⟩ := hb
        have hgb : good C L h w' b := by
          rcases hb1 with hb | ⟨hb1, hb3⟩
          · exact ⟨Nat.lt_of_lt_of_le hb.1 hbel.size, hb.2⟩
          · exact newgood H hbel b hb1 hb3
        refine ⟨hgb.1, hgb.2.1, ?_⟩
        rintro ⟨i, oi, h1, h2⟩
        unfold hput at h1
        split at h1
        · rename_i hi
          simp only [Lay.upd, hi, if_true] at h2
          exact hb2 h2
        · rename_i hi
          simp only [Lay.upd, hi, if_false] at h2
          exact hgb.2.2 ⟨i, oi, h1, h2⟩
    | any => exact plain (r := .any) hpt run
    | d x => exact plain (r := .d x) hpt run
    | agg l => exact plain (r := .agg l) hpt run
    | tup l => exact plain (r := .tup l) hpt run
    | fn f l => exact plain (r := .fn f l) hpt run
    | eptr a1 a2 a3 a4 a5 => exact plain (r := .eptr a1 a2 a3 a4 a5) hpt run
    | ptr a1 a2 => exact plain (r := .ptr a1 a2) hpt run
    | rsl a1 a2 a3 a4 => exact plain (r := .rsl a1 a2 a3 a4) hpt run
    | rptr a1 a2 a3 a4 => exact plain (r := .rptr a1 a2 a3 a4) hpt run
  unfold AStepD at hk
  split at hk
  · rename_i f as ts hop
    split at hk
    · split at hk
      · rename_i fid caps e
        obtain ⟨l, p, hk, hlen, _, hargs⟩ := lendK_st hk
        have hk := forceH_eq hk
        exact lendD_claims hop e hlen hargs hk
      · exact hk.elim
    split at hk
    · rename_i fid caps e
      obtain ⟨l, b, ⟨r, ⟨⟨fn, c, e1, e2, e3⟩, hcalls⟩, hpt⟩, hl, hargs⟩ := argK_st hk
      have hname : fn.name ≠ "runtime.NumGoroutine" := by simpa using e2
      have run : ∀ g h, (∀ t ∈ rt, g t = lk env t) → (∀ i ∈ rh, h i = lko heap i) → ∀ L a w, Rel C L g h a w → ∀ (next : Act → World → Prop) (Q : Exit → Act → World → Prop),
          (∀ v w', Below w.heap.size w w' → RepR w w' (seen (good C L h w) w b) r v → next (a.put o.dst v) w') → o.wp C.P a w next Q := by
        intro g h h1 h2 L a w H next Q hn
        have hH : Holds w (good C L h w) L (restrict rt (lk env)) (restrictH rh (lko heap)) a := by
          rw [← restrict_eq h1, ← restrictH_eq h2]
          exact H.holds.restrict rt rh
        have hf := hH.opnd f
        have e' : opnd (restrict rt (lk env)) f = .fn fid caps := e
        rw [e'] at hf
        generalize hfv : a.eval f = fv at hf
        cases hf with
        | @fn _ _ _ cvs hcz hcr =>
          have hrun : (execOp a.eval o).run C.P w = .ok (.enter fid (as.map a.eval ++ cvs)) w := by
            simp [execOp, hop, resolve, hfv, Deferred.ofValue, invoke, callFunc, e1, hname, e3]
          unfold Oper.wp
          rw [hrun, Oper.upon_enter]
          have hR : ∀ b', seen (good C L h w) w b b' → b' < w.heap.size := by
            intro b' hb'
            cases b with
            | true => exact hb'.1
            | false => exact hb'
          have B : Begins w (good C L h w) L (restrict rt (lk env)) (restrictH rh (lko heap)) a := ⟨hH, fun b hb => hb.1, fun b hb => H.old_lt hb, fun id o b e1 e2 => (H.own0 id o b (by rw [← restrictH_eq h2] at e1; exact restrictH_some e1) e2).2⟩
          refine (hcalls w (seen (good C L h w) w b) (as.map a.eval ++ cvs) hR (by simp [hl, hcz]) (fun i x hx => by
            have := hargs w _ L a cvs B hcz hcr b id i x hx
            simpa [Array.getD_eq_getD_getElem?, List.getD_eq_getElem?_getD, Array.getElem?_append, List.getElem?_append] using this)).mono ?_
          rintro e' w' ⟨v, r', rfl, hr, hbel, hrep⟩
          subst hr
          exact hn v w' hbel hrep
      exact tail hpt run
    · rename_i fid n ds e
      obtain ⟨l, b, ⟨r, ⟨⟨fn, c, e1, e2, e3⟩, hcalls⟩, hpt⟩, hl, hargs⟩ := argK_st hk
      have hname : fn.name ≠ "runtime.NumGoroutine" := by simpa using e2
      have run : ∀ g h, (∀ t ∈ rt, g t = lk env t) → (∀ i ∈ rh, h i = lko heap i) → ∀ L a w, Rel C L g h a w → ∀ (next : Act → World → Prop) (Q : Exit → Act → World → Prop),
          (∀ v w', Below w.heap.size w w' → RepR w w' (seen (good C L h w) w b) r v → next (a.put o.dst v) w') → o.wp C.P a w next Q := by
        intro g h h1 h2 L a w H next Q hn
        have hH : Holds w (good C L h w) L (restrict rt (lk env)) (restrictH rh (lko heap)) a := by
          rw [← restrict_eq h1, ← restrictH_eq h2]
          exact H.holds.restrict rt rh
        have hf := hH.opnd f
        have e' : opnd (restrict rt (lk env)) f = .d (.cl fid n ds) := e
        rw [e'] at hf
        generalize hfv : a.eval f = fv at hf
        cases hf with
        | d hcl =>
          have B : Begins w (good C L h w) L (restrict rt (lk env)) (restrictH rh (lko heap)) a := ⟨hH, fun b hb => hb.1, fun b hb => H.old_lt hb, fun id o b e1 e2 => (H.own0 id o b (by rw [← restrictH_eq h2] at e1; exact restrictH_some e1) e2).2⟩
          obtain ⟨cvs, rfl, hcz, hall⟩ := cl_args hcl (l := l) (xs := as.map a.eval) (gd'' := seen (good C L h w) w b) (by simpa using hl) (fun b' hb' => by
            cases b with
            | true => exact hb'
            | false => exact hb'.1) (fun i x hx => by
            have := hargs w _ L a #[] B rfl (fun i x hx => by simp at hx) b id i x hx
            simpa [Array.getD_eq_getD_getElem?, List.getD_eq_getElem?_getD] using this)
          have hrun : (execOp a.eval o).run C.P w = .ok (.enter fid (as.map a.eval ++ cvs)) w := by
            simp [execOp, hop, resolve, hfv, Deferred.ofValue, invoke, callFunc, e1, hname, e3]
          unfold Oper.wp
          rw [hrun, Oper.upon_enter]
          have hR : ∀ b', seen (good C L h w) w b b' → b' < w.heap.size := by
            intro b' hb'
            cases b with
            | true => exact hb'.1
            | false => exact hb'
          refine (hcalls w (seen (good C L h w) w b) (as.map a.eval ++ cvs) hR (by simp [hl, hcz, (capsF_get n 0 ds).1]) hall).mono ?_
          rintro e' w' ⟨v, r', rfl, hr, hbel, hrep⟩
          subst hr
          exact hn v w' hbel hrep
      exact tail hpt run
    · exact hk.elim
  · rename_i op hnc
    have ares : AResD C.nt o.dst rt rh env heap k (aop T (restrict rt (lk env)) (restrictH rh (lko heap)) o.op) := hk
    cases hr : aop T (restrict rt (lk env)) (restrictH rh (lko heap)) o.op with
    | none => rw [hr] at ares; exact ares.elim
    | some r =>
      rw [hr] at ares
      have hok : ∀ g h, (∀ t ∈ rt, g t = lk env t) → (∀ i ∈ rh, h i = lko heap i) → ∀ L a w, Rel C L g h a w → r.Ok C.P w (good C L h w) L (restrict rt g) (restrictH rh h) a o := by
        intro g h h1 h2 L a w H
        refine aop_ok hT (H.holds.restrict rt rh) ?_
        rw [restrict_eq h1, restrictH_eq h2]
        exact hr
      have free_restrict : ∀ {g : Nat → AVal} {d : Nat}, (∀ s, (g s).free d = true) → ∀ s, (restrict rt g s).free d = true := by
        intro g d hf s
        unfold restrict
        cases memN s rt with
        | true => exact hf s
        | false => rfl
      have vals : ∀ {v : AVal}, putD C.nt o.dst v rt rh env heap k → (∀ g h, (∀ t ∈ rt, g t = lk env t) → (∀ i ∈ rh, h i = lko heap i) → ∀ L a w, Rel C L g h a w → ∃ u, (execOp a.eval o).run C.P w = .ok (.value u) w ∧ RepA w L (good C L h w) v u) → Claims C rt o env heap k := by
        intro v hk hv
        refine putD_claims hk fun g h h1 h2 L a w H next Q hn => ?_
        obtain ⟨u, e1, e2⟩ := hv g h h1 h2 L a w H
        unfold Oper.wp
        rw [e1, Oper.upon_value]
        exact hn u w H e2
      have news : ∀ {ob : AObj} {v : Nat → AVal}, newD C.nt o.dst ob v rt rh env heap k → (∀ g h, (∀ t ∈ rt, g t = lk env t) → (∀ i ∈ rh, h i = lko heap i) → ∀ L a w, Rel C L g h a w → ∀ d, (∀ s, (g s).free d = true) → MakesOk C.P w (good C L h w) L a o d (v d) ob) → Claims C rt o env heap k := by
        intro ob v hk hv
        refine newD_claims hk fun g h h1 h2 L a w H t hd hft next Q hn => ?_
        obtain ⟨w', nb, nc, u, r1, r2, r3, r4⟩ := hv g h h1 h2 L a w H t hft
        unfold Oper.wp
        rw [r1, Oper.upon_value]
        exact hn u w' nb nc r2 r3 (r4 _ (stays_new (C := C) (L := L) (h := h) (id := t) (nb := nb) (nc := nc) r2 r3 ob))
      cases r with
      | val v => exact vals ares (fun g h h1 h2 L a w H => hok g h h1 h2 L a w H)
      | cond v c => exact vals ares.2 (fun g h h1 h2 L a w H => hok g h h1 h2 L a w H ares.1)
      | new ob => exact news ares (fun g h h1 h2 L a w H d hf => hok g h h1 h2 L a w H d (free_restrict hf))
      | set id ob =>
        refine setD_claims ares (fun g h h1 h2 L a w H => ?_) rfl
        obtain ⟨⟨o0, ho0⟩, hw⟩ := hok g h h1 h2 L a w H
        exact ⟨⟨o0, restrictH_some ho0⟩, hw⟩
      | setc id ob c =>
        refine setD_claims ares.2 (fun g h h1 h2 L a w H => ?_) rfl
        obtain ⟨⟨o0, ho0⟩, hw⟩ := hok g h h1 h2 L a w H
        exact ⟨⟨o0, restrictH_some ho0⟩, hw ares.1⟩
      | mkrow t sz n f c =>
        cases c with
        | none => exact news ares (fun g h h1 h2 L a w H d _ => hok g h h1 h2 L a w H (fun q hq => by cases hq) d)
        | some c => exact news ares.2 (fun g h h1 h2 L a w H d _ => hok g h h1 h2 L a w H (fun q hq => by cases hq; exact ares.1) d)
      | ndb c => exact ares.elim
      | pub id v => exact ares.elim
      | str c =>
        obtain ⟨l, hc, hk⟩ := ares
        exact vals hk (fun g h h1 h2 L a w H => hok g h h1 h2 L a w H l hc)
      | app old t sz n f c =>
        obtain ⟨hc, hk⟩ := ares
        unfold appD at hk
        cases hd : o.dst with
        | none => rw [hd] at hk; exact hk.elim
        | some t' =>
          rw [hd] at hk
          simp only at hk
          cases hb : Nat.blt t' C.nt with
          | false => rw [hb] at hk; exact hk.elim
          | true =>
            rw [hb] at hk
            simp only at hk
            cases hbo : Nat.beq t' old with
            | true => rw [hbo] at hk; exact hk.elim
            | false =>
              rw [hbo] at hk
              simp only at hk
              have hne : t' ≠ old := fun e => by subst e; rw [beq_self] at hbo; cases hbo
              cases hl : lookO t' heap with
              | some _ => rw [hl] at hk; exact hk.elim
              | none =>
                rw [hl] at hk
                have hk := forceH_eq hk
                refine ⟨_, _, _, hk, rfl, by rw [lk_cons, Rc.g_one], ?_, fun g h ha L a w H next Q hn => ?_⟩
                · rw [lko_cons, lko_rem, Rc.h_two]; rfl
                · have hft := ha.ft t' (by simp)
                  have hfo := ha.fo t' (by simp)
                  obtain ⟨⟨t0, sz0, n0, f0, hold⟩, hmv⟩ := hok g h ha.t (fun i hi => ha.o i (by simp [hi])) L a w H
                  have hold := restrictH_some hold
                  obtain ⟨w', nb, nc, u, r1, r2, r3, r4, r5, r6, r7, r8⟩ := hmv hc (fun b hb hg => hg.2.2 ⟨old, _, hold, hb⟩)
                  obtain ⟨hsw, hst⟩ := H.swap (d := t') (o := .row t sz n f) (H.lid_slot (blt_lt hb)) hne hold hft hfo r2 r3 r4 r5 r6 nb nc r7 (fun gd' hst => (r8 t' gd' hst).1)
                  have hu := (r8 t' _ hst).2
                  unfold Oper.wp
                  rw [r1, Oper.upon_value, hd]
                  refine hn (L.upd t' nb nc) _ w' ?_
                  rw [Rc.g_one, Rc.h_two]
                  exact hsw.put (blt_lt hb) hu
end
end Towline

/- The engine: in whatever order a drawn statement runs, the same comes out. Over any program. -/
namespace Towline
open Go Go.RowKit
set_option linter.unusedVariables false

def disjW {α β : Type} : List (Nat × α) → List (Nat × β) → Bool
  | [], _ => true
  | (t, _) :: r, s => (match lookW t s with | some _ => false | none => true) && disjW r s
def disjN {α : Type} : List Nat → List (Nat × α) → Bool
  | [], _ => true
  | t :: r, s => (match lookW t s with | some _ => false | none => true) && disjN r s
def freeW (d : Nat) : List (Nat × AVal) → Bool
  | [] => true
  | (_, v) :: r => v.free d && freeW d r
def freeWh (d : Nat) : List (Nat × Option AObj) → Bool
  | [] => true
  | (j, o) :: r => !Nat.beq j d && (match o with | some o => o.free d | none => true) && freeWh d r
def freeR : List Nat → Rc → Bool
  | [], _ => true
  | d :: fr, r => freeW d r.wt && freeWh d r.wh && freeR fr r
/-- Two operations, the first one ahead of the second in the text. -/
def okPair (ord : Bool) (r s : Rc) : Bool :=
  disjW r.wt s.wt && freeR s.fr r && (ord || (disjN r.rt s.wt && disjN s.rt r.wt && disjN r.rh s.wh && disjN s.rh r.wh && disjW r.wh s.wh && freeR r.fr s))
def okWith (i : Nat) (r : Rc) : List Rc → List Nat → Bool
  | [], _ => true
  | s :: ss, m :: ms => okPair (m.testBit i) r s && okWith i r ss ms
  | _ :: _, [] => false
def okR : Nat → List Rc → List Nat → Bool
  | _, [], _ => true
  | i, r :: rs, _ :: ms => okWith i r rs ms && okR (i + 1) rs ms
  | _, _ :: _, [] => false
def freeAll (env : Env) (heap : Heap) : List Nat → Bool
  | [] => true
  | d :: r => freeEnv d env && freeHeap d heap && freeAll env heap r
def freshAll (env : Env) (heap : Heap) : List Rc → Bool
  | [] => true
  | r :: rs => freeAll env heap r.fr && freshAll env heap rs
def maskOf (acc : List Nat) : List Edge → Nat
  | [] => 0
  | e :: r => match Region.binds .any e with
    | true => 2 ^ e.on ||| acc.getD e.on 0 ||| maskOf acc r
    | false => maskOf acc r
def befs : List Oper → List Nat → List Nat
  | [], acc => acc
  | o :: r, acc => befs r (acc ++ [maskOf acc o.after.toList])
def edgesOk : Nat → List Oper → Bool
  | _, [] => true
  | n, o :: r => o.after.toList.all (fun e => !Region.binds .any e || Nat.blt e.on n) && edgesOk (n + 1) r
def drawOk (ops : List Oper) (recs : List Rc) (env0 : Env) (heap0 : Heap) : Bool :=
  edgesOk 0 ops && okR 0 recs (befs ops []) && freshAll env0 heap0 recs

theorem disjW_ok {α β : Type} : ∀ {r : List (Nat × α)} {s : List (Nat × β)}, disjW r s = true → ∀ t v, lookW t r = some v → lookW t s = none
  | [], s, _, t, v, e => by simp [lookW] at e
  | (j, x) :: r, s, h, t, v, e => by
    simp only [disjW, Bool.and_eq_true] at h
    rw [lookW_cons] at e
    split at e
    · rename_i hj
      subst hj
      cases hl : lookW t s with
      | none => rfl
      | some _ => rw [hl] at h; simp at h
    · exact disjW_ok h.2 t v e
theorem disjN_ok {α : Type} : ∀ {r : List Nat} {s : List (Nat × α)}, disjN r s = true → ∀ t ∈ r, lookW t s = none
  | [], s, _, t, e => by simp at e
  | j :: r, s, h, t, e => by
    simp only [disjN, Bool.and_eq_true] at h
    rcases List.mem_cons.1 e with rfl | e
    · cases hl : lookW t s with
      | none => rfl
      | some _ => rw [hl] at h; simp at h
    · exact disjN_ok h.2 t e
theorem freeW_ok {d : Nat} : ∀ {l : List (Nat × AVal)}, freeW d l = true → ∀ t v, lookW t l = some v → v.free d = true
  | [], _, t, v, e => by simp [lookW] at e
  | (j, x) :: r, h, t, v, e => by
    simp only [freeW, Bool.and_eq_true] at h
    rw [lookW_cons] at e
    split at e
    · cases e; exact h.1
    · exact freeW_ok h.2 t v e
theorem freeWh_ok {d : Nat} : ∀ {l : List (Nat × Option AObj)}, freeWh d l = true → ∀ t v, lookW t l = some v → t ≠ d ∧ ∀ o, v = some o → o.free d = true
  | [], _, t, v, e => by simp [lookW] at e
  | (j, x) :: r, h, t, v, e => by
    simp only [freeWh, Bool.and_eq_true] at h
    rw [lookW_cons] at e
    split at e
    · rename_i hj
      cases e
      rw [hj]
      refine ⟨beq_ne h.1.1, fun o ho => ?_⟩
      have := h.1.2
      rw [ho] at this
      exact this
    · exact freeWh_ok h.2 t v e
theorem freeR_ok {r : Rc} : ∀ {fr : List Nat}, freeR fr r = true → ∀ d ∈ fr, freeW d r.wt = true ∧ freeWh d r.wh = true
  | [], _, d, e => by simp at e
  | j :: fr, h, d, e => by
    simp only [freeR, Bool.and_eq_true] at h
    rcases List.mem_cons.1 e with rfl | e
    · exact h.1
    · exact freeR_ok h.2 d e
theorem okWith_ok {i : Nat} {r : Rc} : ∀ {ss : List Rc} {ms : List Nat}, okWith i r ss ms = true → ∀ (j : Nat) (s : Rc), ss[j]? = some s → ∃ m : Nat, ms[j]? = some m ∧ okPair (m.testBit i) r s = true
  | [], _, _, j, s, e => by simp at e
  | s0 :: ss, m :: ms, h, j, s, e => by
    simp only [okWith, Bool.and_eq_true] at h
    cases j with
    | zero => simp only [List.getElem?_cons_zero, Option.some.injEq] at e; subst e; exact ⟨m, rfl, h.1⟩
    | succ j => simp only [List.getElem?_cons_succ] at e ⊢; exact okWith_ok h.2 j s e
  | _ :: _, [], h, j, s, e => by simp [okWith] at h
theorem okR_ok : ∀ {rs : List Rc} {ms : List Nat} {k : Nat}, okR k rs ms = true → ∀ (i j : Nat) (r s : Rc), i < j → rs[i]? = some r → rs[j]? = some s → ∃ m : Nat, ms[j]? = some m ∧ okPair (m.testBit (k + i)) r s = true
  | [], _, _, _, i, j, r, s, _, e, _ => by simp at e
  | r0 :: rs, m :: ms, k, h, i, j, r, s, hij, e1, e2 => by
    simp only [okR, Bool.and_eq_true] at h
    cases j with
    | zero => omega
    | succ j =>
      simp only [List.getElem?_cons_succ] at e2 ⊢
      cases i with
      | zero =>
        simp only [List.getElem?_cons_zero, Option.some.injEq] at e1
        subst e1
        exact okWith_ok h.1 j s e2
      | succ i =>
        simp only [List.getElem?_cons_succ] at e1
        obtain ⟨m', h1, h2⟩ := okR_ok h.2 i j r s (by omega) e1 e2
        exact ⟨m', h1, by rw [show k + (i + 1) = k + 1 + i from by omega]; exact h2⟩
  | _ :: _, [], _, h, i, j, r, s, _, e1, e2 => by simp [okR] at h
/-- What is done when an operation is done: all that must stand ahead of it is. -/
def Closed (ops : List Oper) (D : Nat → Bool) : Prop := ∀ j o, ops[j]? = some o → D j = true → ∀ e ∈ o.after.toList, Region.binds .any e = true → D e.on = true
theorem maskOf_bit {acc : List Nat} {i : Nat} : ∀ {es : List Edge}, (maskOf acc es).testBit i = true → ∃ e ∈ es, Region.binds .any e = true ∧ (i = e.on ∨ (acc.getD e.on 0).testBit i = true)
  | [], h => by simp [maskOf] at h
  | e :: r, h => by
    simp only [maskOf] at h
    cases hb : Region.binds .any e with
    | false =>
      rw [hb] at h
      obtain ⟨e', h1, h2⟩ := maskOf_bit h
      exact ⟨e', by simp [h1], h2⟩
    | true =>
      rw [hb] at h
      simp only [Nat.testBit_or, Bool.or_eq_true] at h
      rcases h with (h | h) | h
      · refine ⟨e, by simp, hb, .inl ?_⟩
        rw [Nat.testBit_two_pow] at h
        have : e.on = i := by simpa using h
        exact this.symm
      · exact ⟨e, by simp, hb, .inr h⟩
      · obtain ⟨e', h1, h2⟩ := maskOf_bit h
        exact ⟨e', by simp [h1], h2⟩
theorem befs_closed {ops : List Oper} {D : Nat → Bool} (hD : Closed ops D) : ∀ (l : List Oper) (acc : List Nat), (∀ k o, l[k]? = some o → ops[acc.length + k]? = some o) → (∀ j m, acc[j]? = some m → D j = true → ∀ i, m.testBit i = true → D i = true) →
    ∀ j m, (befs l acc)[j]? = some m → D j = true → ∀ i, m.testBit i = true → D i = true
  | [], acc, _, h, j, m, e => h j m e
  | o :: r, acc, hl, h, j, m, e => by
    refine befs_closed hD r (acc ++ [maskOf acc o.after.toList]) (fun k o' hk => ?_) (fun j m hj hDj i hi => ?_) j m e
    · rw [List.length_append]
      have := hl (k + 1) o' (by simpa using hk)
      simpa [Nat.add_assoc, Nat.add_comm 1 k] using this
    · rw [List.getElem?_append] at hj
      split at hj
      · exact h j m hj hDj i hi
      · rename_i hge
        have hj0 : j = acc.length := by
          have := (List.getElem?_eq_some_iff.1 hj).1
          simp at this; omega
        subst hj0
        simp only [Nat.sub_self, List.getElem?_cons_zero, Option.some.injEq] at hj
        subst hj
        obtain ⟨ed, h1, h2, h3⟩ := maskOf_bit hi
        have hon := hD acc.length o (by simpa using hl 0 o rfl) hDj ed h1 h2
        rcases h3 with h3 | h3
        · rw [h3]; exact hon
        · cases ha : acc[ed.on]? with
          | none => rw [List.getD_eq_getElem?_getD, ha] at h3; simp at h3
          | some m' => rw [List.getD_eq_getElem?_getD, ha] at h3; exact h ed.on m' ha hon i h3
/-- Slots, when just the operations of D are done. -/
def SG : List Rc → Nat → (Nat → Bool) → (Nat → AVal) → (Nat → AVal)
  | [], _, _, g => g
  | r :: rs, i, D, g => SG rs (i + 1) D (match D i with | true => r.g g | false => g)
def SH : List Rc → Nat → (Nat → Bool) → (Nat → Option AObj) → (Nat → Option AObj)
  | [], _, _, g => g
  | r :: rs, i, D, g => SH rs (i + 1) D (match D i with | true => r.h g | false => g)
theorem SG_agree {t : Nat} : ∀ {rs : List Rc} {i : Nat} {D D' : Nat → Bool} {g g' : Nat → AVal}, (∀ j r v, rs[j]? = some r → lookW t r.wt = some v → D (i + j) = D' (i + j)) → g t = g' t → SG rs i D g t = SG rs i D' g' t
  | [], i, D, D', g, g', _, e => e
  | r :: rs, i, D, D', g, g', h, e => by
    simp only [SG]
    refine SG_agree (fun j r' v hj hv => ?_) ?_
    · have := h (j + 1) r' v (by simpa using hj) hv
      rwa [show i + (j + 1) = i + 1 + j from by omega] at this
    · cases hl : lookW t r.wt with
      | none =>
        have : ∀ (b : Bool) (g : Nat → AVal), (match b with | true => r.g g | false => g) t = g t := by intro b g; cases b <;> simp [Rc.g, hl]
        rw [this, this]; exact e
      | some v =>
        have := h 0 r v rfl hl
        simp only [Nat.add_zero] at this
        rw [this]
        cases D' i with
        | true => simp [Rc.g, hl]
        | false => exact e
theorem SH_agree {t : Nat} : ∀ {rs : List Rc} {i : Nat} {D D' : Nat → Bool} {g g' : Nat → Option AObj}, (∀ j r v, rs[j]? = some r → lookW t r.wh = some v → D (i + j) = D' (i + j)) → g t = g' t → SH rs i D g t = SH rs i D' g' t
  | [], i, D, D', g, g', _, e => e
  | r :: rs, i, D, D', g, g', h, e => by
    simp only [SH]
    refine SH_agree (fun j r' v hj hv => ?_) ?_
    · have := h (j + 1) r' v (by simpa using hj) hv
      rwa [show i + (j + 1) = i + 1 + j from by omega] at this
    · cases hl : lookW t r.wh with
      | none =>
        have : ∀ (b : Bool) (g : Nat → Option AObj), (match b with | true => r.h g | false => g) t = g t := by intro b g; cases b <;> simp [Rc.h, hl]
        rw [this, this]; exact e
      | some v =>
        have := h 0 r v rfl hl
        simp only [Nat.add_zero] at this
        rw [this]
        cases D' i with
        | true => simp [Rc.h, hl]
        | false => exact e
theorem SG_none {t : Nat} : ∀ {rs : List Rc} {i : Nat} {D : Nat → Bool} {g : Nat → AVal}, (∀ j r v, rs[j]? = some r → lookW t r.wt = some v → D (i + j) = false) → SG rs i D g t = g t
  | [], _, _, _, _ => rfl
  | r :: rs, i, D, g, h => by
    simp only [SG]
    rw [SG_none (fun j r' v hj hv => by
      have := h (j + 1) r' v (by simpa using hj) hv
      rwa [show i + (j + 1) = i + 1 + j from by omega] at this)]
    cases hl : lookW t r.wt with
    | none => cases D i <;> simp [Rc.g, hl]
    | some v =>
      have := h 0 r v rfl hl
      simp only [Nat.add_zero] at this
      rw [this]
theorem SH_none {t : Nat} : ∀ {rs : List Rc} {i : Nat} {D : Nat → Bool} {g : Nat → Option AObj}, (∀ j r v, rs[j]? = some r → lookW t r.wh = some v → D (i + j) = false) → SH rs i D g t = g t
  | [], _, _, _, _ => rfl
  | r :: rs, i, D, g, h => by
    simp only [SH]
    rw [SH_none (fun j r' v hj hv => by
      have := h (j + 1) r' v (by simpa using hj) hv
      rwa [show i + (j + 1) = i + 1 + j from by omega] at this)]
    cases hl : lookW t r.wh with
    | none => cases D i <;> simp [Rc.h, hl]
    | some v =>
      have := h 0 r v rfl hl
      simp only [Nat.add_zero] at this
      rw [this]
/-- The value of a slot is one that some operation that is done wrote, or the old one. -/
theorem SG_from {t : Nat} : ∀ (rs : List Rc) (i : Nat) (D : Nat → Bool) (g : Nat → AVal), SG rs i D g t = g t ∨ ∃ j r v, rs[j]? = some r ∧ D (i + j) = true ∧ lookW t r.wt = some v ∧ SG rs i D g t = v
  | [], _, _, _ => .inl rfl
  | r :: rs, i, D, g => by
    simp only [SG]
    rcases SG_from (t := t) rs (i + 1) D (match D i with | true => r.g g | false => g) with h | ⟨j, r', v, h1, h2, h3, h4⟩
    · rw [h]
      cases hD : D i with
      | false => exact .inl rfl
      | true =>
        cases hl : lookW t r.wt with
        | none => left; simp [Rc.g, hl]
        | some v => right; exact ⟨0, r, v, rfl, by simpa using hD, hl, by simp [Rc.g, hl]⟩
    · right; exact ⟨j + 1, r', v, by simpa using h1, by rw [show i + (j + 1) = i + 1 + j from by omega]; exact h2, h3, h4⟩
theorem SH_from {t : Nat} : ∀ (rs : List Rc) (i : Nat) (D : Nat → Bool) (g : Nat → Option AObj), SH rs i D g t = g t ∨ ∃ j r v, rs[j]? = some r ∧ D (i + j) = true ∧ lookW t r.wh = some v ∧ SH rs i D g t = v
  | [], _, _, _ => .inl rfl
  | r :: rs, i, D, g => by
    simp only [SH]
    rcases SH_from (t := t) rs (i + 1) D (match D i with | true => r.h g | false => g) with h | ⟨j, r', v, h1, h2, h3, h4⟩
    · rw [h]
      cases hD : D i with
      | false => exact .inl rfl
      | true =>
        cases hl : lookW t r.wh with
        | none => left; simp [Rc.h, hl]
        | some v => right; exact ⟨0, r, v, rfl, by simpa using hD, hl, by simp [Rc.h, hl]⟩
    · right; exact ⟨j + 1, r', v, by simpa using h1, by rw [show i + (j + 1) = i + 1 + j from by omega]; exact h2, h3, h4⟩
theorem SG_split : ∀ (rs ss : List Rc) (i : Nat) (D : Nat → Bool) (g : Nat → AVal), SG (rs ++ ss) i D g = SG ss (i + rs.length) D (SG rs i D g)
  | [], ss, i, D, g => rfl
  | r :: rs, ss, i, D, g => by
    simp only [List.cons_append, SG]
    rw [SG_split rs ss (i + 1) D _, List.length_cons, show i + (rs.length + 1) = i + 1 + rs.length from by omega]
theorem SH_split : ∀ (rs ss : List Rc) (i : Nat) (D : Nat → Bool) (g : Nat → Option AObj), SH (rs ++ ss) i D g = SH ss (i + rs.length) D (SH rs i D g)
  | [], ss, i, D, g => rfl
  | r :: rs, ss, i, D, g => by
    simp only [List.cons_append, SH]
    rw [SH_split rs ss (i + 1) D _, List.length_cons, show i + (rs.length + 1) = i + 1 + rs.length from by omega]
end Towline

/- The engine: statements that draw their order, as a rule for code. Over any program. -/
namespace Towline
open Go Go.RowKit
set_option linter.unusedVariables false

def rtOf (ops : Array Oper) (o : Oper) : List Nat :=
  match o.guard with
  | some (j, _) => match gtmp ops j with
    | some t => t :: tmpsOf o.op.operands.toList
    | none => tmpsOf o.op.operands.toList
  | none => tmpsOf o.op.operands.toList
/-- The objects that an operation looks at: a slot that is moved is not looked into. -/
def idsO (op : Op) (g : Nat → AVal) (rt : List Nat) : List Nat :=
  match op with
  | .move _ => []
  | _ => idsOf g rt
/-- A drawn statement, run in the order of the text; at its end its records are looked at. -/
def AOpsD (P : Program) (T : Tys) (nt : Nat) (ops : Array Oper) (K : List Rc → Env → Heap → Prop) : List Oper → List Rc → Env → Heap → Prop
  | [], acc, env, heap => K acc env heap
  | o :: r, acc, env, heap => forceN (fun rt => match o.guard with
    | none => forceN (fun rh => AStepD P T nt rt rh o env heap (fun rc env heap => AOpsD P T nt ops K r (rc :: acc) env heap)) (idsO o.op (fun t => look t env) rt)
    | some (j, want) => match gtmp ops j with
      | some t => match look t env with
        | .d (.b x) => match x with
          | true => match want with
            | true => forceN (fun rh => AStepD P T nt rt rh o ((t, .d (.b true)) :: env) heap (fun rc env heap => AOpsD P T nt ops K r (rc :: acc) env heap)) (idsO o.op (fun t => look t env) rt)
            | false => putD nt o.dst (.tup []) [t] [] ((t, .d (.b true)) :: env) heap (fun rc env heap => AOpsD P T nt ops K r (rc :: acc) env heap)
          | false => match want with
            | true => putD nt o.dst (.tup []) [t] [] ((t, .d (.b false)) :: env) heap (fun rc env heap => AOpsD P T nt ops K r (rc :: acc) env heap)
            | false => forceN (fun rh => AStepD P T nt rt rh o ((t, .d (.b false)) :: env) heap (fun rc env heap => AOpsD P T nt ops K r (rc :: acc) env heap)) (idsO o.op (fun t => look t env) rt)
        | .tup [] => putD nt o.dst (.tup []) [t] [] env heap (fun rc env heap => AOpsD P T nt ops K r (rc :: acc) env heap)
        | _ => False
      | none => False) (rtOf ops o)
section
variable {C : Ctx} {T : Tys} {ops : Array Oper}
/-- From wherever the record asks, the operation (or its being left out) does what the record says. -/
def OpOk (C : Ctx) (ops : Array Oper) (Q : Exit → Act → World → Prop) (i : Nat) (r : Rc) (g0 : Nat → AVal) (h0 : Nat → Option AObj) : Prop :=
  ∀ g h, Agrees r g0 h0 g h → ∀ L a w, Rel C L g h a w → ∀ (next : Act → World → Prop), (∀ L' a' w', Rel C L' (r.g g) (r.h h) a' w' → next a' w') → wpOp C.P ops Q i next a w
theorem opOk_run {Q : Exit → Act → World → Prop} {i : Nat} {o : Oper} {r : Rc} {g0 : Nat → AVal} {h0 : Nat → Option AObj} (ho : ops[i]? = some o) (hw : ∀ g h, Agrees r g0 h0 g h → ∀ L a w, Rel C L g h a w → Region.wanted o (yielded ops a.tmps) = true) (hs : StepOk C o r g0 h0) : OpOk C ops Q i r g0 h0 := by
  intro g h ha L a w H next hn
  unfold wpOp
  rw [ho]
  simp only
  rw [if_pos (hw g h ha L a w H)]
  exact .inl (hs g h ha L a w H next Q hn)
theorem bool_slot {L : Lay} {g : Nat → AVal} {h : Nat → Option AObj} {a : Act} {w : World} (H : Rel C L g h a w) {t : Nat} {x : Bool} (hg : g t = .d (.b x)) {j : Nat} (hj : gtmp ops j = some t) : yielded ops a.tmps j = some x := by
  have hs := H.slot t
  rw [hg] at hs
  have hb := repA_b hs
  have hlt : t < a.tmps.size := by
    rcases Nat.lt_or_ge t a.tmps.size with h1 | h1
    · exact h1
    · rw [Array.getD_eq_getD_getElem?, Array.getElem?_eq_none h1] at hb; cases hb
  unfold yielded
  have : (ops[j]?).bind (·.dst) = some t := hj
  rw [this]
  rw [Array.getD_eq_getD_getElem?, Array.getElem?_eq_getElem hlt] at hb
  simp only [Option.bind_some, Array.getElem?_eq_getElem hlt]
  simp only [Option.getD_some] at hb
  rw [hb]
theorem lk_same {t : Nat} {env : Env} {v : AVal} (h : look t env = v) : lk ((t, v) :: env) = lk env := by
  rw [lk_cons]
  funext s
  unfold gput
  split
  · rename_i e; rw [e, ← h]
  · rfl
/-- The text's own order: a record for each operation, each one right where the text comes to it. -/
theorem AOpsD_recs (hT : TysOk C.P T) {K : List Rc → Env → Heap → Prop} {Q : Exit → Act → World → Prop} : ∀ (l : List Oper) (k : Nat) (acc : List Rc) (env : Env) (heap : Heap), (∀ j o, l[j]? = some o → ops[k + j]? = some o) → AOpsD C.P T C.nt ops K l acc env heap →
    ∃ (recs : List Rc) (env' : Env) (heap' : Heap), K (recs.reverse ++ acc) env' heap' ∧ recs.length = l.length ∧ lk env' = SG recs 0 (fun _ => true) (lk env) ∧ lko heap' = SH recs 0 (fun _ => true) (lko heap) ∧
      ∀ i r, recs[i]? = some r → OpOk C ops Q (k + i) r (SG (recs.take i) 0 (fun _ => true) (lk env)) (SH (recs.take i) 0 (fun _ => true) (lko heap))
  | [], k, acc, env, heap, _, h => ⟨[], env, heap, h, rfl, rfl, rfl, fun i r hr => by simp at hr⟩
  | o :: l, k, acc, env, heap, hl, h => by
    have ho : ops[k]? = some o := by simpa using hl 0 o rfl
    have hl' : ∀ j o', l[j]? = some o' → ops[k + 1 + j]? = some o' := fun j o' hj => by
      have := hl (j + 1) o' (by simpa using hj)
      rwa [show k + (j + 1) = k + 1 + j from by omega] at this
    have step : ∀ (env1 : Env), lk env1 = lk env → (∃ r env' heap', AOpsD C.P T C.nt ops K l (r :: acc) env' heap' ∧ lk env' = r.g (lk env1) ∧ lko heap' = r.h (lko heap) ∧ OpOk C ops Q k r (lk env1) (lko heap)) →
        ∃ (recs : List Rc) (env' : Env) (heap' : Heap), K (recs.reverse ++ acc) env' heap' ∧ recs.length = (o :: l).length ∧ lk env' = SG recs 0 (fun _ => true) (lk env) ∧ lko heap' = SH recs 0 (fun _ => true) (lko heap) ∧
          ∀ i r, recs[i]? = some r → OpOk C ops Q (k + i) r (SG (recs.take i) 0 (fun _ => true) (lk env)) (SH (recs.take i) 0 (fun _ => true) (lko heap)) := by
      rintro env1 he ⟨r, env', heap', h1, h2, h3, h4⟩
      obtain ⟨recs, env2, heap2, k1, k2, k3, k4, k5⟩ := AOpsD_recs hT (Q := Q) l (k + 1) (r :: acc) env' heap' hl' h1
      have sg : ∀ (rs : List Rc) (g : Nat → AVal) (i j : Nat), SG rs i (fun _ => true) g = SG rs j (fun _ => true) g := by
        intro rs
        induction rs with
        | nil => intros; rfl
        | cons r rs ih => intro g i j; simp only [SG]; exact ih _ _ _
      have sh : ∀ (rs : List Rc) (g : Nat → Option AObj) (i j : Nat), SH rs i (fun _ => true) g = SH rs j (fun _ => true) g := by
        intro rs
        induction rs with
        | nil => intros; rfl
        | cons r rs ih => intro g i j; simp only [SH]; exact ih _ _ _
      refine ⟨r :: recs, env2, heap2, by simpa using k1, by simp [k2], ?_, ?_, fun i r' hr => ?_⟩
      · rw [k3, h2, he]; simp only [SG]; exact sg _ _ _ _
      · rw [k4, h3]; simp only [SH]; exact sh _ _ _ _
      · cases i with
        | zero =>
          simp only [List.getElem?_cons_zero, Option.some.injEq] at hr
          subst hr
          simp only [Nat.add_zero, List.take_zero, SG, SH]
          rw [← he]; exact h4
        | succ i =>
          simp only [List.getElem?_cons_succ] at hr
          have := k5 i r' hr
          rw [h2, h3, he] at this
          simp only [List.take_succ_cons, SG, SH]
          rw [show k + (i + 1) = k + 1 + i from by omega, sg _ _ (0 + 1) 0, sh _ _ (0 + 1) 0]
          exact this
    unfold AOpsD at h
    have h := forceN_eq h
    cases hg : o.guard with
    | none =>
      rw [hg] at h
      simp only at h
      have h := forceN_eq h
      obtain ⟨r, env', heap', h1, _, h2, h3, h4⟩ := AStepD_ok hT h
      exact step env rfl ⟨r, env', heap', h1, h2, h3, opOk_run ho (fun g h ha L a w H => by simp [Region.wanted, hg]) h4⟩
    | some jw =>
      obtain ⟨j, want⟩ := jw
      rw [hg] at h
      simp only at h
      cases ht : gtmp ops j with
      | none => rw [ht] at h; exact h.elim
      | some t =>
        rw [ht] at h
        simp only at h
        have hrt : t ∈ rtOf ops o := by unfold rtOf; rw [hg]; simp [ht]
        split at h
        · rename_i x e
          have hsame : ∀ b, x = b → lk ((t, .d (.b b)) :: env) = lk env := fun b hb => lk_same (by rw [e, hb])
          have hval : lk env t = .d (.b x) := e
          have do_ : ∀ b, x = b → want = b → forceN (fun rh => AStepD C.P T C.nt (rtOf ops o) rh o ((t, .d (.b b)) :: env) heap (fun rc env heap => AOpsD C.P T C.nt ops K l (rc :: acc) env heap)) (idsO o.op (fun t => look t env) (rtOf ops o)) →
              ∃ r env' heap', AOpsD C.P T C.nt ops K l (r :: acc) env' heap' ∧ lk env' = r.g (lk ((t, .d (.b b)) :: env)) ∧ lko heap' = r.h (lko heap) ∧ OpOk C ops Q k r (lk ((t, .d (.b b)) :: env)) (lko heap) := by
            intro b hb hwb hh
            have hh := forceN_eq hh
            obtain ⟨r, env', heap', h1, h0, h2, h3, h4⟩ := AStepD_ok hT hh
            refine ⟨r, env', heap', h1, h2, h3, opOk_run ho (fun g h ha L a w H => ?_) h4⟩
            have hg' : g t = .d (.b x) := by rw [ha.t t (by rw [h0]; exact hrt), hsame b hb, hval]
            have hy := bool_slot H hg' ht
            simp [Region.wanted, hg, hy, hb, hwb]
          have skip_ : ∀ b, x = b → want = (!b) → putD C.nt o.dst (.tup []) [t] [] ((t, .d (.b b)) :: env) heap (fun rc env heap => AOpsD C.P T C.nt ops K l (rc :: acc) env heap) →
              ∃ r env' heap', AOpsD C.P T C.nt ops K l (r :: acc) env' heap' ∧ lk env' = r.g (lk ((t, .d (.b b)) :: env)) ∧ lko heap' = r.h (lko heap) ∧ OpOk C ops Q k r (lk ((t, .d (.b b)) :: env)) (lko heap) := by
            intro b hb hwb hh
            have key : ∀ (wt : List (Nat × AVal)), (wt = wtOf o.dst (.tup [])) → (∀ t, o.dst = some t → t < C.nt) → OpOk C ops Q k ⟨[t], [], wt, [], []⟩ (lk ((t, .d (.b b)) :: env)) (lko heap) := by
              intro wt hwt hlt g h ha L a w H next hn
              have hg' : g t = .d (.b x) := by rw [ha.t t (by simp), hsame b hb, hval]
              have hy := bool_slot H hg' ht
              unfold wpOp
              rw [ho]
              simp only
              rw [if_neg (by simp [Region.wanted, hg, hy, hb, hwb])]
              exact hn L _ w (put_step H hlt (.tup (vs := #[]) rfl fun i x hx => by simp at hx) hwt)
            unfold putD at hh
            cases hd : o.dst with
            | none =>
              rw [hd] at hh key
              exact ⟨_, _, _, hh, rfl, rfl, key [] rfl (fun t h => by cases h)⟩
            | some d =>
              rw [hd] at hh key
              simp only at hh
              cases hbl : Nat.blt d C.nt with
              | false => rw [hbl] at hh; exact hh.elim
              | true =>
                rw [hbl] at hh
                exact ⟨_, _, _, hh, by rw [lk_cons, Rc.g_one], rfl, key _ rfl (fun t h => by cases h; exact blt_lt hbl)⟩
          cases x <;> cases want <;> simp only at h
          · exact step _ (hsame _ rfl) (do_ _ rfl rfl h)
          · exact step _ (hsame _ rfl) (skip_ _ rfl rfl h)
          · exact step _ (hsame _ rfl) (skip_ _ rfl rfl h)
          · exact step _ (hsame _ rfl) (do_ _ rfl rfl h)
        · rename_i e
          have hval : lk env t = .tup [] := e
          have key : ∀ (wt : List (Nat × AVal)), (wt = wtOf o.dst (.tup [])) → (∀ t, o.dst = some t → t < C.nt) → OpOk C ops Q k ⟨[t], [], wt, [], []⟩ (lk env) (lko heap) := by
            intro wt hwt hlt g h ha L a w H next hn
            have hg' : g t = .tup [] := by rw [ha.t t (by simp), hval]
            have hs := H.slot t
            rw [hg'] at hs
            have hy := yielded_undef ht (repA_tup0 hs)
            unfold wpOp
            rw [ho]
            simp only
            rw [if_neg (by simp [Region.wanted, hg, hy])]
            exact hn L _ w (put_step H hlt (.tup (vs := #[]) rfl fun i x hx => by simp at hx) hwt)
          refine step env rfl ?_
          unfold putD at h
          cases hd : o.dst with
          | none =>
            rw [hd] at h key
            exact ⟨_, _, _, h, rfl, rfl, key [] rfl (fun t h => by cases h)⟩
          | some d =>
            rw [hd] at h key
            simp only at h
            cases hbl : Nat.blt d C.nt with
            | false => rw [hbl] at h; exact h.elim
            | true =>
              rw [hbl] at h
              exact ⟨_, _, _, h, by rw [lk_cons, Rc.g_one], rfl, key _ rfl (fun t h => by cases h; exact blt_lt hbl)⟩
        · exact h.elim
theorem split_at {α : Type} {l : List α} {i : Nat} {r : α} (h : l[i]? = some r) : l = l.take i ++ (r :: l.drop (i + 1)) := by
  obtain ⟨hi, e⟩ := List.getElem?_eq_some_iff.1 h
  rw [← e, ← List.drop_eq_getElem_cons hi, List.take_append_drop]
/-- The rule. -/
theorem draw_any {Q : Exit → Act → World → Prop} {recs : List Rc} {g0 : Nat → AVal} {h0 : Nat → Option AObj} (hlen : recs.length = ops.size) (hedge : edgesOk 0 ops.toList = true) (hpair : okR 0 recs (befs ops.toList []) = true)
    (hfg : ∀ r ∈ recs, ∀ d ∈ r.fr, ∀ t, (g0 t).free d = true) (hfh : ∀ r ∈ recs, ∀ d ∈ r.fr, ∀ j o, h0 j = some o → j ≠ d ∧ o.free d = true)
    (hop : ∀ i r, recs[i]? = some r → OpOk C ops Q i r (SG (recs.take i) 0 (fun _ => true) g0) (SH (recs.take i) 0 (fun _ => true) h0))
    (hQ : ∀ L a w, Rel C L (SG recs 0 (fun _ => true) g0) (SH recs 0 (fun _ => true) h0) a w → Q .normal a w) :
    ∀ (fuel : Nat) (listed : Array Bool) (a : Act) (w : World), listed.size = ops.size → listed.toList.countP (fun b => !b) = fuel → Closed ops.toList (fun i => listed.getD i false) →
      (∃ L, Rel C L (SG recs 0 (fun i => listed.getD i false) g0) (SH recs 0 (fun i => listed.getD i false) h0) a w) → wpAny C.P .any ops Q fuel listed a w := by
  have edge : ∀ (l : List Oper) (n : Nat), edgesOk n l = true → ∀ j o, l[j]? = some o → ∀ e ∈ o.after.toList, Region.binds .any e = true → e.on < n + j := by
    intro l
    induction l with
    | nil => intro n _ j o h; simp at h
    | cons x r ih =>
      intro n h j o hj e he hb
      simp only [edgesOk, Bool.and_eq_true, List.all_eq_true] at h
      cases j with
      | zero =>
        simp only [List.getElem?_cons_zero, Option.some.injEq] at hj
        subst hj
        have := h.1 e he
        rw [hb] at this
        have := blt_lt (by simpa using this)
        omega
      | succ j =>
        simp only [List.getElem?_cons_succ] at hj
        have := ih (n + 1) h.2 j o hj e he hb
        omega
  have hedge' := edge ops.toList 0 hedge
  -- all that is not done: some operation is ready
  have stuck_ : ∀ (listed : Array Bool), listed.size = ops.size → Region.ready .any ops listed = [] → ∀ i, i < ops.size → listed.getD i false = true := by
    intro listed hsz hready i
    induction i using Nat.strongRecOn with
    | _ i ih =>
      intro hi
      cases hl : listed.getD i false with
      | true => rfl
      | false =>
        exfalso
        have hmem : i ∈ Region.ready .any ops listed := by
          unfold Region.ready
          rw [List.mem_filter]
          refine ⟨by simpa using hi, ?_⟩
          have h1 : listed.getD i true = false := by
            rw [Array.getD_eq_getD_getElem?] at hl ⊢
            rw [Array.getElem?_eq_getElem (by omega)] at hl ⊢
            exact hl
          rw [h1]
          rw [Array.getElem?_eq_getElem hi]
          simp only [Bool.not_false, Bool.true_and, Option.map_some, Option.getD_some]
          rw [← Array.all_toList, List.all_eq_true]
          intro e he
          cases hb : Region.binds .any e with
          | false => rfl
          | true =>
            have hlt := hedge' i ops[i] (by simp [hi]) e he hb
            simp only [Bool.not_true, Bool.false_or]
            exact ih e.on (by omega) (by omega)
        rw [hready] at hmem
        simp at hmem
  have fin : ∀ (listed : Array Bool) (a : Act) (w : World), listed.size = ops.size → Region.ready .any ops listed = [] → (∃ L, Rel C L (SG recs 0 (fun i => listed.getD i false) g0) (SH recs 0 (fun i => listed.getD i false) h0) a w) → Q .normal a w := by
    rintro listed a w hsz hready ⟨L, H⟩
    have hall := stuck_ listed hsz hready
    refine hQ L a w ?_
    have e1 : SG recs 0 (fun i => listed.getD i false) g0 = SG recs 0 (fun _ => true) g0 := funext fun t => SG_agree (fun j r v hj _ => by
      have : j < ops.size := by rw [← hlen]; exact (List.getElem?_eq_some_iff.1 hj).1
      simpa using hall j this) rfl
    have e2 : SH recs 0 (fun i => listed.getD i false) h0 = SH recs 0 (fun _ => true) h0 := funext fun t => SH_agree (fun j r v hj _ => by
      have : j < ops.size := by rw [← hlen]; exact (List.getElem?_eq_some_iff.1 hj).1
      simpa using hall j this) rfl
    rw [← e1, ← e2]; exact H
  intro fuel
  induction fuel with
  | zero =>
    intro listed a w hsz hcount hclosed hrel
    have hready : Region.ready .any ops listed = [] := by
      unfold Region.ready
      rw [List.filter_eq_nil_iff]
      intro i hi
      have hi' : i < listed.size := by rw [hsz]; simpa using hi
      have := List.countP_eq_zero.1 hcount listed[i] (by simp)
      have h1 : listed.getD i true = true := by
        rw [Array.getD_eq_getD_getElem?, Array.getElem?_eq_getElem hi']
        simpa using this
      simp [h1]
    exact ⟨hready, fin listed a w hsz hready hrel⟩
  | succ fuel ih =>
    intro listed a w hsz hcount hclosed hrel
    refine ⟨fun hready => fin listed a w hsz hready hrel, fun i hi => ?_⟩
    unfold Region.ready at hi
    rw [List.mem_filter] at hi
    obtain ⟨hi1, hi2⟩ := hi
    have hi' : i < ops.size := by simpa using hi1
    simp only [Bool.and_eq_true] at hi2
    obtain ⟨hnot, hpre⟩ := hi2
    have hil : i < listed.size := by omega
    have hDi : listed.getD i false = false := by
      rw [Array.getD_eq_getD_getElem?, Array.getElem?_eq_getElem hil] at hnot ⊢
      simpa using hnot
    rw [Array.getElem?_eq_getElem hi'] at hpre
    simp only [Option.map_some, Option.getD_some] at hpre
    rw [← Array.all_toList, List.all_eq_true] at hpre
    obtain ⟨L, H⟩ := hrel
    obtain ⟨ri, hri⟩ : ∃ r, recs[i]? = some r := ⟨recs[i]'(by omega), List.getElem?_eq_getElem (by omega)⟩
    -- what is done, and then i
    have hset : ∀ j, (listed.setIfInBounds i true).getD j false = if j = i then true else listed.getD j false := by
      intro j
      simp only [Array.getD_eq_getD_getElem?, Array.getElem?_setIfInBounds]
      by_cases e : i = j
      · subst e; simp [hil]
      · rw [if_neg e, if_neg (fun h => e h.symm)]
    have hclosed' : Closed ops.toList (fun j => (listed.setIfInBounds i true).getD j false) := by
      intro j o hj hD e he hb
      simp only [hset] at hD ⊢
      by_cases e1 : e.on = i
      · simp [e1]
      · rw [if_neg e1]
        by_cases e2 : j = i
        · subst e2
          have ho : o = ops[j] := by
            have : ops[j]? = some o := by simpa using hj
            rw [Array.getElem?_eq_getElem hi'] at this
            exact (Option.some.inj this).symm
          subst ho
          have := hpre e he
          rw [hb] at this
          simpa using this
        · rw [if_neg e2] at hD
          exact hclosed j o hj hD e he hb
    -- conflicts are ordered
    have ordBefore : ∀ (j : Nat) (m : Nat), (befs ops.toList [])[i]? = some m → m.testBit j = true → listed.getD j false = true := by
      intro j m hm hb
      have := befs_closed hclosed' ops.toList [] (fun k o hk => by simpa using hk) (fun j m h => by simp at h) i m hm (by simp [hset]) j hb
      simp only [hset] at this
      by_cases e : j = i
      · subst e
        -- no operation stands ahead of itself
        exfalso
        have bound : ∀ (l : List Oper) (acc : List Nat), (∀ k o, l[k]? = some o → ops.toList[acc.length + k]? = some o) → (∀ (k m : Nat), acc[k]? = some m → ∀ q, m.testBit q = true → q < k) → ∀ (k m : Nat), (befs l acc)[k]? = some m → ∀ q, m.testBit q = true → q < k := by
          intro l
          induction l with
          | nil => intro acc _ h k m e; exact h k m e
          | cons o r ih2 =>
            intro acc hl h k m e
            refine ih2 (acc ++ [maskOf acc o.after.toList]) (fun k o' hk => ?_) (fun k m hk q hq => ?_) k m e
            · rw [List.length_append]
              have := hl (k + 1) o' (by simpa using hk)
              simpa [Nat.add_assoc, Nat.add_comm 1 k] using this
            · rw [List.getElem?_append] at hk
              split at hk
              · exact h k m hk q hq
              · rename_i hge
                have hk0 : k = acc.length := by
                  have := (List.getElem?_eq_some_iff.1 hk).1
                  simp at this; omega
                subst hk0
                simp only [Nat.sub_self, List.getElem?_cons_zero, Option.some.injEq] at hk
                subst hk
                obtain ⟨ed, h1, h2, h3⟩ := maskOf_bit hq
                have hlt := hedge' acc.length o (by simpa using hl 0 o rfl) ed h1 h2
                rcases h3 with h3 | h3
                · omega
                · cases ha : acc[ed.on]? with
                  | none => rw [List.getD_eq_getElem?_getD, ha] at h3; simp at h3
                  | some m' => rw [List.getD_eq_getElem?_getD, ha] at h3; have := h ed.on m' ha q h3; omega
        have := bound ops.toList [] (fun k o hk => by simpa using hk) (fun k m h => by simp at h) j m hm j hb
        omega
      · rwa [if_neg e] at this
    have ordAfter : ∀ (j : Nat) (m : Nat), (befs ops.toList [])[j]? = some m → m.testBit i = true → listed.getD j false = true → False := by
      intro j m hm hb hD
      have := befs_closed hclosed ops.toList [] (fun k o hk => by simpa using hk) (fun j m h => by simp at h) j m hm hD i hb
      simp only [hDi] at this
      cases this
    -- a pair, whichever comes first in the text
    have pairs : ∀ (j : Nat) (rj : Rc), recs[j]? = some rj → j ≠ i →
        (∀ t v, lookW t rj.wt = some v → lookW t ri.wt = none) ∧ (listed.getD j false = true → ∀ d ∈ ri.fr, freeW d rj.wt = true ∧ freeWh d rj.wh = true) ∧
        ((listed.getD j false = true ↔ j < i) ∨ ((∀ t ∈ ri.rt, lookW t rj.wt = none) ∧ (∀ t ∈ ri.rh, lookW t rj.wh = none) ∧ (∀ t v, lookW t rj.wh = some v → lookW t ri.wh = none))) := by
      intro j rj hj hne
      rcases Nat.lt_or_gt_of_ne hne with hlt | hlt
      · obtain ⟨m, hm, hp⟩ := okR_ok hpair j i rj ri hlt hj hri
        simp only [okPair, Nat.zero_add, Bool.and_eq_true, Bool.or_eq_true] at hp
        obtain ⟨⟨p1, p2⟩, p3⟩ := hp
        refine ⟨fun t v hv => disjW_ok p1 t v hv, fun _ d hd => freeR_ok p2 d hd, ?_⟩
        rcases p3 with p3 | p3
        · left; exact ⟨fun _ => hlt, fun _ => ordBefore j m hm p3⟩
        · obtain ⟨⟨⟨⟨⟨q1, q2⟩, q3⟩, q4⟩, q5⟩, q6⟩ := p3
          right; exact ⟨disjN_ok q2, disjN_ok q4, fun t v hv => disjW_ok q5 t v hv⟩
      · obtain ⟨m, hm, hp⟩ := okR_ok hpair i j ri rj hlt hri hj
        simp only [okPair, Nat.zero_add, Bool.and_eq_true, Bool.or_eq_true] at hp
        obtain ⟨⟨p1, p2⟩, p3⟩ := hp
        refine ⟨fun t v hv => ?_, fun hD d hd => ?_, ?_⟩
        · cases h : lookW t ri.wt with
          | none => rfl
          | some v' => have := disjW_ok p1 t v' h; rw [hv] at this; cases this
        · rcases p3 with p3 | p3
          · exact (ordAfter j m hm p3 hD).elim
          · exact freeR_ok p3.2 d hd
        · rcases p3 with p3 | p3
          · left; exact ⟨fun hD => (ordAfter j m hm p3 hD).elim, fun h => by omega⟩
          · obtain ⟨⟨⟨⟨⟨q1, q2⟩, q3⟩, q4⟩, q5⟩, q6⟩ := p3
            right; exact ⟨disjN_ok q1, disjN_ok q3, fun t v hv => by
              cases h : lookW t ri.wh with
              | none => rfl
              | some v' => have := disjW_ok q5 t v' h; rw [hv] at this; cases this⟩
    have takeG : ∀ t, SG (recs.take i) 0 (fun _ => true) g0 t = SG recs 0 (fun j => decide (j < i)) g0 t := by
      intro t
      have e : recs = recs.take i ++ recs.drop i := (List.take_append_drop i recs).symm
      conv => rhs; rw [e]
      rw [SG_split, SG_none (rs := recs.drop i)]
      · refine SG_agree (fun j r v hj _ => ?_) rfl
        have : j < i := by have := (List.getElem?_eq_some_iff.1 hj).1; rw [List.length_take] at this; omega
        simp [this]
      · intro j r v _ _
        have : (recs.take i).length = i := by rw [List.length_take]; omega
        simp [this]
    have takeH : ∀ t, SH (recs.take i) 0 (fun _ => true) h0 t = SH recs 0 (fun j => decide (j < i)) h0 t := by
      intro t
      have e : recs = recs.take i ++ recs.drop i := (List.take_append_drop i recs).symm
      conv => rhs; rw [e]
      rw [SH_split, SH_none (rs := recs.drop i)]
      · refine SH_agree (fun j r v hj _ => ?_) rfl
        have : j < i := by have := (List.getElem?_eq_some_iff.1 hj).1; rw [List.length_take] at this; omega
        simp [this]
      · intro j r v _ _
        have : (recs.take i).length = i := by rw [List.length_take]; omega
        simp [this]
    have hagree : Agrees ri (SG (recs.take i) 0 (fun _ => true) g0) (SH (recs.take i) 0 (fun _ => true) h0) (SG recs 0 (fun j => listed.getD j false) g0) (SH recs 0 (fun j => listed.getD j false) h0) := {
      t := fun t ht => by
        rw [takeG]
        refine SG_agree (fun j r v hj hv => ?_) rfl
        simp only [Nat.zero_add]
        by_cases e : j = i
        · subst e; simp [hDi]
        · rcases (pairs j r hj e).2.2 with h | h
          · rw [Bool.eq_iff_iff]; simpa using h
          · have := h.1 t ht; rw [hv] at this; cases this
      o := fun t ht => by
        rw [takeH]
        refine SH_agree (fun j r v hj hv => ?_) rfl
        simp only [Nat.zero_add]
        by_cases e : j = i
        · subst e; simp [hDi]
        · rcases (pairs j r hj e).2.2 with h | h
          · rw [Bool.eq_iff_iff]; simpa using h
          · have := h.2.1 t ht; rw [hv] at this; cases this
      ft := fun d hd t => by
        rcases SG_from recs 0 (fun j => listed.getD j false) g0 (t := t) with h | ⟨j, r, v, h1, h2, h3, h4⟩
        · rw [h]; exact hfg ri (List.mem_of_getElem? hri) d hd t
        · rw [h4]
          simp only [Nat.zero_add] at h2
          have hne : j ≠ i := by intro e; subst e; rw [hDi] at h2; cases h2
          exact freeW_ok ((pairs j r h1 hne).2.1 h2 d hd).1 t v h3
      fo := fun d hd t o ho => by
        rcases SH_from recs 0 (fun j => listed.getD j false) h0 (t := t) with h | ⟨j, r, v, h1, h2, h3, h4⟩
        · rw [h] at ho; exact hfh ri (List.mem_of_getElem? hri) d hd t o ho
        · rw [h4] at ho
          simp only [Nat.zero_add] at h2
          have hne : j ≠ i := by intro e; subst e; rw [hDi] at h2; cases h2
          obtain ⟨k1, k2⟩ := freeWh_ok ((pairs j r h1 hne).2.1 h2 d hd).2 t v h3
          exact ⟨k1, k2 o ho⟩ }
    refine hop i ri hri _ _ hagree L a w H _ fun L' a' w' H' => ?_
    refine ih (listed.setIfInBounds i true) a' w' (by simpa using hsz) ?_ hclosed' ⟨L', ?_⟩
    · rw [Array.toList_setIfInBounds, List.countP_set (by simpa using hil)]
      have hget : listed.toList[i]'(by simpa using hil) = false := by
        rw [Array.getD_eq_getD_getElem?, Array.getElem?_eq_getElem hil] at hDi
        simpa using hDi
      rw [hget, hcount]
      simp
    · have eg : SG recs 0 (fun j => (listed.setIfInBounds i true).getD j false) g0 = ri.g (SG recs 0 (fun j => listed.getD j false) g0) := by
        funext t
        cases hw : lookW t ri.wt with
        | none =>
          have : ri.g (SG recs 0 (fun j => listed.getD j false) g0) t = SG recs 0 (fun j => listed.getD j false) g0 t := by simp [Rc.g, hw]
          rw [this]
          refine SG_agree (fun j r v hj hv => ?_) rfl
          simp only [Nat.zero_add, hset]
          by_cases e : j = i
          · subst e; rw [hri] at hj; cases hj; rw [hw] at hv; cases hv
          · rw [if_neg e]
        | some v =>
          have : ri.g (SG recs 0 (fun j => listed.getD j false) g0) t = v := by simp [Rc.g, hw]
          rw [this]
          have e : recs = recs.take i ++ (ri :: recs.drop (i + 1)) := split_at hri
          have hl : (recs.take i).length = i := by rw [List.length_take]; omega
          rw [e, SG_split, hl]
          simp only [SG, Nat.zero_add, hset, if_true]
          rw [SG_none]
          · simp [Rc.g, hw]
          · intro j r v' hj hv'
            have hj' : recs[i + 1 + j]? = some r := by rw [List.getElem?_drop] at hj; exact hj
            have := (pairs (i + 1 + j) r hj' (by omega)).1 t v' hv'
            rw [hw] at this; cases this
      have eh : SH recs 0 (fun j => (listed.setIfInBounds i true).getD j false) h0 = ri.h (SH recs 0 (fun j => listed.getD j false) h0) := by
        funext t
        cases hw : lookW t ri.wh with
        | none =>
          have : ri.h (SH recs 0 (fun j => listed.getD j false) h0) t = SH recs 0 (fun j => listed.getD j false) h0 t := by simp [Rc.h, hw]
          rw [this]
          refine SH_agree (fun j r v hj hv => ?_) rfl
          simp only [Nat.zero_add, hset]
          by_cases e : j = i
          · subst e; rw [hri] at hj; cases hj; rw [hw] at hv; cases hv
          · rw [if_neg e]
        | some v =>
          have : ri.h (SH recs 0 (fun j => listed.getD j false) h0) t = v := by simp [Rc.h, hw]
          rw [this]
          have e : recs = recs.take i ++ (ri :: recs.drop (i + 1)) := split_at hri
          have hl : (recs.take i).length = i := by rw [List.length_take]; omega
          rw [e, SH_split, hl]
          simp only [SH, Nat.zero_add, hset, if_true]
          rw [SH_none]
          · simp [Rc.h, hw]
          · intro j r v' hj hv'
            have hj' : recs[i + 1 + j]? = some r := by rw [List.getElem?_drop] at hj; exact hj
            rcases (pairs (i + 1 + j) r hj' (by omega)).2.2 with h | h
            · have hnot : ¬ (i + 1 + j < i) := by omega
              rw [if_neg (by omega)]
              cases hb : listed.getD (i + 1 + j) false with
              | false => rfl
              | true => exact absurd (h.1 hb) hnot
            · have := h.2.2 t v' hv'
              rw [hw] at this; cases this
      rw [eg, eh]; exact H'
theorem freeAll_ok {env : Env} {heap : Heap} : ∀ {l : List Nat}, freeAll env heap l = true → ∀ d ∈ l, freeEnv d env = true ∧ freeHeap d heap = true
  | [], _, d, e => by simp at e
  | j :: r, h, d, e => by
    simp only [freeAll, Bool.and_eq_true] at h
    rcases List.mem_cons.1 e with rfl | e
    · exact h.1
    · exact freeAll_ok h.2 d e
theorem freshAll_ok {env : Env} {heap : Heap} : ∀ {l : List Rc}, freshAll env heap l = true → ∀ r ∈ l, ∀ d ∈ r.fr, freeEnv d env = true ∧ freeHeap d heap = true
  | [], _, r, e => by simp at e
  | j :: rs, h, r, e => by
    simp only [freshAll, Bool.and_eq_true] at h
    rcases List.mem_cons.1 e with rfl | e
    · exact freeAll_ok h.1
    · exact freshAll_ok h.2 r e
/-- A statement that draws its order. -/
theorem AWp.draw (hT : TysOk C.P T) (hM : C.P.follows .mixedOrders = true) {Q : Exit → Env → Heap → Prop} {env : Env} {heap : Heap} {id : Nat}
    (h : AOpsD C.P T C.nt ops (fun recs env' heap' => drawOk ops.toList recs.reverse env heap = true ∧ Q .normal env' heap') ops.toList [] env heap) : AWp C (.region id ops true) Q env heap := by
  intro L a w H
  refine wp_region_any hM ?_
  obtain ⟨recs, env', heap', ⟨hok, hq⟩, hlen, e1, e2, hop⟩ := AOpsD_recs hT (Q := fun e a' w' => ∃ L' env' heap', Rel C L' (lk env') (lko heap') a' w' ∧ Q e env' heap') ops.toList 0 [] env heap (fun j o hj => by simpa using hj) h
  simp only [List.append_nil, List.reverse_reverse] at hok
  simp only [drawOk, Bool.and_eq_true] at hok
  obtain ⟨⟨k1, k2⟩, k3⟩ := hok
  have hfr := freshAll_ok k3
  refine draw_any (recs := recs) (g0 := lk env) (h0 := lko heap) (by simpa using hlen) k1 k2 (fun r hr d hd t => freeEnv_look (hfr r hr d hd).1 t) (fun r hr d hd j o ho => freeHeap_look (hfr r hr d hd).2 j o ho)
    (fun i r hr => by have := hop i r hr; rwa [Nat.zero_add] at this) (fun L' a' w' H' => ⟨L', env', heap', by rw [e1, e2]; exact H', hq⟩) ops.size (Array.replicate ops.size false) a _ (by simp) (by simp [List.countP_replicate]) ?_ ⟨L, ?_⟩
  · intro j o _ hD
    have : (Array.replicate ops.size false).getD j false = false := by
      rw [Array.getD_eq_getD_getElem?, Array.getElem?_replicate]
      split <;> rfl
    simp only at hD
    rw [this] at hD; cases hD
  · have hnone : ∀ j, (Array.replicate ops.size false).getD j false = false := by
      intro j
      rw [Array.getD_eq_getD_getElem?, Array.getElem?_replicate]
      split <;> rfl
    have eg : SG recs 0 (fun i => (Array.replicate ops.size false).getD i false) (lk env) = lk env := funext fun t => SG_none fun j r v _ _ => hnone _
    have eh : SH recs 0 (fun i => (Array.replicate ops.size false).getD i false) (lko heap) = lko heap := funext fun t => SH_none fun j r v _ _ => hnone _
    rw [eg, eh]
    exact H.world (n := 0) ⟨rfl, rfl, rfl, Nat.le_refl _, fun _ _ => rfl⟩ (fun _ _ => rfl)
end
end Towline

/- The engine, part ten: code run as far as it goes. Over any program. -/
namespace Towline
open Go Go.RowKit
set_option linter.unusedVariables false

/-- A loop that is still to be run. -/
structure ALoop (C : Ctx) (c : Code) (Q : Exit → Env → Heap → Prop) (env : Env) (heap : Heap) : Prop where
  out : AWp C (.loop c) Q env heap
/-- Code, run as far as plain data say: loops are left. -/
def ARun (C : Ctx) (T : Tys) : Code → (Exit → Env → Heap → Prop) → Env → Heap → Prop
  | .skip, Q, env, heap => Q .normal env heap
  | .region _ ops draw, Q, env, heap => match draw with
    | false => AOps C.P T C.nt ops (Q .normal) ops.toList env heap
    | true => AOpsD C.P T C.nt ops (fun recs env' heap' => drawOk ops.toList recs.reverse env heap = true ∧ Q .normal env' heap') ops.toList [] env heap
  | .seq x y, Q, env, heap => ARun C T x (fun e env heap => match e with | .normal => ARun C T y Q env heap | e => Q e env heap) env heap
  | .cond c x y, Q, env, heap => match opnd (fun t => look t env) c with
    | .d (.b b) => match b with
      | true => ARun C T x Q env heap
      | false => ARun C T y Q env heap
    | _ => False
  | .block id x, Q, env, heap => ARun C T x (fun e env heap => match e with | .exit i => (match Nat.beq i id with | true => Q .normal env heap | false => Q (.exit i) env heap) | e => Q e env heap) env heap
  | .loop c, Q, env, heap => ALoop C c Q env heap
  | .exit id, Q, env, heap => Q (.exit id) env heap
  | .ret, Q, env, heap => Q .ret env heap
  | .rangeFunc .., _, _, _ => False
  | .scope x, Q, env, heap => ARun C T x (fun e env heap => match e with | .goto _ => False | e => Q e env heap) env heap
  | .label _, Q, env, heap => Q .normal env heap
  | .goto _, _, _, _ => False
  | .refuse _, _, _, _ => False
section
variable {C : Ctx} {T : Tys}
theorem ARun_ok (hT : TysOk C.P T) (hM : C.P.follows .mixedOrders = true) : ∀ {c : Code} {Q : Exit → Env → Heap → Prop} {env : Env} {heap : Heap}, ARun C T c Q env heap → AWp C c Q env heap := by
  intro c
  induction c with
  | skip => exact fun h => AWp.skip h
  | region id ops draw =>
    intro Q env heap h
    cases draw with
    | false => exact AWp.region hT h
    | true => exact AWp.draw hT hM h
  | seq x y ihx ihy =>
    intro Q env heap h
    refine AWp.seq ((ihx h).mono fun e env heap h => ?_)
    cases e with
    | normal => exact ihy h
    | _ => exact h
  | cond c x y ihx ihy =>
    intro Q env heap h
    simp only [ARun] at h
    split at h
    · rename_i b e
      refine AWp.cond e (fun hb => ihx ?_) (fun hb => ihy ?_)
      · subst hb; exact h
      · subst hb; exact h
    · exact h.elim
  | block id x ih => intro Q env heap h; exact AWp.block (ih h)
  | loop c ih => exact fun h => h.out
  | exit id => exact fun h => AWp.exit h
  | ret => exact fun h => AWp.ret h
  | label l => exact fun h => fun L a w hr => wp_label ⟨L, _, _, hr, h⟩
  | scope x ih =>
    intro Q env heap h L a w hr
    refine wp_scope_straight (wp_mono (ih h L a w hr) fun e a' w' ⟨L', env', heap', h1, h2⟩ => ?_)
    cases e with
    | goto l => exact h2.elim
    | _ => exact ⟨L', env', heap', h1, h2⟩
  | _ => exact fun h => h.elim
/-- What is left of slots and objects. -/
def CovE (env : Env) : Env → Prop → Prop
  | [], p => p
  | (t, v) :: r, p => forceV (fun x => x.le v) (look t env) ∧ CovE env r p
def CovH (heap : Heap) : Heap → Prop
  | [] => True
  | (t, o) :: r => (match lookO t heap with | some o' => OLe o' o | none => False) ∧ CovH heap r
theorem CovE_ok {env : Env} {p : Prop} : ∀ {e : Env}, CovE env e p → (∀ t, (look t env).le (look t e)) ∧ p
  | [], h => ⟨fun t => ⟨fun w L gd v _ => .any⟩, h⟩
  | (s, v) :: r, h => by
    obtain ⟨h1, h2⟩ := CovE_ok h.2
    refine ⟨fun t => ?_, h2⟩
    rw [look_cons]
    split
    · rename_i e; rw [e]; exact forceV_eq (k := fun x => x.le v) h.1
    · exact h1 t
theorem CovH_ok {heap : Heap} : ∀ {e : Heap}, CovH heap e → ∀ id o, lookO id e = some o → ∃ o', lookO id heap = some o' ∧ OLe o' o
  | [], h, id, o, e => by simp [lookO] at e
  | (s, v) :: r, h, id, o, e => by
    rw [lookO_cons] at e
    split at e
    · rename_i hs
      cases e
      rw [hs]
      have h1 := h.1
      cases hl : lookO s heap with
      | none => rw [hl] at h1; exact h1.elim
      | some o' => rw [hl] at h1; exact ⟨o', rfl, h1⟩
    · exact CovH_ok h.2 id o e
theorem Covers.mk' {env env' : Env} {heap heap' : Heap} (h : CovE env env' (CovH heap heap')) : Covers env heap env' heap' :=
  ⟨(CovE_ok h).1, CovH_ok (CovE_ok h).2⟩
theorem ALoop.intro {X : Type} {c : Code} {Q : Exit → Env → Heap → Prop} {env : Env} {heap : Heap} (hT : TysOk C.P T) (hM : C.P.follows .mixedOrders = true) (S : X → Env × Heap) (μ : X → Nat) (x0 : X) (h0 : CovE env (S x0).1 (CovH heap (S x0).2))
    (round : ∀ x, ARun C T c (fun e env' heap' => match e with | .normal => ∃ x', μ x' < μ x ∧ CovE env' (S x').1 (CovH heap' (S x').2) | e => Q e env' heap') (S x).1 (S x).2) : ALoop C c Q env heap :=
  ⟨AWp.loop (fun x => (S x).1) (fun x => (S x).2) μ x0 (Covers.mk' h0) fun x => (ARun_ok hT hM (round x)).mono fun e env' heap' h => by
    cases e with
    | normal => obtain ⟨x', h1, h2⟩ := h; exact ⟨x', h1, Covers.mk' h2⟩
    | _ => exact h⟩
/-- A slice of typed elements. -/
def slT {α : Type} [Inhabited α] (sz : Nat) (enc : α → List D) (l : List α) : D := .sl sz l.length fun k => enc (l.getD k default)
end
theorem not_memN {i : Nat} {l : List Nat} (h : memN i l = false) : i ∉ l := fun e => by rw [memN_of.2 e] at h; cases h
/-- A nil slice in a slot, taken for an empty row of the call's own. -/
theorem Rel.adopt {C : Ctx} {L : Lay} {g : Nat → AVal} {h : Nat → Option AObj} {a : Act} {w : World} (H : Rel C L g h a w) {s id sz : Nat} (hlid : id ∉ C.lid) {t : TypeId} {f : Nat → List D} (hs : g s = .d (.v (.slice none 0 0))) (he : ∀ t, (g t).free id = true) (hh : ∀ j o, h j = some o → j ≠ id ∧ o.free id = true) :
    Rel C (L.upd id none 0) (gput g s (.rsl id sz 0 0)) (hput h id (.row t sz 0 f)) a w := by
  have hnew := H.new hlid he hh (Below.refl _ w) none 0 (fun b h => by cases h) (o := .row t sz 0 f) (.row0 (by simp [Lay.upd]) (by simp [Lay.upd]))
  exact { hnew with
    slot := fun x => by
      unfold gput
      split
      · rename_i e
        have h1 := H.slot s
        rw [hs] at h1
        rw [e, repA_v h1]
        have : RepA w (L.upd id none 0) (good C (L.upd id none 0) (hput h id (.row t sz 0 f)) w) (.rsl id sz 0 0) (.slice (((L.upd id none 0).blk id).map fun b => ⟨b, 0 * sz, none⟩) 0 ((L.upd id none 0).cap id - 0)) := .rsl (by simp [Lay.upd]) (fun h => by omega) (fun _ => rfl)
        simpa [Lay.upd] using this
      · exact hnew.slot x }
theorem ALoop.adopt {C : Ctx} {c : Code} {Q : Exit → Env → Heap → Prop} {env : Env} {heap : Heap} (s id sz : Nat) (t : TypeId) (f : Nat → List D) (hs : look s env = .d (.v (.slice none 0 0))) (he : freeEnv id env = true) (hh : freeHeap id heap = true)
    (h : ALoop C c Q ((s, .rsl id sz 0 0) :: env) ((id, .row t sz 0 f) :: heap)) (hl : memN id C.lid = false := by rfl) : ALoop C c Q env heap := by
  refine ⟨fun L a w H => ?_⟩
  have hn := Rel.adopt H (not_memN hl) (s := s) (id := id) (sz := sz) (t := t) (f := f) hs (freeEnv_look he) (freeHeap_look hh)
  rw [← lk_cons, ← lko_cons] at hn
  exact h.out _ a w hn
/-- A nil slice in a cell of an object, taken for an empty row of the call's own. -/
theorem ALoop.adoptCell {C : Ctx} {c : Code} {Q : Exit → Env → Heap → Prop} {env : Env} {heap heap' : Heap} (b i id sz : Nat) (t : TypeId) (f : Nat → List D) {cells : List AVal} {tag : Option TypeId} (hb : lookO b heap = some (.box cells tag)) (hs : cells[i]? = some (.d (.v (.slice none 0 0)))) (he : freeEnv id env = true) (hh : freeHeap id heap = true)
    (hset : setO b (.box (cells.set i (.rsl id sz 0 0)) tag) heap = some heap') (h : ALoop C c Q env ((id, .row t sz 0 f) :: heap')) (hl : memN id C.lid = false := by rfl) : ALoop C c Q env heap := by
  refine ⟨fun L a w H => ?_⟩
  have hfree := freeHeap_look hh
  have hne : b ≠ id := (hfree b _ hb).1
  have hnew := H.new (not_memN hl) (freeEnv_look he) hfree (Below.refl _ w) none 0 (fun b h => by cases h) (o := .row t sz 0 f) (.row0 (by simp [Lay.upd]) (by simp [Lay.upd]))
  refine h.out (L.upd id none 0) a w ?_
  have hobj : hput (lko heap) id (.row t sz 0 f) b = some (.box cells tag) := by unfold hput; rw [if_neg hne]; exact hb
  have hgood : ∀ b', good C (L.upd id none 0) (hput (lko heap) id (.row t sz 0 f)) w b' → good C (L.upd id none 0) (lko ((id, .row t sz 0 f) :: heap')) w b' := by
    intro b' hgb
    refine ⟨hgb.1, hgb.2.1, ?_⟩
    rintro ⟨j, oj, h1, h2⟩
    rw [lko_cons, lko_set hset] at h1
    unfold hput at h1
    by_cases hj : j = id
    · exact hgb.2.2 ⟨j, .row t sz 0 f, by unfold hput; rw [if_pos hj], h2⟩
    · rw [if_neg hj] at h1
      by_cases hjb : j = b
      · exact hgb.2.2 ⟨b, .box cells tag, hobj, by rw [← hjb]; exact h2⟩
      · rw [if_neg hjb] at h1
        exact hgb.2.2 ⟨j, oj, by unfold hput; rw [if_neg hj]; exact h1, h2⟩
  have hlook : ∀ j oj, lko ((id, .row t sz 0 f) :: heap') j = some oj → (j = b ∧ oj = .box (cells.set i (.rsl id sz 0 0)) tag) ∨ hput (lko heap) id (.row t sz 0 f) j = some oj := by
    intro j oj hj
    rw [lko_cons, lko_set hset] at hj
    unfold hput at hj ⊢
    by_cases h1 : j = id
    · right; rw [if_pos h1] at hj ⊢; exact hj
    · rw [if_neg h1] at hj ⊢
      by_cases h2 : j = b
      · left; rw [if_pos h2] at hj; exact ⟨h2, (Option.some.inj hj).symm⟩
      · right; rw [if_neg h2] at hj; exact hj
  have hsome : ∀ j oj, lko ((id, .row t sz 0 f) :: heap') j = some oj → ∃ o', hput (lko heap) id (.row t sz 0 f) j = some o' := by
    intro j oj hj
    rcases hlook j oj hj with ⟨rfl, _⟩ | h
    · exact ⟨_, hobj⟩
    · exact ⟨_, h⟩
  exact { hnew with
    slot := fun x => (hnew.slot x).mono1 (Nat.le_refl _) (fun b' _ hb' => ⟨hgood b' hb', rfl⟩) (fun _ _ => rfl)
    obj := fun j oj hj => by
      have mono : ∀ {o}, RepO w (good C (L.upd id none 0) (hput (lko heap) id (.row t sz 0 f)) w) (L.upd id none 0) j o → RepO w (good C (L.upd id none 0) (lko ((id, .row t sz 0 f) :: heap')) w) (L.upd id none 0) j o := fun h =>
        h.mono (Nat.le_refl _) (fun b' _ hb' => ⟨hgood b' hb', rfl⟩) (fun _ _ => rfl) (fun b _ hb => ⟨hb, rfl⟩) (fun _ => true) (fun _ _ => ⟨rfl, rfl⟩) rfl (fun _ h => by cases h)
      rcases hlook j oj hj with ⟨rfl, rfl⟩ | h
      · have hro := hnew.obj _ _ hobj
        refine mono ?_
        cases hro with
        | box htag hbk hheap hz h1 hr =>
          refine .box htag hbk hheap (by simpa using hz) (fun q hq => h1 q (by simpa using hq)) (fun q y hy => ?_)
          rw [List.getElem?_set] at hy
          split at hy
          · rename_i e
            subst e
            split at hy
            · cases hy
              have hv := hr i _ hs
              rw [repA_v hv]
              have : RepA w (L.upd id none 0) (good C (L.upd id none 0) (hput (lko heap) id (.row t sz 0 f)) w) (.rsl id sz 0 0) (.slice (((L.upd id none 0).blk id).map fun b => ⟨b, 0 * sz, none⟩) 0 ((L.upd id none 0).cap id - 0)) := .rsl (by simp [Lay.upd]) (fun h => by omega) (fun _ => rfl)
              simpa [Lay.upd] using this
            · cases hy
          · exact hr q y hy
      · exact mono (hnew.obj j oj h)
    inj := fun x y ox oy b' h1 h2 => by
      obtain ⟨o1, e1⟩ := hsome x ox h1
      obtain ⟨o2, e2⟩ := hsome y oy h2
      exact hnew.inj x y o1 o2 b' e1 e2
    own0 := fun x ox b' h1 => by
      obtain ⟨o1, e1⟩ := hsome x ox h1
      exact hnew.own0 x o1 b' e1
    kept := fun x ox hl' h1 => by
      obtain ⟨o1, e1⟩ := hsome x ox h1
      exact hnew.kept x o1 hl' e1 }
/-- Slices that hold the same. -/
theorem AVal.le.sl {sz n m : Nat} {f g : Nat → List D} (hn : n = m) (h : ∀ k, k < n → f k = g k) : (AVal.d (.sl sz n f)).le (.d (.sl sz m g)) := by
  subst hn
  refine ⟨fun w L gd v hv => ?_⟩
  have hd := repA_sl hv
  cases hd with
  | sl0 _ _ A c hc => exact .d (.sl0 _ _ _ _ hc)
  | sl _ _ _ b o c cs hn hc hm hg hb hz hcell hrep => exact .d (.sl _ _ _ b o c cs hn hc hm hg hb (fun k hk => by rw [← h k hk]; exact hz k hk) hcell (fun k hk j x hx => hrep k hk j x (by rw [h k hk]; exact hx)))
theorem AVal.le.nil {sz : Nat} {f : Nat → List D} : (AVal.d (.v (.slice none 0 0))).le (.d (.sl sz 0 f)) := ⟨fun w L gd v hv => by rw [repA_v hv]; exact .d (.sl0 _ _ _ _ (by decide))⟩
theorem AVal.le.agg {l m : List AVal} (h : OLe.CLe l m) : (AVal.agg l).le (.agg m) := by
  refine ⟨fun w L gd v hv => ?_⟩
  obtain ⟨vs, rfl, k1, k2, k3⟩ := repA_agg hv
  obtain ⟨e1, e2⟩ := CLe_get h
  refine .agg (by omega) (fun i hi => k2 i (by omega)) fun i y hy => ?_
  obtain ⟨x, hx, hle⟩ := e2 i y hy
  exact hle.out _ _ _ _ (k3 i x hx)
theorem AVal.le.tup {l m : List AVal} (h : OLe.CLe l m) : (AVal.tup l).le (.tup m) := by
  refine ⟨fun w L gd v hv => ?_⟩
  obtain ⟨e1, e2⟩ := CLe_get h
  cases hv with
  | tup hz hr =>
    refine .tup (by omega) fun i y hy => ?_
    obtain ⟨x, hx, hle⟩ := e2 i y hy
    exact hle.out _ _ _ _ (hr i x hx)
theorem AVal.le.any (x : AVal) : x.le .any := ⟨fun _ _ _ _ _ => .any⟩
theorem PSpec.argsC {P : Program} {f : FuncId} {args args' : List AVal} {post : AVal → Prop} (h : PSpec P f args post) (hc : OLe.CLe args' args) : PSpec P f args' post := by
  obtain ⟨h1, h2⟩ := CLe_get hc
  refine h.args h1.symm fun i x x' hx hx' => ?_
  obtain ⟨y, hy, hle⟩ := h2 i x hx
  rw [hx'] at hy
  cases hy
  exact hle
/-- A whole function, run; its answer may be said in other words. -/
theorem PSpec.run {P : Program} {T : Tys} {f : FuncId} {fn : Func} {c : Code} {args : List AVal} {post : AVal → Prop} (hT : TysOk P T) (hM : P.follows .mixedOrders = true) (hf : P.funcs[f]? = some fn) (hname : (fn.name == "runtime.NumGoroutine") = false) (hb : fn.body = some c) {nt : Nat} (hn : fn.ntmps = nt) (ha : args.length ≤ nt)
    {rs : List ResultVar} (hrs : fn.results.toList = rs) (h : ∀ w0 R0, ARun ⟨P, nt, w0, R0, [], L0 0⟩ T c (fun e env heap => match e with | .normal => resK T (fun t => look t env) (fun i => lookO i heap) (postL fun r => ∃ r', r.le r' ∧ post r' ∧ r'.data = true) rs | .ret => resK T (fun t => look t env) (fun i => lookO i heap) (postL fun r => ∃ r', r.le r' ∧ post r' ∧ r'.data = true) rs | _ => False) (argEnv 0 args) []) :
    PSpec P f args post := by
  refine (PSpec.intro hT hf hname hb hn ha hrs fun w0 R0 => ARun_ok (C := ⟨P, nt, w0, R0, [], L0 0⟩) hT hM (h w0 R0)).weaken (fun r ⟨⟨r', h1, h2, h3⟩, _⟩ hd => ⟨r', h1, h2, h3⟩) ?_
  rintro t sz n g ⟨_, h3⟩
  cases h3
theorem PSpec.runF {P : Program} {T : Tys} {f : FuncId} {fn : Func} {c : Code} {args : List AVal} {post : AVal → Prop} (hT : TysOk P T) (hM : P.follows .mixedOrders = true) (hf : P.funcs[f]? = some fn) (hname : (fn.name == "runtime.NumGoroutine") = false) (hb : fn.body = some c) {nt : Nat} (hn : fn.ntmps = nt) (ha : args.length ≤ nt)
    {t : Nat} (hrs : fn.results = #[.tmp t]) (h : ∀ w0 R0, ARun ⟨P, nt, w0, R0, [], L0 0⟩ T c (fun e env heap => match e with | .normal => resF env heap post t | .ret => resF env heap post t | _ => False) (argEnv 0 args) []) :
    PSpec P f args post := PSpec.introF hT hf hname hb hn ha hrs fun w0 R0 => ARun_ok (C := ⟨P, nt, w0, R0, [], L0 0⟩) hT hM (h w0 R0)
end Towline

/- The engine, part twelve: the names of objects may be changed. Over any program. -/
namespace Towline
open Go Go.RowKit
set_option linter.unusedVariables false
/-- Two names, the one for the other. -/
def sw (p q i : Nat) : Nat := match Nat.beq i p with
  | true => q
  | false => match Nat.beq i q with
    | true => p
    | false => i
theorem sw_eq (p q i : Nat) : sw p q i = if i = p then q else if i = q then p else i := by
  unfold sw
  split
  · rename_i h; rw [if_pos (Nat.eq_of_beq_eq_true h)]
  · rename_i h
    have h := Nat.ne_of_beq_eq_false h
    rw [if_neg h]
    split
    · rename_i h; rw [if_pos (Nat.eq_of_beq_eq_true h)]
    · rename_i h; rw [if_neg (Nat.ne_of_beq_eq_false h)]
theorem sw_sw (p q i : Nat) : sw p q (sw p q i) = i := by
  simp only [sw_eq]; repeat' split
  all_goals omega
mutual
def AVal.ren (p q : Nat) : AVal → AVal
  | .any => .any
  | .d x => .d x
  | .eptr a b c k e => .eptr a b c k e
  | .agg l => .agg (AVal.renL p q l)
  | .tup l => .tup (AVal.renL p q l)
  | .ptr j o => .ptr (sw p q j) o
  | .rsl j a b c => .rsl (sw p q j) a b c
  | .rptr j a b c => .rptr (sw p q j) a b c
  | .fn f l => .fn f (AVal.renL p q l)
  | .fresh a b c k => .fresh a b c k
def AVal.renL (p q : Nat) : List AVal → List AVal
  | [] => []
  | x :: r => AVal.ren p q x :: AVal.renL p q r
end
theorem AVal.renL_eq (p q : Nat) : ∀ l, AVal.renL p q l = l.map (AVal.ren p q)
  | [] => rfl
  | x :: r => by rw [AVal.renL, AVal.renL_eq p q r]; rfl
def AObj.ren (p q : Nat) : AObj → AObj
  | .box l tag => .box (AVal.renL p q l) tag
  | .row t sz n f => .row t sz n f
def Lay.ren (p q : Nat) (L : Lay) : Lay := ⟨fun i => L.blk (sw p q i), fun i => L.cap (sw p q i), L.old⟩
theorem RepA.ren {w : World} {L : Lay} (p q : Nat) {gd : Nat → Prop} {x : AVal} {v : Value} (h : RepA w L gd x v) : RepA w (L.ren p q) gd (x.ren p q) v := by
  have hb : ∀ id, (L.ren p q).blk (sw p q id) = L.blk id := fun id => by simp only [Lay.ren, sw_sw]
  have hc : ∀ id, (L.ren p q).cap (sw p q id) = L.cap id := fun id => by simp only [Lay.ren, sw_sw]
  induction h with
  | any => exact .any
  | d h => exact .d h
  | agg hz h1 h ih =>
    rw [AVal.ren, AVal.renL_eq]
    refine .agg (by simpa using hz) (fun i hi => h1 i (by simpa using hi)) fun i x hx => ?_
    rw [List.getElem?_map] at hx
    obtain ⟨y, hy, rfl⟩ := Option.map_eq_some_iff.1 hx
    exact ih i y hy
  | tup hz h ih =>
    rw [AVal.ren, AVal.renL_eq]
    refine .tup (by simpa using hz) fun i x hx => ?_
    rw [List.getElem?_map] at hx
    obtain ⟨y, hy, rfl⟩ := Option.map_eq_some_iff.1 hx
    exact ih i y hy
  | ptr h => rw [AVal.ren]; exact .ptr (by rw [hb]; exact h)
  | eptr h hk => exact .eptr h hk
  | @rsl good id sz o n ad hcap hbl ha =>
    rw [AVal.ren]
    have := RepA.rsl (w := w) (L := L.ren p q) (good := good) (id := sw p q id) (sz := sz) (o := o) (n := n) (ad := ad) (by rw [hc]; exact hcap) (by rw [hb]; exact hbl) (by rw [hb, hc]; exact ha)
    rw [hc] at this
    exact this
  | rptr h => rw [AVal.ren]; exact .rptr (by rw [hb]; exact h)
  | fn hz h ih =>
    rw [AVal.ren, AVal.renL_eq]
    refine .fn (by simpa using hz) fun i x hx => ?_
    rw [List.getElem?_map] at hx
    obtain ⟨y, hy, rfl⟩ := Option.map_eq_some_iff.1 hx
    exact ih i y hy
def renE (p q : Nat) : Env → Env
  | [] => []
  | (t, v) :: r => (t, v.ren p q) :: renE p q r
def renH (p q : Nat) : Heap → Heap
  | [] => []
  | (t, o) :: r => (sw p q t, o.ren p q) :: renH p q r
theorem look_renE (p q t : Nat) : ∀ env : Env, look t (renE p q env) = (look t env).ren p q
  | [] => by simp [renE, look, AVal.ren]
  | (s, v) :: r => by
    simp only [renE, look_cons]
    split
    · rfl
    · exact look_renE p q t r
theorem lookO_renH (p q t : Nat) : ∀ heap : Heap, lookO t (renH p q heap) = (lookO (sw p q t) heap).map (AObj.ren p q)
  | [] => by simp [renH, lookO]
  | (s, v) :: r => by
    simp only [renH, lookO_cons]
    by_cases h : t = sw p q s
    · rw [if_pos h, if_pos (by rw [h, sw_sw])]; rfl
    · rw [if_neg h, if_neg (fun e => h (by rw [← e, sw_sw]))]; exact lookO_renH p q t r
theorem RepO.ren {w : World} {L : Lay} (p q : Nat) {gd : Nat → Prop} {id : Nat} {o : AObj} (h : RepO w gd L id o) : RepO w gd (L.ren p q) (sw p q id) (o.ren p q) := by
  have hb : ∀ id, (L.ren p q).blk (sw p q id) = L.blk id := fun id => by simp only [Lay.ren, sw_sw]
  have hc : ∀ id, (L.ren p q).cap (sw p q id) = L.cap id := fun id => by simp only [Lay.ren, sw_sw]
  cases h with
  | box h0 h1 h2 h3 h4 h5 =>
    rw [AObj.ren, AVal.renL_eq]
    refine .box h0 (by rw [hb]; exact h1) h2 (by simpa using h3) (fun i hi => h4 i (by simpa using hi)) fun i x hx => ?_
    rw [List.getElem?_map] at hx
    obtain ⟨y, hy, rfl⟩ := Option.map_eq_some_iff.1 hx
    exact (h5 i y hy).ren p q
  | row0 h1 h2 => exact .row0 (by rw [hb]; exact h1) (by rw [hc]; exact h2)
  | row h1 h2 h3 h4 h5 h6 h7 h8 h9 => exact .row (by rw [hb]; exact h1) h2 (by rw [hc]; exact h3) (by rw [hc]; exact h4) (by rw [hc]; exact h5) h6 h7 h8 h9
theorem Rel.ren {C : Ctx} {L : Lay} {env : Env} {heap : Heap} {a : Act} {w : World} (p q : Nat) (hp : p ∉ C.lid) (hq : q ∉ C.lid) (H : Rel C L (lk env) (lko heap) a w) : Rel C (L.ren p q) (lk (renE p q env)) (lko (renH p q heap)) a w := by
  have ho : ∀ id o, lko (renH p q heap) id = some o → ∃ o', lko heap (sw p q id) = some o' ∧ o = o'.ren p q := by
    intro id o h
    have h : lookO id (renH p q heap) = some o := h
    rw [lookO_renH] at h
    obtain ⟨o', h1, h2⟩ := Option.map_eq_some_iff.1 h
    exact ⟨o', h1, h2.symm⟩
  have ho2 : ∀ id o, lko heap id = some o → lko (renH p q heap) (sw p q id) = some (o.ren p q) := by
    intro id o h
    have h : lookO id heap = some o := h
    show lookO _ _ = _
    rw [lookO_renH, sw_sw, h]; rfl
  have hg : ∀ b, good C L (lko heap) w b → good C (L.ren p q) (lko (renH p q heap)) w b := by
    intro b hb
    refine ⟨hb.1, hb.2.1, fun ⟨id, o, h1, h2⟩ => hb.2.2 ?_⟩
    obtain ⟨o', h3, _⟩ := ho id o h1
    exact ⟨sw p q id, o', h3, h2⟩
  have hmono : ∀ {x v}, RepA w (L.ren p q) (good C L (lko heap) w) x v → RepA w (L.ren p q) (good C (L.ren p q) (lko (renH p q heap)) w) x v :=
    fun h => h.mono (Nat.le_refl _) (fun _ => true) (fun id _ => ⟨rfl, rfl⟩) (fun b hlt hb => ⟨hb, rfl⟩) (fun b hlt hb => ⟨hg b hb, rfl⟩) (fun id h => by cases h)
  exact {
    below := H.below
    top := H.top
    size := H.size
    defers := H.defers
    slot := fun t => by
      show RepA _ _ _ (look t (renE p q env)) _
      rw [look_renE]
      exact hmono ((H.slot t).ren p q)
    obj := fun id o h => by
      obtain ⟨o', h1, rfl⟩ := ho id o h
      have := ((H.obj _ o' h1).ren p q)
      rw [sw_sw] at this
      exact this.mono (Nat.le_refl _) (fun b hlt hb => ⟨hg b hb, rfl⟩) (fun b _ => rfl) (fun b _ hb => ⟨hb, rfl⟩) (fun _ => true) (fun id _ => ⟨rfl, rfl⟩) rfl (fun id h => by cases h)
    inj := fun i j oi oj b h1 h2 h3 h4 => by
      obtain ⟨o1, k1, _⟩ := ho i oi h1
      obtain ⟨o2, k2, _⟩ := ho j oj h2
      have := H.inj _ _ _ _ b k1 k2 h3 h4
      rw [← sw_sw p q i, this, sw_sw]
    own0 := fun id o b h1 h2 => by
      obtain ⟨o1, k1, _⟩ := ho id o h1
      exact H.own0 _ _ b k1 h2
    kept := fun id o hl h1 => by
      obtain ⟨o1, k1, _⟩ := ho id o h1
      have e : sw p q id = id := by
        have h1 : id ≠ p := fun e => hp (e ▸ hl)
        have h2 : id ≠ q := fun e => hq (e ▸ hl)
        rw [sw_eq, if_neg h1, if_neg h2]
      simp only [Lay.ren, e]
      rw [e] at k1
      exact H.kept id o1 hl k1
    lidn := H.lidn }
/-- Names of lent objects stay. -/
def renEs (lid : List Nat) : List (Nat × Nat) → Env → Env
  | [], e => e
  | (p, q) :: r, e => match memN p lid with
    | true => e
    | false => match memN q lid with
      | true => e
      | false => renEs lid r (renE p q e)
def renHs (lid : List Nat) : List (Nat × Nat) → Heap → Heap
  | [], e => e
  | (p, q) :: r, e => match memN p lid with
    | true => e
    | false => match memN q lid with
      | true => e
      | false => renHs lid r (renH p q e)
theorem Rel.rens {C : Ctx} {a : Act} {w : World} : ∀ (ps : List (Nat × Nat)) {L : Lay} {env : Env} {heap : Heap}, Rel C L (lk env) (lko heap) a w → ∃ L', Rel C L' (lk (renEs C.lid ps env)) (lko (renHs C.lid ps heap)) a w
  | [], L, _, _, H => ⟨L, H⟩
  | (p, q) :: r, L, env, heap, H => by
    unfold renEs renHs
    cases hp : memN p C.lid with
    | true => exact ⟨L, H⟩
    | false =>
      cases hq : memN q C.lid with
      | true => exact ⟨L, H⟩
      | false => exact Rel.rens r (H.ren p q (not_memN hp) (not_memN hq))
section
variable {C : Ctx} {T : Tys}
/-- A loop, at the end of a round of which objects may get other names. -/
theorem ALoop.introR {X : Type} {c : Code} {Q : Exit → Env → Heap → Prop} {env : Env} {heap : Heap} (hT : TysOk C.P T) (hM : C.P.follows .mixedOrders = true) (S : X → Env × Heap) (μ : X → Nat) (x0 : X) (h0 : CovE env (S x0).1 (CovH heap (S x0).2))
    (round : ∀ x, ARun C T c (fun e env' heap' => match e with | .normal => ∃ x' ps, μ x' < μ x ∧ CovE (renEs C.lid ps env') (S x').1 (CovH (renHs C.lid ps heap') (S x').2) | e => Q e env' heap') (S x).1 (S x).2) : ALoop C c Q env heap :=
  ⟨AWp.loop (fun x => (S x).1) (fun x => (S x).2) μ x0 (Covers.mk' h0) fun x L a w hr => wp_mono ((ARun_ok hT hM (round x)) L a w hr) fun e a' w' ⟨L', env', heap', h1, h2⟩ => by
    cases e with
    | normal =>
      obtain ⟨x', ps, h3, h4⟩ := h2
      obtain ⟨L2, h5⟩ := h1.rens ps
      exact ⟨L2, _, _, h5, x', h3, Covers.mk' h4⟩
    | _ => exact ⟨L', env', heap', h1, h2⟩⟩
end
end Towline

/- The engine: a whole function that is lent objects. Over any program. -/
namespace Towline
open Go Go.RowKit
set_option linter.unusedVariables false
/-- The answers as they are, with the names of the call's objects. -/
def resL (T : Tys) (g : Nat → AVal) (h : Nat → Option AObj) (k : List AVal → Prop) : List ResultVar → Prop
  | [] => k []
  | .tmp t :: r => resL T g h (fun l => k (g t :: l)) r
  | .cell a t :: r => match lookT t T with
    | some d => match aCells h (g a) with
      | some (l, none) => match aPart d l with
        | some v => resL T g h (fun l => k (v :: l)) r
        | none => False
      | _ => False
    | none => False
def keysH : Heap → List Nat
  | [] => []
  | (i, _) :: r => i :: keysH r
theorem keysH_ok {i : Nat} : ∀ {hl : Heap}, i ∈ keysH hl ↔ ∃ o, lookO i hl = some o
  | [] => by simp [keysH, lookO]
  | (j, o) :: r => by
    have ih := keysH_ok (i := i) (hl := r)
    rw [keysH, List.mem_cons, ih]
    constructor
    · rintro (rfl | ⟨o', h⟩)
      · exact ⟨o, by rw [lookO_cons, if_pos rfl]⟩
      · by_cases e : i = j
        · exact ⟨o, by rw [lookO_cons, if_pos e]⟩
        · exact ⟨o', by rw [lookO_cons, if_neg e]; exact h⟩
    · rintro ⟨o', h⟩
      rw [lookO_cons] at h
      split at h
      · rename_i e; exact .inl e
      · exact .inr ⟨o', h⟩
def idsOk (nt : Nat) : List Nat → Bool
  | [] => true
  | i :: r => match Nat.ble lentBase i with
    | true => match Nat.ble nt i with
      | true => idsOk nt r
      | false => false
    | false => false
theorem idsOk_ok {nt : Nat} : ∀ {l : List Nat}, idsOk nt l = true → ∀ i, i ∈ l → lentBase ≤ i ∧ nt ≤ i
  | [], _, i, hi => by cases hi
  | j :: r, h, i, hi => by
    rw [idsOk] at h
    cases h1 : Nat.ble lentBase j with
    | false => rw [h1] at h; cases h
    | true =>
      rw [h1] at h
      simp only at h
      cases h2 : Nat.ble nt j with
      | false => rw [h2] at h; cases h
      | true =>
        rw [h2] at h
        rcases List.mem_cons.1 hi with rfl | hi
        · exact ⟨Nat.le_of_ble_eq_true h1, Nat.le_of_ble_eq_true h2⟩
        · exact idsOk_ok h i hi
section
variable {C : Ctx} {T : Tys} {L : Lay} {env : Env} {heap : Heap} {a : Act} {w : World}
theorem resL_ok (hT : TysOk C.P T) (hr : Rel C L (lk env) (lko heap) a w) : ∀ (rs : List ResultVar) (k : List AVal → Prop), resL T (fun t => look t env) (fun i => lookO i heap) k rs →
    ∃ (vs : List Value) (l : List AVal), (rs.mapM (resSem a.tmps)).run C.P w = .ok vs w ∧ k l ∧ vs.length = l.length ∧ ∀ (i : Nat) (x : AVal), l[i]? = some x → RepA w L (good C L (lko heap) w) x (vs.getD i undef)
  | [], k, hk => ⟨[], [], rfl, hk, rfl, fun i x hx => by simp at hx⟩
  | rv :: r, k, hk => by
    have fin : ∀ (x : AVal) (v : Value), RepA w L (good C L (lko heap) w) x v → resL T (fun t => look t env) (fun i => lookO i heap) (fun l => k (x :: l)) r →
        ∀ m : Sem Value, m.run C.P w = .ok v w → ∃ (vs : List Value) (l : List AVal), (do let y ← m; let ys ← r.mapM (resSem a.tmps); Pure.pure (y :: ys)).run C.P w = .ok vs w ∧ k l ∧ vs.length = l.length ∧ ∀ (i : Nat) (x : AVal), l[i]? = some x → RepA w L (good C L (lko heap) w) x (vs.getD i undef) := by
      intro x v hv hk m hm
      obtain ⟨vs, l, e1, e2, e4, e5⟩ := resL_ok hT hr r _ hk
      refine ⟨v :: vs, x :: l, by simp [hm, e1], e2, by simp [e4], fun i z hz => ?_⟩
      cases i with
      | zero => simp only [List.getElem?_cons_zero, Option.some.injEq] at hz; subst hz; exact hv
      | succ i => simp only [List.getElem?_cons_succ] at hz; simpa using e5 i z hz
    cases rv with
    | tmp t =>
      simp only [resL] at hk
      obtain ⟨vs, l, h⟩ := fin _ _ (hr.slot t) hk (resSem a.tmps (.tmp t)) rfl
      exact ⟨vs, l, by rw [List.mapM_cons]; exact h.1, h.2⟩
    | cell b t =>
      simp only [resL] at hk
      cases ht : lookT t T with
      | none => rw [ht] at hk; exact hk.elim
      | some d =>
        rw [ht] at hk
        simp only at hk
        cases hc : aCells (fun i => lookO i heap) (look b env) with
        | none => rw [hc] at hk; exact hk.elim
        | some lc =>
          obtain ⟨cl, c⟩ := lc
          rw [hc] at hk
          cases c with
          | some c => exact hk.elim
          | none =>
            simp only at hk
            cases hp : aPart d cl with
            | none => rw [hp] at hk; exact hk.elim
            | some x =>
              rw [hp] at hk
              simp only at hk
              obtain ⟨bb, off, hv', hl⟩ := aCells_ok hr.holds (hr.slot b) hc (fun q hq => by cases hq)
              obtain ⟨u, h1, h2⟩ := loadAt_ok (P := C.P) hT ht hp hl
              have h1' : (loadVar t ⟨bb, off, none⟩).run C.P w = .ok u w := by simpa [Instr.loadAt, Instr.sureAddr] using h1
              obtain ⟨vs, l, h⟩ := fin _ _ h2 hk (resSem a.tmps (.cell b t)) (by simp [resSem, hv', asAddr, h1'])
              exact ⟨vs, l, by rw [List.mapM_cons]; exact h.1, h.2⟩
end
/-- The answer and the objects at the end may be said in other words; objects that nobody asks for are left out. -/
def finL (heap : Heap) (post : AVal → Heap → Prop) (r : AVal) : Prop := ∃ r' hl', r.le r' ∧ CovH heap hl' ∧ post r' hl'
/-- A whole function that is lent objects. -/
theorem LSpec.run {P : Program} {T : Tys} {f : FuncId} {fn : Func} {c : Code} {args : List AVal} {hl : Heap} {post : AVal → Heap → Prop} (hT : TysOk P T) (hM : P.follows .mixedOrders = true) (hf : P.funcs[f]? = some fn) (hname : (fn.name == "runtime.NumGoroutine") = false) (hb : fn.body = some c) {nt : Nat} (hn : fn.ntmps = nt) (ha : args.length ≤ nt)
    (hid : idsOk nt (keysH hl) = true) {rs : List ResultVar} (hrs : fn.results.toList = rs)
    (h : ∀ w0 R0 Lo, ARun ⟨P, nt, w0, R0, keysH hl, Lo⟩ T c (fun e env heap => match e with | .normal => resL T (fun t => look t env) (fun i => lookO i heap) (postL (finL heap post)) rs | .ret => resL T (fun t => look t env) (fun i => lookO i heap) (postL (finL heap post)) rs | _ => False) (argEnv 0 args) hl) :
    LSpec P f args hl post := by
  refine ⟨⟨fn, c, hf, hname, hb⟩, fun w R L vs hR hz hold hargs hobj hinj hown => ?_⟩
  have hlent : ∀ b, Ctx.lent ⟨P, nt, w, R, keysH hl, L⟩ b ↔ owned L (lko hl) b := fun b => by
    constructor
    · rintro ⟨i, h1, h2⟩
      obtain ⟨o, h3⟩ := keysH_ok.1 h1
      exact ⟨i, o, h3, h2⟩
    · rintro ⟨i, o, h1, h2⟩
      exact ⟨i, keysH_ok.2 ⟨o, h1⟩, h2⟩
  have hgood : ∀ b, b < w.heap.size → R b → good ⟨P, nt, w, R, keysH hl, L⟩ L (lko hl) w b ∧ w.heap[b]? = w.heap[b]? := fun b hlt hb => ⟨⟨hlt, .inl hb, fun ⟨i, o, h1, h2⟩ => (hown i o b h1 h2).2 hb⟩, rfl⟩
  have hrel : Rel ⟨P, nt, w, R, keysH hl, L⟩ L (lk (argEnv 0 args)) (lko hl) { tmps := vs ++ Array.replicate (fn.ntmps - vs.size) undef, defers := [] } w := {
    below := BelowL.refl _ _
    top := fun b => (hold b).trans (and_congr_right fun _ => not_congr (hlent b).symm)
    size := by simp [hn, hz]; omega
    defers := rfl
    slot := fun t => by
      show RepA _ _ _ (look t _) _
      rw [look_argEnv]
      split
      · rename_i hlt
        have hlt' : t < args.length := by omega
        have := hargs t args[t] (List.getElem?_eq_getElem hlt')
        simp only [Nat.sub_zero, List.getD_eq_getElem?_getD, List.getElem?_eq_getElem hlt', Option.getD_some]
        have e : (vs ++ Array.replicate (fn.ntmps - vs.size) undef).getD t undef = vs.getD t undef := by
          simp only [Array.getD_eq_getD_getElem?]
          rw [Array.getElem?_append_left (by omega)]
        rw [e]
        exact this.mono1 (Nat.le_refl _) hgood (fun _ _ => rfl)
      · exact .any
    obj := fun id o h => (hobj id o h).mono (Nat.le_refl _) hgood (fun _ _ => rfl) (fun b _ hb => ⟨hb, rfl⟩) (fun _ => true) (fun _ _ => ⟨rfl, rfl⟩) rfl (fun _ h => by cases h)
    inj := hinj
    own0 := fun id o b h1 h2 => ⟨.inr ((hlent b).2 ⟨id, o, h1, h2⟩), (hown id o b h1 h2).1⟩
    kept := fun id o _ _ => ⟨rfl, rfl⟩
    lidn := fun i hi => idsOk_ok hid i hi }
  refine calls_of_wp hf hb (wp_mono (ARun_ok (C := ⟨P, nt, w, R, keysH hl, L⟩) hT hM (h w R L) _ _ w hrel) fun e a' w' ⟨L', env', heap', h1, h2⟩ => ?_)
  have fin : resL T (fun t => look t env') (fun i => lookO i heap') (postL (finL heap' post)) rs → a'.defers = [] ∧ ∃ v, (results fn a'.tmps).run P w' = .ok v w' ∧ ∃ v' r hl' L', Ending.returned v = .returned v' ∧ post r hl' ∧ LPost w w' R L hl L' hl' ∧ RepA w' L' (lgood w w' R L hl L' hl') r v' := by
    intro h2
    obtain ⟨us, l, e1, e2, e4, e5⟩ := resL_ok (C := ⟨P, nt, w, R, keysH hl, L⟩) hT h1 rs _ h2
    refine ⟨h1.defers, (if h : us.toArray.size = 1 then us.toArray[0] else .tuple us.toArray), ?_, ?_⟩
    · rw [results_eq, Array.mapM_eq_mapM_toList, hrs]
      simp only [Sem.run_bind, Sem.run_map, e1, Result.andThen_ok, Sem.run_pure]
    · have done : ∀ (r : AVal) (v : Value), finL heap' post r → RepA w' L' (good ⟨P, nt, w, R, keysH hl, L⟩ L' (lko heap') w') r v → ∃ v' r hl' L', Ending.returned v = .returned v' ∧ post r hl' ∧ LPost w w' R L hl L' hl' ∧ RepA w' L' (lgood w w' R L hl L' hl') r v' := by
        rintro r v ⟨r', hl', k1, k2, k3⟩ hv
        have hcov := CovH_ok k2
        have hw : Rel ⟨P, nt, w, R, keysH hl, L⟩ L' (lk env') (lko hl') a' w' := h1.weaken ⟨fun t => .refl _, hcov⟩
        have hlg : ∀ b, good ⟨P, nt, w, R, keysH hl, L⟩ L' (lko hl') w' b → lgood w w' R L hl L' hl' b := fun b hb => ⟨hb.1, hb.2.1.imp id (fun h => h.imp id (hlent b).1), hb.2.2⟩
        refine ⟨v, r', hl', L', rfl, k3, ⟨?_, fun id o ho => ?_, hw.inj, fun id o b h3 h4 => ?_, fun id o o' h3 h4 => hw.kept id o' (keysH_ok.2 ⟨o, h3⟩) h4⟩, ?_⟩
        · exact ⟨h1.below.os, h1.below.tape, h1.below.output, h1.below.size, fun k hk hnl => h1.below.block k hk fun hl => hnl ((hlent k).1 hl)⟩
        · exact (hw.obj id o ho).mono (Nat.le_refl _) (fun b _ hb => ⟨hlg b hb, rfl⟩) (fun _ _ => rfl) (fun b _ hb => ⟨hb, rfl⟩) (fun _ => true) (fun _ _ => ⟨rfl, rfl⟩) rfl (fun _ h => by cases h)
        · obtain ⟨q1, q2⟩ := hw.own0 id o b h3 h4
          exact ⟨q1.imp (fun h => h) (hlent b).1, q2⟩
        · refine (k1.out _ _ _ _ hv).mono1 (Nat.le_refl _) (fun b _ hb => ⟨hlg b ⟨hb.1, hb.2.1, fun ⟨i, o, q1, q2⟩ => ?_⟩, rfl⟩) (fun _ _ => rfl)
          obtain ⟨o', q3, _⟩ := hcov i o q1
          exact hb.2.2 ⟨i, o', q3, q2⟩
      have tup : finL heap' post (.tup l) → us.toArray.size ≠ 1 → ∃ v' r hl' L', Ending.returned (if h : us.toArray.size = 1 then us.toArray[0] else .tuple us.toArray) = .returned v' ∧ post r hl' ∧ LPost w w' R L hl L' hl' ∧ RepA w' L' (lgood w w' R L hl L' hl') r v' := by
        intro hp hne
        rw [dif_neg hne]
        refine done _ _ hp (.tup (by simpa using e4) fun i x hx => ?_)
        have := e5 i x hx
        simpa [Array.getD_eq_getD_getElem?, List.getD_eq_getElem?_getD] using this
      cases l with
      | nil => exact tup e2 (by simp [List.length_eq_zero_iff.1 e4])
      | cons x r =>
        cases r with
        | cons y r => exact tup e2 (by simp [e4])
        | nil =>
          obtain ⟨u, rfl⟩ := List.length_eq_one_iff.1 e4
          have hx := e5 0 x rfl
          obtain ⟨v', r, hl', L'', q1, q2⟩ := done x u e2 hx
          exact ⟨v', r, hl', L'', by simpa using q1, q2⟩
  cases e with
  | normal => exact fin h2
  | ret => exact fin h2
  | _ => exact h2.elim
/-- A contract of a function that was walked by hand. -/
theorem LSpec.raw {P : Program} {f : FuncId} {args : List AVal} {hl : Heap} {post : AVal → Heap → Prop} (hf : ∃ fn c, P.funcs[f]? = some fn ∧ (fn.name == "runtime.NumGoroutine") = false ∧ fn.body = some c) (hid : idsOk 0 (keysH hl) = true)
    (h : ∀ (C : Ctx) (L : Lay) (w : World) (vs : Array Value), C.w0 = w → C.nt = 0 → Rel C L (fun _ => .any) (lko hl) ⟨#[], []⟩ w → vs.size = args.length → (∀ i x, args[i]? = some x → RepA w L (good C L (lko hl) w) x (vs.getD i undef)) →
      Calls P f vs w fun e w' => ∃ v r hl' L', e = .returned v ∧ post r hl' ∧ Rel C L' (fun _ => .any) (lko hl') ⟨#[], []⟩ w' ∧ RepA w' L' (good C L' (lko hl') w') r v) : LSpec P f args hl post := by
  refine ⟨hf, fun w R L vs hR hz hold hargs hobj hinj hown => ?_⟩
  have hlent : ∀ b, Ctx.lent ⟨P, 0, w, R, keysH hl, L⟩ b ↔ owned L (lko hl) b := fun b => by
    constructor
    · rintro ⟨i, h1, h2⟩
      obtain ⟨o, h3⟩ := keysH_ok.1 h1
      exact ⟨i, o, h3, h2⟩
    · rintro ⟨i, o, h1, h2⟩
      exact ⟨i, keysH_ok.2 ⟨o, h1⟩, h2⟩
  have hgood : ∀ b, b < w.heap.size → R b → good ⟨P, 0, w, R, keysH hl, L⟩ L (lko hl) w b ∧ w.heap[b]? = w.heap[b]? := fun b hlt hb => ⟨⟨hlt, .inl hb, fun ⟨i, o, h1, h2⟩ => (hown i o b h1 h2).2 hb⟩, rfl⟩
  have hrel : Rel ⟨P, 0, w, R, keysH hl, L⟩ L (fun _ => .any) (lko hl) ⟨#[], []⟩ w := {
    below := BelowL.refl _ _
    top := fun b => (hold b).trans (and_congr_right fun _ => not_congr (hlent b).symm)
    size := rfl
    defers := rfl
    slot := fun t => .any
    obj := fun id o h => (hobj id o h).mono (Nat.le_refl _) hgood (fun _ _ => rfl) (fun b _ hb => ⟨hb, rfl⟩) (fun _ => true) (fun _ _ => ⟨rfl, rfl⟩) rfl (fun _ h => by cases h)
    inj := hinj
    own0 := fun id o b h1 h2 => ⟨.inr ((hlent b).2 ⟨id, o, h1, h2⟩), (hown id o b h1 h2).1⟩
    kept := fun id o _ _ => ⟨rfl, rfl⟩
    lidn := fun i hi => idsOk_ok hid i hi }
  refine (h ⟨P, 0, w, R, keysH hl, L⟩ L w vs rfl rfl hrel hz fun i x hx => (hargs i x hx).mono1 (Nat.le_refl _) hgood (fun _ _ => rfl)).mono ?_
  rintro e w' ⟨v, r, hl', L', rfl, hp, hw, hr⟩
  have hlg : ∀ b, good ⟨P, 0, w, R, keysH hl, L⟩ L' (lko hl') w' b → lgood w w' R L hl L' hl' b := fun b hb => ⟨hb.1, hb.2.1.imp id (fun h => h.imp id (hlent b).1), hb.2.2⟩
  refine ⟨v, r, hl', L', rfl, hp, ⟨⟨hw.below.os, hw.below.tape, hw.below.output, hw.below.size, fun k hk hnl => hw.below.block k hk fun hl => hnl ((hlent k).1 hl)⟩, fun id o ho => ?_, hw.inj, fun id o b h3 h4 => ?_, fun id o o' h3 h4 => hw.kept id o' (keysH_ok.2 ⟨o, h3⟩) h4⟩, ?_⟩
  · exact (hw.obj id o ho).mono (Nat.le_refl _) (fun b _ hb => ⟨hlg b hb, rfl⟩) (fun _ _ => rfl) (fun b _ hb => ⟨hb, rfl⟩) (fun _ => true) (fun _ _ => ⟨rfl, rfl⟩) rfl (fun _ h => by cases h)
  · obtain ⟨q1, q2⟩ := hw.own0 id o b h3 h4
    exact ⟨q1.imp (fun h => h) (hlent b).1, q2⟩
  · exact hr.mono1 (Nat.le_refl _) (fun b _ hb => ⟨hlg b hb, rfl⟩) (fun _ _ => rfl)
/-- An object is given up, and its block turned. -/
theorem Rel.gone {C : Ctx} {L : Lay} {g : Nat → AVal} {h : Nat → Option AObj} {a : Act} {w w' : World} (H : Rel C L g h a w) {id : Nat} {o0 : AObj} (hid : h id = some o0) (hos : w'.os = w.os) (htp : w'.tape = w.tape) (hout : w'.output = w.output) (hsz : w.heap.size ≤ w'.heap.size)
    (hw : ∀ b, b < w.heap.size → L.blk id ≠ some b → w'.heap[b]? = w.heap[b]?) : Rel C L g (fun j => if j = id then none else h j) a w' := by
  have hsome : ∀ {j oj}, (if j = id then none else h j) = some oj → h j = some oj ∧ j ≠ id := by
    intro j oj e
    split at e
    · cases e
    · rename_i hne; exact ⟨e, hne⟩
  have hg : Stays w w' (good C L h w) (good C L (fun j => if j = id then none else h j) w') := by
    intro b hlt hgb
    refine ⟨⟨Nat.lt_of_lt_of_le hlt hsz, hgb.2.1, fun ⟨i, oi, h1, h2⟩ => hgb.2.2 ⟨i, oi, (hsome h1).1, h2⟩⟩, hw b hlt fun e => hgb.2.2 ⟨id, o0, hid, e⟩⟩
  have ht : ∀ b, L.old b → w'.heap[b]? = w.heap[b]? := fun b hb => hw b (H.old_lt hb) (H.old_own hb hid)
  exact {
    below := H.below.next hos htp hout hsz fun k hk hnl => hw k (Nat.lt_of_lt_of_le hk H.below.size) fun e => by
      rcases (H.own0 id o0 k hid e).1 with h1 | h1
      · omega
      · exact hnl h1
    top := H.top
    size := H.size
    defers := H.defers
    slot := fun t => (H.slot t).mono1 hsz hg ht
    obj := fun j oj hj => by
      obtain ⟨h1, h2⟩ := hsome hj
      exact (H.obj j oj h1).mono hsz hg (fun b hb => hw b (H.own0 j oj b h1 hb).2 fun e => h2 (H.inj j id oj o0 b h1 hid hb e)) (fun b _ hb => ⟨hb, ht b hb⟩) (fun _ => true) (fun _ _ => ⟨rfl, rfl⟩) rfl (fun _ h => by cases h)
    inj := fun i j oi oj b h1 h2 => H.inj i j oi oj b (hsome h1).1 (hsome h2).1
    own0 := fun i o b h1 h2 => by
      obtain ⟨q1, q2⟩ := H.own0 i o b (hsome h1).1 h2
      exact ⟨q1, Nat.lt_of_lt_of_le q2 hsz⟩
    kept := fun i o hl h1 => H.kept i o hl (hsome h1).1
    lidn := H.lidn }
end Towline
