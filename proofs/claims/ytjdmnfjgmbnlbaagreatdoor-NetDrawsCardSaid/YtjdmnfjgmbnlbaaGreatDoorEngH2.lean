/- The engine, part nine: rows of operations, calls, the forms of code. Over any program. -/
import Derived.Test.YtjdmnfjgmbnlbaaGreatDoorEngM
namespace Towline
open Go Go.RowKit
set_option linter.unusedVariables false

mutual
/-- The rows that a value speaks of. -/
def rowIds : AVal → List Nat
  | .rsl id _ _ _ => [id]
  | .agg l => rowIdsL l
  | .tup l => rowIdsL l
  | _ => []
def rowIdsL : List AVal → List Nat
  | [] => []
  | x :: r => rowIds x ++ rowIdsL r
end
def rowsOf (g : Nat → AVal) : List Operand → List Nat
  | [] => []
  | x :: r => rowIds (opnd g x) ++ rowsOf g r
/-- The arguments, rows of the call's own read as what they hold. -/
def pubK (g : Nat → AVal) (h : Nat → Option AObj) (k : List AVal → Prop) : List Operand → Prop
  | [] => k []
  | x :: r => match (opnd g x).pure with
    | true => pubK g h (fun l => k (opnd g x :: l)) r
    | false => viewK h (fun v => pubK g h (fun l => k (v :: l)) r) (opnd g x)
def putF (nt : Nat) (d : Option Tmp) (v : AVal) (env : Env) (heap : Heap) (k : Env → Heap → Prop) : Prop :=
  match d with
  | some t => match Nat.blt t nt with
    | true => forceV (fun v => k ((t, v) :: env) heap) v
    | false => False
  | none => k env heap
def newK (nt : Nat) (d : Option Tmp) (o : AObj) (v : Nat → AVal) (env : Env) (heap : Heap) (k : Env → Heap → Prop) : Prop :=
  match d with
  | some t => match freeEnv t env with
    | true => match freeHeap t heap with
      | true => putF nt (some t) (v t) env ((t, o) :: heap) k
      | false => False
    | false => False
  | none => False
def appK (nt : Nat) (d : Option Tmp) (old : Nat) (o : AObj) (v : Nat → AVal) (env : Env) (heap : Heap) (k : Env → Heap → Prop) : Prop :=
  match killE old env with
  | some env => match killHp old heap with
    | some heap => newK nt d o v env heap k
    | none => False
  | none => False
/-- Cells that do not speak of the slot's own object. -/
def chkV (d : Option Tmp) (cells : List AVal) (p : Prop) : Prop := match d with
  | some t => match AVal.freeL t cells with
    | true => p
    | false => False
  | none => False
theorem chkV_ok {d : Option Tmp} {cells : List AVal} {p : Prop} (h : chkV d cells p) : ∃ t, d = some t ∧ AVal.freeL t cells = true ∧ p := by
  unfold chkV at h
  split at h
  · rename_i t
    split at h
    · rename_i hf; exact ⟨t, rfl, hf, h⟩
    · exact h.elim
  · exact h.elim
def ARes (nt : Nat) (d : Option Tmp) (env : Env) (heap : Heap) (k : Env → Heap → Prop) : Option Res → Prop
  | none => False
  | some (.val v) => putF nt d v env heap k
  | some (.cond v c) => c ∧ putF nt d v env heap k
  | some (.new o) => newK nt d o (fun t => .ptr t 0) env heap k
  | some (.newv o v c) => match c with
    | some c => c ∧ newK nt d o v env heap k
    | none => newK nt d o v env heap k
  | some (.set id o) => match setO id o heap with
    | some h => putF nt d .any env h k
    | none => False
  | some (.setc id o c) => c ∧ match setO id o heap with
    | some h => putF nt d .any env h k
    | none => False
  | some (.mkrow t sz n f c) => match c with
    | some c => c ∧ newK nt d (.row t sz n f) (fun d => .rsl d sz 0 n) env heap k
    | none => newK nt d (.row t sz n f) (fun d => .rsl d sz 0 n) env heap k
  | some (.ndb c) => ∀ b, c b → putF nt d (.d (.b b)) env heap k
  | some (.str c) => ∃ l, c l ∧ putF nt d (.d (.s l)) env heap k
  | some (.pub id v) => forceH (fun hp => putF nt d v env hp k) (dropH [id] heap)
  | some (.app old t sz n f c) => c ∧ appK nt d old (.row t sz n f) (fun d => .rsl d sz 0 n) env heap k
  | some (.appv old t cells c) => c ∧ chkV d cells (appK nt d old (.vrow t cells) (fun d => .rsl d 1 0 cells.length) env heap k)
  | some (.mkv t cells c) => c ∧ chkV d cells (newK nt d (.vrow t cells) (fun d => .rsl d 1 0 cells.length) env heap k)
  | some (.mget ky l z ok) => ∃ f, findD ky l = some f ∧ putF nt d (okM ok (.d (getD2 z f)) (isS f)) env heap k
  | some (.mput id ky x l) => ∃ f, findD ky l = some f ∧ ∃ l', putM f ky x l = l' ∧ match setO id (.dmp l') heap with
    | some h => putF nt d .any env h k
    | none => False
  | some (.mdel id ky l) => ∃ f, findD ky l = some f ∧ ∃ l', delM f l = l' ∧ match setO id (.dmp l') heap with
    | some h => putF nt d .any env h k
    | none => False
/-- Rows of the call's own that are laid into a slice of slices: they are read as what they hold from then on. -/
def frzK (k : Env → Heap → Prop) : List (Nat × Operand) → Env → Heap → Prop
  | [], env, heap => k env heap
  | (_, .tmp t) :: r, env, heap => match look t env with
    | .rsl id sz o n => viewK (restrictH [id] fun i => lookO i heap) (fun v => forceH (fun hp => frzK k r ((t, v) :: env) hp) (dropH [id] heap)) (.rsl id sz o n)
    | _ => frzK k r env heap
  | _ :: r, env, heap => frzK k r env heap
/-- A box of plain cells that a slot speaks of is given up: the slot holds a pointer that is data. -/
def frzB (k : Env → Heap → Prop) (s : Nat) (env : Env) (heap : Heap) : Prop := match look s env with
  | .ptr id 0 => viewK (restrictH [id] fun i => lookO i heap) (fun v => forceH (fun hp => k ((s, v) :: env) hp) (dropH [id] heap)) (.ptr id 0)
  | _ => False
def gtmp (ops : Array Oper) (j : Nat) : Option Tmp := (ops[j]?).bind (·.dst)
def putP (nt : Nat) (d : Option Tmp) (exact : Bool) (env : Env) (heap : Heap) (k : Env → Heap → Prop) (r : AVal) : Prop :=
  match exact with
  | true => putF nt d r env heap k
  | false => match r.flat with
    | true => putF nt d r env heap k
    | false => False
/-- What a call has answered is put away. -/
def putR (nt : Nat) (d : Option Tmp) (exact : Bool) (env : Env) (heap : Heap) (k : Env → Heap → Prop) (r : AVal) : Prop :=
  match r with
  | .fresh t sz n f => match exact with
    | true => match Nat.blt t markT with
      | true => newK nt d (.row t sz n f) (fun d => .rsl d sz 0 n) env heap k
      | false => False
    | false => False
  | r => putP nt d exact env heap k r
/-- A call of a function that is named, or that a slot holds. -/
def ACall (P : Program) (nt : Nat) (d : Option Tmp) (env : Env) (heap : Heap) (k : Env → Heap → Prop) (f : FuncId) (args : List AVal) (exact : Bool) : Prop :=
  ∃ post, PSpec P f args post ∧ ∀ r, post r → putR nt d exact env heap k r
/-- A text that is turned into bytes. -/
def convS (T : Tys) (src dst : TypeId) (v : AVal) : Option (List UInt8) :=
  match lookT src T with
  | some ⟨.string, _, _, _⟩ => match lookT dst T with
    | some ⟨.slice e, _, _, _⟩ => match lookT e T with
      | some ⟨.int .u8, _, _, _⟩ => match v with
        | .d (.s l) => some l
        | _ => none
      | _ => none
    | _ => none
  | _ => none
theorem convS_some {P : Program} {T : Tys} (hT : TysOk P T) {src dst : TypeId} {v : AVal} {l : List UInt8} (h : convS T src dst v = some l) : v = .d (.s l) ∧ P.underlying src = some .string ∧ ∃ e, P.underlying dst = some (.slice e) ∧ P.underlying e = some (.int .u8) := by
  unfold convS at h
  split at h
  · rename_i e1
    split at h
    · rename_i e2
      split at h
      · rename_i e3
        split at h
        · cases h
          exact ⟨rfl, (hT.get e1).string rfl, _, (hT.get e2).slice rfl, (hT.get e3).int rfl⟩
        · cases h
      · cases h
    · cases h
  · cases h
/-- The bytes of a text, in new memory. -/
theorem conv_bytes {P : Program} (w : World) (R : Nat → Prop) {src dst e : TypeId} (l : List UInt8) (hs : P.underlying src = some .string) (hd : P.underlying dst = some (.slice e)) (he : P.underlying e = some (.int .u8)) (hl : l.length ≤ 9223372036854775807) :
    ∃ v w', (convert src dst (.string ⟨l.toArray⟩)).run P w = .ok v w' ∧ Below w.heap.size w w' ∧ RepA w' (L0 w.heap.size) (fun b => R b ∨ (w.heap.size ≤ b ∧ b < w'.heap.size)) (.d (.sl 1 l.length (bytesF l))) v := by
  refine ⟨_, _, run_bytes_of_string (P := P) w src dst e ⟨l.toArray⟩ hs hd he, (Below.refl _ w).drew.alloc (Nat.le_refl _) _, ?_⟩
  have hz : (⟨l.toArray⟩ : ByteArray).size = l.length := by show l.toArray.size = _; simp
  have hge := grownCap_ge w (⟨l.toArray⟩ : ByteArray).size 0 e
  have hle := grownCap_le_maxLen w (⟨l.toArray⟩ : ByteArray).size 0 e (by rw [hz]; exact hl)
  rw [hz] at hge hle ⊢
  by_cases h0 : l.length = 0
  · obtain rfl := List.eq_nil_of_length_eq_zero h0
    exact .d (.sl0 _ _ _ _ hle)
  refine .d (.sl 1 l.length (bytesF l) w.heap.size 0 _ (fun k _ => .int .u8 ((l.getD k 0).toNat : Nat)) (by omega) hge hle (.inr ⟨Nat.le_refl _, ?_⟩) ?_ (fun _ _ => rfl) (fun k hk j hj => ?_) (fun k hk j x hx => ?_))
  · show _ < (w.heap.push _).size
    simp
  · show _ < (w.heap.push _).size
    simp
  · have : j = 0 := by omega
    subst this
    have h1 := World.cell?_alloc_mark w.drew (bytesRow ⟨l.toArray⟩ (grownCap w l.length 0 e)) e ((bytesRow ⟨l.toArray⟩ (grownCap w l.length 0 e)).size, (bytesRow ⟨l.toArray⟩ (grownCap w l.length 0 e)).size + 1) k
    have h3 := bytesRow_at ⟨l.toArray⟩ (grownCap w l.length 0 e) k (by simpa using hk)
    rw [h3] at h1
    have e1 : 0 + k * 1 + 0 = k := by omega
    rw [e1]
    have e2 : (⟨l.toArray⟩ : ByteArray).data[k]'(by simpa using hk) = l.getD k 0 := by
      rw [List.getD_eq_getElem?_getD, List.getElem?_eq_getElem hk]
      simp
    rw [e2] at h1
    exact h1
  · match j, hx with
    | 0, hx =>
      cases hx
      exact .i _ _
/-- The same, as a row of the call's own. -/
theorem conv_row {P : Program} (w : World) {src dst e : TypeId} (l : List UInt8) (hs : P.underlying src = some .string) (hd : P.underlying dst = some (.slice e)) (he : P.underlying e = some (.int .u8)) (hl : l.length ≤ 9223372036854775807) :
    ∃ v w' cap, (convert src dst (.string ⟨l.toArray⟩)).run P w = .ok v w' ∧ Below w.heap.size w w' ∧ w.heap.size < w'.heap.size ∧ ∀ (L : Lay) (d : Nat) (gd : Nat → Prop),
      RepO w' gd (L.upd d (some w.heap.size) cap) d (.row markT 1 l.length (bytesF l)) ∧ RepA w' (L.upd d (some w.heap.size) cap) gd (.rsl d 1 0 l.length) v := by
  have hz : (⟨l.toArray⟩ : ByteArray).size = l.length := by show l.toArray.size = _; simp
  have hge := grownCap_ge w (⟨l.toArray⟩ : ByteArray).size 0 e
  have hle := grownCap_le_maxLen w (⟨l.toArray⟩ : ByteArray).size 0 e (by rw [hz]; exact hl)
  have hrun := run_bytes_of_string (P := P) w src dst e ⟨l.toArray⟩ hs hd he
  rw [hz] at hge hle hrun
  generalize hcap : grownCap w l.length 0 e = cap at hge hle hrun
  have hsz : (bytesRow ⟨l.toArray⟩ cap).size = cap := by
    unfold bytesRow
    rw [Array.size_append, Array.size_map, Array.size_replicate, hz]
    show l.toArray.size + _ = _
    rw [List.size_toArray]; omega
  refine ⟨_, _, cap, hrun, (Below.refl _ w).drew.alloc (Nat.le_refl _) _, ?_, fun L d gd => ⟨?_, ?_⟩⟩
  · show _ < (w.heap.push _).size
    simp
  · refine .row (b := w.heap.size) (cs := bytesRow ⟨l.toArray⟩ cap) (by simp [Lay.upd]) (heap_alloc_new w.drew _) (by simpa [Lay.upd] using hge) (by simpa [Lay.upd] using hle) (by simpa [Lay.upd] using hsz) (fun _ _ => rfl) (fun k hk j x hx => ?_) (fun h => absurd h (Nat.lt_irrefl _)) (.inr ⟨rfl, Nat.le_refl _⟩) (fun m hm => by unfold markT arT at hm; omega)
    match j, hx with
    | 0, hx =>
      cases hx
      have h3 := bytesRow_at ⟨l.toArray⟩ cap k (by simpa using hk)
      rw [show k * 1 + 0 = k from by omega, Array.getD_eq_getD_getElem?, h3]
      have e2 : (⟨l.toArray⟩ : ByteArray).data[k]'(by simpa using hk) = l.getD k 0 := by
        rw [List.getD_eq_getElem?_getD, List.getElem?_eq_getElem hk]
        simp
      rw [e2]
      exact .i _ _
  · have : RepA (w.drew.alloc (.cells (bytesRow ⟨l.toArray⟩ cap) e ((bytesRow ⟨l.toArray⟩ cap).size, (bytesRow ⟨l.toArray⟩ cap).size + 1))) (L.upd d (some w.heap.size) cap) gd (.rsl d 1 0 l.length) (.slice (((L.upd d (some w.heap.size) cap).blk d).map fun b => ⟨b, 0 * 1, none⟩) l.length ((L.upd d (some w.heap.size) cap).cap d - 0)) :=
      .rsl (by simpa [Lay.upd] using hge) (fun _ => ⟨_, by simp [Lay.upd]; rfl⟩) (fun _ => rfl)
    simpa [Lay.upd] using this
def AStep (P : Program) (T : Tys) (nt : Nat) (o : Oper) (env : Env) (heap : Heap) (k : Env → Heap → Prop) : Prop :=
  match o.op with
  | .call { callee := .value f, args := as, .. } => match lentTo T (opnd (fun t => look t env) f) with
    | some ms => match opnd (fun t => look t env) f with
      | .fn f caps => lendK (fun i => lookO i heap) (fun l p => forceH (fun hp => ALend P nt o.dst env hp k f (l ++ capsN caps)) (dropH p heap)) ms (as.toList.map (opnd fun t => look t env)) []
      | _ => False
    | none => match (match o.dst with | some d => memN d T.pub | none => false) with
     | true => match opnd (fun t => look t env) f with
      | .fn f [] => pubK (fun t => look t env) (restrictH (rowsOf (fun t => look t env) as.toList) fun i => lookO i heap) (fun l => ACall P nt o.dst env (dropH (rowsOf (fun t => look t env) as.toList) heap) k f l true) as.toList
      | _ => False
     | false => match opnd (fun t => look t env) f with
      | .fn f caps => argK (fun t => look t env) (fun i => lookO i heap) caps (ACall P nt o.dst env heap k f) as.toList
      | .d (.cl f n ds) => argK (fun t => look t env) (fun i => lookO i heap) [] (fun l b => ACall P nt o.dst env heap k f (l ++ capsF n 0 ds) b) as.toList
      | _ => False
  | .convert src dst x => match convS T src dst (opnd (fun t => look t env) x) with
    | some l => l.length ≤ 9223372036854775807 ∧ (match (match o.dst with | some d => memN d T.pub | none => false) with
      | true => newK nt o.dst (.row markT 1 l.length (bytesF l)) (fun d => .rsl d 1 0 l.length) env heap k
      | false => putR nt o.dst true env heap k (.d (.sl 1 l.length (bytesF l))))
    | none => ARes nt o.dst env heap k (aop T (fun t => look t env) (fun i => lookO i heap) (.convert src dst x))
  | .buildSlice ty n els => frzK (fun env heap => ARes nt o.dst env heap k (aop T (fun t => look t env) (fun i => lookO i heap) (.buildSlice ty n els))) els.toList env heap
  | op => ARes nt o.dst env heap k (aop T (fun t => look t env) (fun i => lookO i heap) op)
def AOps (P : Program) (T : Tys) (nt : Nat) (ops : Array Oper) (K : Env → Heap → Prop) : List Oper → Env → Heap → Prop
  | [], env, heap => K env heap
  | o :: r, env, heap =>
    match o.guard with
    | none => AStep P T nt o env heap (AOps P T nt ops K r)
    | some (j, want) => match gtmp ops j with
      | some t => match look t env with
        | .d (.b x) => match x with
          | true => match want with
            | true => AStep P T nt o ((t, .d (.b true)) :: env) heap (AOps P T nt ops K r)
            | false => putF nt o.dst (.tup []) ((t, .d (.b true)) :: env) heap (AOps P T nt ops K r)
          | false => match want with
            | true => putF nt o.dst (.tup []) ((t, .d (.b false)) :: env) heap (AOps P T nt ops K r)
            | false => AStep P T nt o ((t, .d (.b false)) :: env) heap (AOps P T nt ops K r)
        | .tup [] => putF nt o.dst (.tup []) env heap (AOps P T nt ops K r)
        | _ => False
      | none => False
section
variable {C : Ctx} {T : Tys} {L : Lay} {env : Env} {heap : Heap} {a : Act} {w : World}
theorem repA_tup0 {gd : Nat → Prop} {v : Value} (h : RepA w L gd (.tup []) v) : v = undef := by
  cases h with
  | @tup _ l vs hz h => 
    have : vs = #[] := Array.eq_empty_of_size_eq_zero hz
    rw [this]; rfl
theorem yielded_undef {ops : Array Oper} {tmps : Array Value} {j t : Nat} (ht : gtmp ops j = some t) (hb : tmps.getD t undef = undef) : yielded ops tmps j = none := by
  unfold yielded
  have : (ops[j]?).bind (·.dst) = some t := ht
  rw [this]
  rw [Array.getD_eq_getD_getElem?] at hb
  simp only [Option.bind_some]
  cases h : tmps[t]? with
  | none => rfl
  | some v => rw [h] at hb; simp only [Option.getD_some] at hb; rw [hb]; rfl
theorem Rel.holds {g : Nat → AVal} {h : Nat → Option AObj} (H : Rel C L g h a w) : Holds w (good C L h w) L g h a := ⟨H.slot, H.obj, H.goodW⟩
theorem putF_ok {d : Option Tmp} {v : AVal} {k : Env → Heap → Prop} (h : Rel C L (lk env) (lko heap) a w) (hk : putF C.nt d v env heap k) {u : Value} (hv : RepA w L (good C L (lko heap) w) v u) : ∃ env', k env' heap ∧ Rel C L (lk env') (lko heap) (a.put d u) w := by
  unfold putF at hk
  cases d with
  | none => exact ⟨env, hk, h⟩
  | some t =>
    simp only at hk
    cases hb : Nat.blt t C.nt with
    | false => rw [hb] at hk; exact hk.elim
    | true =>
      rw [hb] at hk
      have hlt : t < C.nt := Nat.lt_of_succ_le (by simpa [Nat.blt] using hb)
      exact ⟨_, forceV_eq hk, by rw [lk_cons]; exact h.put hlt hv⟩
theorem putF_lt {nt t : Nat} {v : AVal} {env : Env} {heap : Heap} {k : Env → Heap → Prop} (hk : putF nt (some t) v env heap k) : t < nt := by
  unfold putF at hk
  simp only at hk
  cases hbl : Nat.blt t nt with
  | false => rw [hbl] at hk; exact hk.elim
  | true => exact Nat.lt_of_succ_le (by simpa [Nat.blt] using hbl)
theorem newK_ok {d : Option Tmp} {o : AObj} {v : Nat → AVal} {k : Env → Heap → Prop} (h : Rel C L (lk env) (lko heap) a w) (hk : newK C.nt d o v env heap k) {w' : World} {nb : Option Nat} {nc : Nat} {u : Value} (hb : Below w.heap.size w w') (hnb : ∀ b, nb = some b → w.heap.size ≤ b ∧ b < w'.heap.size)
    (ho : ∀ t, (∀ s, (look s env).free t = true) → RepO w' (good C (L.upd t nb nc) (hput (lko heap) t o) w') (L.upd t nb nc) t o ∧ RepA w' (L.upd t nb nc) (good C (L.upd t nb nc) (hput (lko heap) t o) w') (v t) u) :
    ∃ L' env' heap', k env' heap' ∧ Rel C L' (lk env') (lko heap') (a.put d u) w' := by
  unfold newK at hk
  cases d with
  | none => exact hk.elim
  | some t =>
    simp only at hk
    cases h1 : freeEnv t env with
    | false => rw [h1] at hk; exact hk.elim
    | true =>
      rw [h1] at hk
      simp only at hk
      cases h2 : freeHeap t heap with
      | false => rw [h2] at hk; exact hk.elim
      | true =>
        rw [h2] at hk
        simp only at hk
        obtain ⟨o1, o2⟩ := ho t (freeEnv_look h1)
        have hnew := h.new (h.lid_slot (putF_lt hk)) (freeEnv_look h1) (freeHeap_look h2) hb nb nc hnb (o := o) o1
        rw [← lko_cons] at hnew o2
        obtain ⟨env', k1, k2⟩ := putF_ok hnew hk o2
        exact ⟨_, env', _, k1, k2⟩
theorem putR_ok {d : Option Tmp} {k : Env → Heap → Prop} {exact_ : Bool} (h : Rel C L (lk env) (lko heap) a w) {w' : World} (hbel : Below w.heap.size w w') {r : AVal} {v : Value} (hk : putR C.nt d exact_ env heap k r) (hrep : RepR w w' (seen (good C L (lko heap) w) w exact_) r v) :
    ∃ L' env' heap', k env' heap' ∧ Rel C L' (lk env') (lko heap') (a.put d v) w' := by
  have hw' := h.world (hbel.mono h.below.size) (fun b hb => hbel.block b hb)
  have hnew : ∀ b, w.heap.size ≤ b → b < w'.heap.size → good C L (lko heap) w' b := fun b hb1 hb2 => ⟨hb2, .inr (.inl (Nat.le_trans h.below.size hb1)), fun ⟨id, ob, h1, h2⟩ => by have := (h.own0 id ob b h1 h2).2; omega⟩
  have plain : ∀ {r : AVal}, putP C.nt d exact_ env heap k r → r.data = true → RepA w' (L0 w.heap.size) (fun b => seen (good C L (lko heap) w) w exact_ b ∨ (w.heap.size ≤ b ∧ b < w'.heap.size)) r v →
      ∃ L' env' heap', k env' heap' ∧ Rel C L' (lk env') (lko heap') (a.put d v) w' := by
    intro r hk hd hrep
    unfold putP at hk
    cases exact_ with
    | true =>
      have hrep' : RepA w' L (good C L (lko heap) w') r v := hrep.data (Nat.le_refl _) hd fun b _ hb => ⟨by
        rcases hb with hb | ⟨hb1, hb2⟩
        · exact ⟨Nat.lt_of_lt_of_le hb.1 hbel.size, hb.2⟩
        · exact hnew b hb1 hb2, rfl⟩
      obtain ⟨env', k1, k2⟩ := putF_ok hw' hk hrep'
      exact ⟨_, _, _, k1, k2⟩
    | false =>
      simp only at hk
      cases hf : r.flat with
      | false => rw [hf] at hk; exact hk.elim
      | true =>
        rw [hf] at hk
        obtain ⟨env', k1, k2⟩ := putF_ok hw' hk (hrep.flat hf)
        exact ⟨_, _, _, k1, k2⟩
  cases r with
  | fresh t sz n f =>
    cases exact_ with
    | false => exact hk.elim
    | true =>
      obtain ⟨xs, hown, hf, hr⟩ := hrep
      cases hbt : Nat.blt t markT with
      | false => simp only [putR, hbt] at hk
      | true =>
      simp only [putR, hbt] at hk
      refine newK_ok h hk hbel (nb := v.ownBlock) (nc := capOf v) (fun b hb => ⟨(hown.lt b hb).1, (hown.lt b hb).2⟩) fun t' _ => ?_
      refine row_of_own hown hf (fun k hk j x hx => (hr k hk j x hx).mono (Nat.le_refl _) fun b hlt hb => ⟨?_, rfl⟩) L t' (Nat.le_of_ble_eq_true hbt)
      obtain ⟨hb1, hb2⟩ := hb
      have hgb : good C L (lko heap) w' b := by
        rcases hb1 with hb | ⟨hb1, hb3⟩
        · exact ⟨Nat.lt_of_lt_of_le hb.1 hbel.size, hb.2⟩
        · exact hnew b hb1 hb3
      refine ⟨hgb.1, hgb.2.1, ?_⟩
      rintro ⟨i, oi, h1, h2⟩
      unfold hput at h1
      split at h1
      · rename_i hi
        simp only [Lay.upd, hi, if_true] at h2
        exact hb2 h2
      · rename_i hi
        simp only [Lay.upd, hi, if_false] at h2
        exact hgb.2.2 ⟨i, oi, h1, h2⟩
  | any => exact plain hk hrep.1 hrep.2
  | d x => exact plain hk hrep.1 hrep.2
  | agg l => exact plain hk hrep.1 hrep.2
  | tup l => exact plain hk hrep.1 hrep.2
  | fn => cases hrep.1
  | eptr => cases hrep.1
  | ptr => cases hrep.1
  | rsl => cases hrep.1
  | rptr => cases hrep.1
  | mref => cases hrep.1
theorem pubK_ok {gd : Nat → Prop} {g : Nat → AVal} {h : Nat → Option AObj} (hslot : ∀ x, RepA w L gd (opnd g x) (a.eval x)) (ho : ∀ id o, h id = some o → RepO w gd L id o) (hb : ∀ id o b, h id = some o → L.blk id = some b → gd b ∧ b < w.heap.size) :
    ∀ {as : List Operand} {k : List AVal → Prop}, pubK g h k as → ∃ l, k l ∧ l.length = as.length ∧ ∀ (i : Nat) (x : AVal), l[i]? = some x → RepA w (L0 w.heap.size) gd x ((as.map a.eval).getD i undef)
  | [], k, hk => ⟨[], hk, rfl, fun i x hx => by simp at hx⟩
  | x :: r, k, hk => by
    have main : ∀ y, pubK g h (fun l => k (y :: l)) r → RepA w (L0 w.heap.size) gd y (a.eval x) → ∃ l, k l ∧ l.length = (x :: r).length ∧ ∀ (i : Nat) (z : AVal), l[i]? = some z → RepA w (L0 w.heap.size) gd z (((x :: r).map a.eval).getD i undef) := by
      intro y hk hy
      obtain ⟨l, e1, e2, e3⟩ := pubK_ok hslot ho hb hk
      refine ⟨y :: l, e1, by simp [e2], fun i z hz => ?_⟩
      cases i with
      | zero => simp only [List.getElem?_cons_zero, Option.some.injEq] at hz; subst hz; exact hy
      | succ i => simpa using e3 i z hz
    simp only [pubK] at hk
    cases hp : (opnd g x).pure with
    | true =>
      rw [hp] at hk
      exact main _ hk ((hslot x).enter hp)
    | false =>
      rw [hp] at hk
      obtain ⟨y, h1, h2, h3⟩ := viewK_ok (gd' := gd) (L0 w.heap.size) ho (fun b hb => hb) hb _ _ _ hk (hslot x)
      exact main y h1 h3
theorem ARes_ok (hT : TysOk C.P T) {o : Oper} {k : Env → Heap → Prop} (h : Rel C L (lk env) (lko heap) a w) (ares : ARes C.nt o.dst env heap k (aop T (fun t => look t env) (fun i => lookO i heap) o.op)) {next : Act → World → Prop} {Q : Exit → Act → World → Prop}
    (hn : ∀ L env heap a w, k env heap → Rel C L (lk env) (lko heap) a w → next a w) : o.wp C.P a w next Q := by
  cases hr : aop T (fun t => look t env) (fun i => lookO i heap) o.op with
  | none => rw [hr] at ares; exact ares.elim
  | some r =>
    rw [hr] at ares
    have hok := aop_ok hT h.holds hr
    have makes : ∀ {ob : AObj} {v : Nat → AVal}, newK C.nt o.dst ob v env heap k → (∀ d, o.dst = some d → (∀ t, (look t env).free d = true) → MakesOk C.P w (good C L (lko heap) w) L a o d (v d) ob) → o.wp C.P a w next Q := by
      intro ob v hk hok
      have hk' := hk
      unfold newK at hk'
      cases hd : o.dst with
      | none => rw [hd] at hk'; exact hk'.elim
      | some t =>
        rw [hd] at hk' hk
        simp only at hk'
        cases h1 : freeEnv t env with
        | false => rw [h1] at hk'; exact hk'.elim
        | true =>
          clear hk'
          obtain ⟨w', nb, nc, u, r1, r2, r3, r4⟩ := hok t hd (freeEnv_look h1)
          unfold newK at hk
          simp only at hk
          rw [h1] at hk
          simp only at hk
          cases h2 : freeHeap t heap with
          | false => rw [h2] at hk; exact hk.elim
          | true =>
            rw [h2] at hk
            simp only at hk
            have hst := stays_new (C := C) (L := L) (h := lko heap) (id := t) (nb := nb) (nc := nc) r2 r3 ob
            have hng := h.new_good (w' := w') (d := t) (nb := nb) (nc := nc) (ob := ob)
            have hnew := h.new (h.lid_slot (putF_lt hk)) (freeEnv_look h1) (freeHeap_look h2) r2 nb nc r3 (o := ob) (r4 _ hst hng).1
            have hu := (r4 _ hst hng).2
            rw [← lko_cons] at hnew hu
            obtain ⟨env', k1, k2⟩ := putF_ok hnew hk hu
            unfold Oper.wp
            rw [r1, Oper.upon_value, hd]
            exact hn _ _ _ _ _ k1 k2
    have writes : ∀ {id : Nat} {ob : AObj}, (match setO id ob heap with | some h => putF C.nt o.dst .any env h k | none => False) → (∃ o0, lko heap id = some o0) → WritesOk C.P w (good C L (lko heap) w) L a o id ob → o.wp C.P a w next Q := by
      rintro id ob hk ⟨o0, ho0⟩ ⟨b, w', r1, r2, r3, r4, r5, r6, r7, r8⟩
      cases hs : setO id ob heap with
      | none => rw [hs] at hk; exact hk.elim
      | some h' =>
        rw [hs] at hk
        simp only at hk
        have hset := h.set ho0 r1 r3 r4 r5 r6 r7 r8
        rw [← lko_set hs] at hset
        unfold Oper.wp
        rcases r2 with r2 | ⟨u, r2⟩
        · obtain ⟨env', k1, k2⟩ := putF_ok hset hk (.any (v := undef))
          rw [r2, Oper.upon_skip]
          exact hn _ _ _ _ _ k1 k2
        · obtain ⟨env', k1, k2⟩ := putF_ok hset hk (.any (v := u))
          rw [r2, Oper.upon_value]
          exact hn _ _ _ _ _ k1 k2
    cases r with
    | val v =>
      obtain ⟨u, h1, h2⟩ := hok
      obtain ⟨env', k1, k2⟩ := putF_ok h ares h2
      unfold Oper.wp
      rw [h1, Oper.upon_value]
      exact hn _ _ _ _ _ k1 k2
    | cond v c =>
      obtain ⟨u, h1, h2⟩ := hok ares.1
      obtain ⟨env', k1, k2⟩ := putF_ok h ares.2 h2
      unfold Oper.wp
      rw [h1, Oper.upon_value]
      exact hn _ _ _ _ _ k1 k2
    | new ob => exact makes ares fun d _ => hok d
    | newv ob v c =>
      cases c with
      | none => exact makes ares fun d _ => hok (fun q hq => by cases hq) d
      | some c => exact makes ares.2 fun d _ => hok (fun q hq => by cases hq; exact ares.1) d
    | set id ob => exact writes ares hok.1 hok.2
    | setc id ob c => exact writes ares.2 hok.1 (hok.2 ares.1)
    | mkrow t sz n f c =>
      cases c with
      | none => exact makes ares (fun d _ _ => hok (fun q hq => by cases hq) d)
      | some c => exact makes ares.2 (fun d _ _ => hok (fun q hq => by cases hq; exact ares.1) d)
    | ndb c =>
      obtain ⟨b, h1, h2⟩ := hok
      obtain ⟨env', k1, k2⟩ := putF_ok h (ares b h2) (.d (.b b))
      unfold Oper.wp
      rw [h1, Oper.upon_value]
      exact hn _ _ _ _ _ k1 k2
    | str c =>
      obtain ⟨l, hc, hk⟩ := ares
      obtain ⟨u, h1, h2⟩ := hok l hc
      obtain ⟨env', k1, k2⟩ := putF_ok h hk h2
      unfold Oper.wp
      rw [h1, Oper.upon_value]
      exact hn _ _ _ _ _ k1 k2
    | pub id v =>
      have hk := forceH_eq ares
      obtain ⟨⟨o0, ho0⟩, u, h1, h2⟩ := hok
      have hsub : ∀ i o, lko (dropH [id] heap) i = some o → lko heap i = some o := by
        intro i o e
        have e : lookO i (dropH [id] heap) = some o := e
        rw [lookO_dropH] at e
        exact (dropped_some e).1
      have hd := h.drop hsub
      have hv := h2 (good C L (lko (dropH [id] heap)) w) (fun b hb => good_drop hsub hb) (fun b hb => by
        have h3 := h.own0 id o0 b ho0 hb
        refine ⟨⟨h3.2, .inr h3.1, fun ⟨j, oj, k1, k2⟩ => ?_⟩, h3.2⟩
        have k1 : lookO j (dropH [id] heap) = some oj := k1
        rw [lookO_dropH] at k1
        obtain ⟨k3, k4⟩ := dropped_some (h0 := fun i => lookO i heap) k1
        have := h.inj j id oj o0 b k3 ho0 k2 hb
        subst this
        simp [memN] at k4)
      obtain ⟨env', k1, k2⟩ := putF_ok hd hk hv
      unfold Oper.wp
      rw [h1, Oper.upon_value]
      exact hn _ _ _ _ _ k1 k2
    | app old t sz n f c =>
      obtain ⟨hc, hk⟩ := ares
      obtain ⟨⟨t0, sz0, n0, f0, hold⟩, hmv⟩ := hok
      obtain ⟨w', nb, nc, u, r1, r2, r3, r4, r5, r6, r7, r8⟩ := hmv hc (fun b hb hg => hg.2.2 ⟨old, _, hold, hb⟩)
      unfold appK at hk
      cases he : killE old env with
      | none => rw [he] at hk; exact hk.elim
      | some env1 =>
        rw [he] at hk
        simp only at hk
        cases hh : killHp old heap with
        | none => rw [hh] at hk; exact hk.elim
        | some heap1 =>
          rw [hh] at hk
          simp only at hk
          unfold newK at hk
          cases hd : o.dst with
          | none => rw [hd] at hk; exact hk.elim
          | some t' =>
            rw [hd] at hk
            simp only at hk
            cases h1 : freeEnv t' env1 with
            | false => rw [h1] at hk; exact hk.elim
            | true =>
              rw [h1] at hk
              simp only at hk
              cases h2 : freeHeap t' heap1 with
              | false => rw [h2] at hk; exact hk.elim
              | true =>
                rw [h2] at hk
                simp only at hk
                have ke := killE_look he
                have kh := killHp_look hh
                obtain ⟨happ, hst⟩ := h.app (d := t') (h.lid_slot (putF_lt hk)) (o := .row t sz n f) hold (fun s => by rw [← ke]; exact freeEnv_look h1 s) (fun j oj hj => by rw [← kh] at hj; exact freeHeap_look h2 j oj hj) r2 r3 r4 r5 r6 nb nc r7 (fun gd' hst => (r8 t' gd' hst).1)
                have hu := (r8 t' _ hst).2
                rw [← ke, ← kh, ← lko_cons] at happ
                rw [← kh, ← lko_cons] at hu
                obtain ⟨env', k1, k2⟩ := putF_ok happ hk hu
                unfold Oper.wp
                rw [r1, Oper.upon_value, hd]
                exact hn _ _ _ _ _ k1 k2
    | appv old t cells c =>
      obtain ⟨hc, hk⟩ := ares
      obtain ⟨tf, hdf, hfr, hk⟩ := chkV_ok hk
      obtain ⟨⟨t0, c0, hold⟩, hmv⟩ := hok
      obtain ⟨w', nb, nc, u, r1, r2, r3, r4, r5, r6, r7, r8⟩ := hmv hc (fun b hb hg => hg.2.2 ⟨old, _, hold, hb⟩)
      unfold appK at hk
      cases he : killE old env with
      | none => rw [he] at hk; exact hk.elim
      | some env1 =>
        rw [he] at hk
        simp only at hk
        cases hh : killHp old heap with
        | none => rw [hh] at hk; exact hk.elim
        | some heap1 =>
          rw [hh] at hk
          simp only at hk
          unfold newK at hk
          cases hd : o.dst with
          | none => rw [hd] at hk; exact hk.elim
          | some t' =>
            obtain rfl : tf = t' := Option.some.inj (hdf.symm.trans hd)
            rw [hd] at hk
            simp only at hk
            cases h1 : freeEnv tf env1 with
            | false => rw [h1] at hk; exact hk.elim
            | true =>
              rw [h1] at hk
              simp only at hk
              cases h2 : freeHeap tf heap1 with
              | false => rw [h2] at hk; exact hk.elim
              | true =>
                rw [h2] at hk
                simp only at hk
                have ke := killE_look he
                have kh := killHp_look hh
                obtain ⟨happ, hst⟩ := h.app (d := tf) (h.lid_slot (putF_lt hk)) (o := .vrow t cells) hold (fun s => by rw [← ke]; exact freeEnv_look h1 s) (fun j oj hj => by rw [← kh] at hj; exact freeHeap_look h2 j oj hj) r2 r3 r4 r5 r6 nb nc r7 (fun gd' hst => (r8 tf gd' hfr hst fun b hb => r6 b (h.old_lt hb) (fun e => h.old_own hb hold e.symm)).1)
                have hu := (r8 tf _ hfr hst fun b hb => r6 b (h.old_lt hb) (fun e => h.old_own hb hold e.symm)).2
                rw [← ke, ← kh, ← lko_cons] at happ
                rw [← kh, ← lko_cons] at hu
                obtain ⟨env', k1, k2⟩ := putF_ok happ hk hu
                unfold Oper.wp
                rw [r1, Oper.upon_value, hd]
                exact hn _ _ _ _ _ k1 k2
    | mget ky l z ok =>
      obtain ⟨f, hf, hk⟩ := ares
      obtain ⟨u, h1, h2⟩ := hok f hf
      obtain ⟨env', k1, k2⟩ := putF_ok h hk h2
      unfold Oper.wp
      rw [h1, Oper.upon_value]
      exact hn _ _ _ _ _ k1 k2
    | mput id ky x l =>
      obtain ⟨f, hf, l', rfl, hk⟩ := ares
      exact writes hk hok.1 (hok.2 f hf)
    | mdel id ky l =>
      obtain ⟨f, hf, l', rfl, hk⟩ := ares
      exact writes hk hok.1 (hok.2 f hf)
    | mkv t cells c =>
      obtain ⟨hc, hk⟩ := ares
      obtain ⟨tf, hdf, hfr, hk⟩ := chkV_ok hk
      exact makes hk fun d hd _ => hok hc d (by obtain rfl : tf = d := Option.some.inj (hdf.symm.trans hd); exact hfr)
theorem frzK_ok {k : Env → Heap → Prop} : ∀ {l : List (Nat × Operand)} {env : Env} {heap : Heap}, frzK k l env heap → Rel C L (lk env) (lko heap) a w → ∃ env' heap', k env' heap' ∧ Rel C L (lk env') (lko heap') a w
  | [], env, heap, hk, h => ⟨env, heap, hk, h⟩
  | (_, .const _) :: r, env, heap, hk, h => frzK_ok (l := r) hk h
  | (_, .func _) :: r, env, heap, hk, h => frzK_ok (l := r) hk h
  | (_, .global _) :: r, env, heap, hk, h => frzK_ok (l := r) hk h
  | (_, .tmp t) :: r, env, heap, hk, h => by
    unfold frzK at hk
    split at hk
    · rename_i id sz o n e
      have hsub : ∀ i o, lko (dropH [id] heap) i = some o → lko heap i = some o := by
        intro i o e
        have e : lookO i (dropH [id] heap) = some o := e
        rw [lookO_dropH] at e
        exact (dropped_some e).1
      have hd := h.drop hsub
      obtain ⟨y, h1, h2, h3⟩ := viewK_ok (gd := good C L (lko (dropH [id] heap)) w) (gd' := good C L (lko (dropH [id] heap)) w) L (fun i ob e => by
          refine (h.obj i ob (restrictH_some e)).mono (Nat.le_refl _) (fun b _ hb => ⟨⟨hb.1, hb.2.1, fun ⟨i, o, h1, h2⟩ => hb.2.2 ⟨i, o, hsub i o h1, h2⟩⟩, rfl⟩) (fun _ _ => rfl) (fun b _ hb => ⟨hb, rfl⟩) (fun _ => true) (fun _ _ => ⟨rfl, rfl⟩) rfl (fun _ h => by cases h)) (fun b hb => hb) (fun i ob b h1 h2 => by
          have h1' := restrictH_some h1
          have h3 := h.own0 i ob b h1' h2
          refine ⟨⟨h3.2, .inr h3.1, fun ⟨j, o, k1, k2⟩ => ?_⟩, h3.2⟩
          have hi := h.inj j i o ob b (hsub j o k1) h1' k2 h2
          subst hi
          have k1 : lookO j (dropH [id] heap) = some o := k1
          rw [lookO_dropH] at k1
          unfold restrictH at h1
          cases hm : memN j [id] with
          | true => rw [hm] at k1; simp at k1
          | false => rw [hm] at h1; cases h1) _ _ _ hk (by
            have := hd.slot t
            rw [show lk env t = .rsl id sz o n from e] at this
            exact this)
      have hk2 := forceH_eq h1
      refine frzK_ok (l := r) hk2 ?_
      rw [lk_cons]
      exact { hd with
        slot := fun s => by
          unfold gput
          split
          · rename_i e; subst e; exact h3
          · exact hd.slot s }
    · exact frzK_ok (l := r) hk h
theorem frzB_ok {k : Env → Heap → Prop} {s : Nat} {env : Env} {heap : Heap} (hk : frzB k s env heap) (h : Rel C L (lk env) (lko heap) a w) : ∃ env' heap', k env' heap' ∧ Rel C L (lk env') (lko heap') a w := by
  unfold frzB at hk
  split at hk
  · rename_i id e
    have hsub : ∀ i o, lko (dropH [id] heap) i = some o → lko heap i = some o := by
      intro i o e
      have e : lookO i (dropH [id] heap) = some o := e
      rw [lookO_dropH] at e
      exact (dropped_some e).1
    have hd := h.drop hsub
    obtain ⟨y, h1, h2, h3⟩ := viewK_ok (gd := good C L (lko (dropH [id] heap)) w) (gd' := good C L (lko (dropH [id] heap)) w) L (fun i ob e => by
        refine (h.obj i ob (restrictH_some e)).mono (Nat.le_refl _) (fun b _ hb => ⟨⟨hb.1, hb.2.1, fun ⟨i, o, h1, h2⟩ => hb.2.2 ⟨i, o, hsub i o h1, h2⟩⟩, rfl⟩) (fun _ _ => rfl) (fun b _ hb => ⟨hb, rfl⟩) (fun _ => true) (fun _ _ => ⟨rfl, rfl⟩) rfl (fun _ h => by cases h)) (fun b hb => hb) (fun i ob b h1 h2 => by
        have h1' := restrictH_some h1
        have h3 := h.own0 i ob b h1' h2
        refine ⟨⟨h3.2, .inr h3.1, fun ⟨j, o, k1, k2⟩ => ?_⟩, h3.2⟩
        have hi := h.inj j i o ob b (hsub j o k1) h1' k2 h2
        subst hi
        have k1 : lookO j (dropH [id] heap) = some o := k1
        rw [lookO_dropH] at k1
        unfold restrictH at h1
        cases hm : memN j [id] with
        | true => rw [hm] at k1; simp at k1
        | false => rw [hm] at h1; cases h1) _ _ _ hk (by
          have := hd.slot s
          rw [show lk env s = .ptr id 0 from e] at this
          exact this)
    have hk2 := forceH_eq h1
    refine ⟨_, _, hk2, ?_⟩
    rw [lk_cons]
    exact { hd with
      slot := fun s' => by
        unfold gput
        split
        · rename_i e; subst e; exact h3
        · exact hd.slot s' }
  · exact hk.elim
theorem AStep_ok (hT : TysOk C.P T) {o : Oper} {k : Env → Heap → Prop} (h : Rel C L (lk env) (lko heap) a w) (hk : AStep C.P T C.nt o env heap k) {next : Act → World → Prop} {Q : Exit → Act → World → Prop}
    (hn : ∀ L env heap a w, k env heap → Rel C L (lk env) (lko heap) a w → next a w) : o.wp C.P a w next Q := by
  unfold AStep at hk
  split at hk
  · rename_i f as ts hop
    have hf := h.holds.opnd f
    generalize hfv : a.eval f = fv at hf
    split at hk
    · split at hk
      · rename_i fid caps e
        have e' : opnd (lk env) f = .fn fid caps := e
        rw [e'] at hf
        obtain ⟨l, p, hk, hlen, _, hargs⟩ := lendK_st hk
        have hk := forceH_eq hk
        have hsub : ∀ i o, lko (dropH p heap) i = some o → lko heap i = some o := by
          intro i o e
          have e : lookO i (dropH p heap) = some o := e
          rw [lookO_dropH] at e
          exact (dropped_some e).1
        have hd := h.drop hsub
        have hlko : lko (dropH p heap) = fun j => if memN j p = true then none else lko heap j := by
          funext j
          show lookO j (dropH p heap) = _
          rw [lookO_dropH]
        cases hf with
        | @fn _ _ _ cvs hcz hcr =>
          have hlen' : l.length = as.size := by rw [hlen]; simp
          obtain ⟨⟨fn, c, e1, e2, e3⟩, hcalls⟩ := ALend_ok hd hk (vs := as.map a.eval ++ cvs) (by rw [Array.size_append, List.length_append, capsN_len, Array.size_map]; omega) (fun i y hy => by
            by_cases hi : i < l.length
            · rw [List.getElem?_append_left hi] at hy
              have hi' : i < as.size := by omega
              have hx : (as.toList.map (opnd fun t => look t env))[i]? = some (opnd (lk env) as[i]) := by simp [hi']
              have := hargs C L (lk env) (lko heap) a w h (fun _ _ h => h) i _ y (a.eval as[i]) hx hy (h.holds.opnd _)
              rw [hlko]
              rw [Array.getD_eq_getD_getElem?, Array.getElem?_append_left (by simpa using hi'), Array.getElem?_map, Array.getElem?_eq_getElem hi']
              exact this
            · rw [List.getElem?_append_right (by omega)] at hy
              obtain ⟨x, hx, hr⟩ := capsN_get hy
              have := hr w L _ (good C L (lko (dropH p heap)) w) _ (hcr _ x hx)
              rw [Array.getD_eq_getD_getElem?, Array.getElem?_append_right (by simp; omega)]
              rw [Array.getD_eq_getD_getElem?, hlen'] at this
              simpa using this)
          have hname : fn.name ≠ "runtime.NumGoroutine" := by simpa using e2
          have hrun : (execOp a.eval o).run C.P w = .ok (.enter fid (as.map a.eval ++ cvs)) w := by
            simp [execOp, hop, resolve, hfv, Deferred.ofValue, invoke, callFunc, e1, hname, e3]
          unfold Oper.wp
          rw [hrun, Oper.upon_enter]
          refine hcalls.mono ?_
          rintro e' w' ⟨v, rfl, L', env', heap', k1, k2⟩
          exact hn _ _ _ _ _ k1 k2
      · exact hk.elim
    split at hk
    · split at hk
      · rename_i fid e
        have e' : opnd (lk env) f = .fn fid [] := e
        rw [e'] at hf
        generalize hids : rowsOf (fun t => look t env) as.toList = ids at hk
        have hsub : ∀ i o, lko (dropH ids heap) i = some o → lko heap i = some o := by
          intro i o e
          have e : lookO i (dropH ids heap) = some o := e
          rw [lookO_dropH] at e
          split at e
          · cases e
          · exact e
        have hd := h.drop hsub
        obtain ⟨l, ⟨post, ⟨⟨fn, c, e1, e2, e3⟩, hcalls⟩, hpost⟩, hl, hargs⟩ := pubK_ok (gd := good C L (lko (dropH ids heap)) w) (a := a) (g := lk env) (h := restrictH ids (lko heap)) (w := w) (L := L) hd.holds.opnd (fun id ob e => by
          refine (h.obj id ob (restrictH_some e)).mono (Nat.le_refl _) (fun b _ hb => ⟨⟨hb.1, hb.2.1, fun ⟨i, o, h1, h2⟩ => hb.2.2 ⟨i, o, hsub i o h1, h2⟩⟩, rfl⟩) (fun _ _ => rfl) (fun b _ hb => ⟨hb, rfl⟩) (fun _ => true) (fun _ _ => ⟨rfl, rfl⟩) rfl (fun _ h => by cases h)) (fun id ob b h1 h2 => by
          have h1' := restrictH_some h1
          have h3 := h.own0 id ob b h1' h2
          refine ⟨⟨h3.2, .inr h3.1, fun ⟨i, o, k1, k2⟩ => ?_⟩, h3.2⟩
          have hi := h.inj i id o ob b (hsub i o k1) h1' k2 h2
          subst hi
          have k1 : lookO i (dropH ids heap) = some o := k1
          rw [lookO_dropH] at k1
          unfold restrictH at h1
          cases hm : memN i ids with
          | true => rw [hm] at k1; simp at k1
          | false => rw [hm] at h1; cases h1) hk
        cases hf with
        | @fn _ _ _ cvs hcz hcr =>
          have hcv : cvs = #[] := by simpa using hcz
          subst hcv
          have hname : fn.name ≠ "runtime.NumGoroutine" := by simpa using e2
          have hrun : (execOp a.eval o).run C.P w = .ok (.enter fid (as.map a.eval ++ #[])) w := by
            simp [execOp, hop, resolve, hfv, Deferred.ofValue, invoke, callFunc, e1, hname, e3]
          unfold Oper.wp
          rw [hrun, Oper.upon_enter]
          refine (hcalls w (good C L (lko (dropH ids heap)) w) (as.map a.eval ++ #[]) hd.goodW (fun b hb => hb.1) (by simp [hl]) (fun i x hx => by
            have := hargs i x hx
            simpa [Array.getD_eq_getD_getElem?, List.getD_eq_getElem?_getD] using this)).mono ?_
          rintro e' w' ⟨v, r, rfl, hr, hbel, hrep⟩
          obtain ⟨L', env', heap', k1, k2⟩ := putR_ok hd hbel (hpost r hr) hrep
          exact hn _ _ _ _ _ k1 k2
      · exact hk.elim
    split at hk
    · rename_i fid caps e
      have e' : opnd (lk env) f = .fn fid caps := e
      rw [e'] at hf
      cases hf with
      | @fn _ _ _ cvs hcz hcr =>
        obtain ⟨l, b, hk, hl, hargs⟩ := argK_ok h.holds (fun b hb => hb.1) (fun b hb => h.old_lt hb) (fun id o b h1 h2 => (h.own0 id o b h1 h2).2) hcz hcr hk
        unfold ACall at hk
        obtain ⟨post, ⟨⟨fn, c, e1, e2, e3⟩, hcalls⟩, hpost⟩ := hk
        have hname : fn.name ≠ "runtime.NumGoroutine" := by simpa using e2
        have hrun : (execOp a.eval o).run C.P w = .ok (.enter fid (as.map a.eval ++ cvs)) w := by
          simp [execOp, hop, resolve, hfv, Deferred.ofValue, invoke, callFunc, e1, hname, e3]
        unfold Oper.wp
        rw [hrun, Oper.upon_enter]
        have hR : ∀ b', seen (good C L (lko heap) w) w b b' → b' < w.heap.size := by
          intro b' hb'
          cases b with
          | true => exact hb'.1
          | false => exact hb'
        refine (hcalls w (seen (good C L (lko heap) w) w b) (as.map a.eval ++ cvs) (h.goodW.seen b) hR (by simp [hl]) (fun i x hx => by
          have := hargs b id i x hx
          simpa [Array.getD_eq_getD_getElem?, List.getD_eq_getElem?_getD, Array.getElem?_append, List.getElem?_append] using this)).mono ?_
        rintro e' w' ⟨v, r, rfl, hr, hbel, hrep⟩
        obtain ⟨L', env', heap', k1, k2⟩ := putR_ok h hbel (hpost r hr) hrep
        exact hn _ _ _ _ _ k1 k2
    · rename_i fid n ds e
      have e' : opnd (lk env) f = .d (.cl fid n ds) := e
      rw [e'] at hf
      cases hf with
      | d hcl =>
        obtain ⟨l, b, hk, hl, hargs⟩ := argK_ok h.holds (fun b hb => hb.1) (fun b hb => h.old_lt hb) (fun id o b h1 h2 => (h.own0 id o b h1 h2).2) (caps := []) (cvs := #[]) rfl (fun i x hx => by simp at hx) hk
        unfold ACall at hk
        obtain ⟨post, ⟨⟨fn, c, e1, e2, e3⟩, hcalls⟩, hpost⟩ := hk
        have hname : fn.name ≠ "runtime.NumGoroutine" := by simpa using e2
        obtain ⟨cvs, rfl, hcz, hall⟩ := cl_args hcl (l := l) (xs := as.map a.eval) (gd'' := seen (good C L (lko heap) w) w b) (by simpa using hl) (fun b' hb' => by
          cases b with
          | true => exact hb'
          | false => exact hb'.1) (fun i x hx => by
          have := hargs b id i x hx
          simpa [Array.getD_eq_getD_getElem?, List.getD_eq_getElem?_getD] using this)
        have hrun : (execOp a.eval o).run C.P w = .ok (.enter fid (as.map a.eval ++ cvs)) w := by
          simp [execOp, hop, resolve, hfv, Deferred.ofValue, invoke, callFunc, e1, hname, e3]
        unfold Oper.wp
        rw [hrun, Oper.upon_enter]
        have hR : ∀ b', seen (good C L (lko heap) w) w b b' → b' < w.heap.size := by
          intro b' hb'
          cases b with
          | true => exact hb'.1
          | false => exact hb'
        refine (hcalls w (seen (good C L (lko heap) w) w b) (as.map a.eval ++ cvs) (h.goodW.seen b) hR (by simp [hl, hcz, (capsF_get n 0 ds).1]) hall).mono ?_
        rintro e' w' ⟨v, r, rfl, hr, hbel, hrep⟩
        obtain ⟨L', env', heap', k1, k2⟩ := putR_ok h hbel (hpost r hr) hrep
        exact hn _ _ _ _ _ k1 k2
    · exact hk.elim
  · rename_i src dst x hop
    split at hk
    · rename_i l e
      obtain ⟨hl, hk⟩ := hk
      obtain ⟨e1, e2, e, e3, e4⟩ := convS_some hT e
      have e1 : opnd (lk env) x = .d (.s l) := e1
      have hx : a.eval x = .string ⟨l.toArray⟩ := repA_s (e1 ▸ h.holds.opnd x)
      split at hk
      · obtain ⟨v, w', cap, r1, r2, r3, r4⟩ := conv_row (P := C.P) w l e2 e3 e4 hl
        obtain ⟨L', env', heap', k1, k2⟩ := newK_ok h hk r2 (nb := some w.heap.size) (nc := cap) (u := v) (fun b hb => by cases hb; exact ⟨Nat.le_refl _, r3⟩) fun t _ => r4 L t _
        unfold Oper.wp
        rw [show (execOp a.eval o).run C.P w = .ok (.value v) w' from by simp [execOp, hop, hx, r1, Result.andThen], Oper.upon_value]
        exact hn _ _ _ _ _ k1 k2
      obtain ⟨v, w', r1, r2, r3⟩ := conv_bytes (P := C.P) w (seen (good C L (lko heap) w) w true) l e2 e3 e4 hl
      obtain ⟨L', env', heap', k1, k2⟩ := putR_ok (exact_ := true) h r2 hk ⟨rfl, r3⟩
      unfold Oper.wp
      rw [show (execOp a.eval o).run C.P w = .ok (.value v) w' from by simp [execOp, hop, hx, r1, Result.andThen], Oper.upon_value]
      exact hn _ _ _ _ _ k1 k2
    · exact ARes_ok hT h (by rw [hop]; exact hk) hn
  · rename_i ty n els hop
    obtain ⟨env', heap', k1, k2⟩ := frzK_ok hk h
    exact ARes_ok hT k2 (by rw [hop]; exact k1) hn
  · exact ARes_ok hT h hk hn
end
section
variable {C : Ctx} {T : Tys} {L : Lay} {env : Env} {heap : Heap} {a : Act} {w : World}
theorem AOps_ok (hT : TysOk C.P T) {ops : Array Oper} {K : Env → Heap → Prop} {Q : Exit → Act → World → Prop} (hn : ∀ L env heap a w, K env heap → Rel C L (lk env) (lko heap) a w → Q .normal a w) :
    ∀ (l : List Oper) (L : Lay) (env : Env) (heap : Heap) (a : Act) (w : World), AOps C.P T C.nt ops K l env heap → Rel C L (lk env) (lko heap) a w → wpList C.P ops Q l a w
  | [], L, env, heap, a, w, h, hr => hn L env heap a w h hr
  | o :: r, L, env, heap, a, w, h, hr => by
    have step : ∀ env, AStep C.P T C.nt o env heap (AOps C.P T C.nt ops K r) → Rel C L (lk env) (lko heap) a w → o.wp C.P a w (wpList C.P ops Q r) Q := fun env h hr =>
      AStep_ok hT hr h fun L env heap a w hk hr => AOps_ok hT hn r L env heap a w hk hr
    have skip : ∀ env, putF C.nt o.dst (.tup []) env heap (AOps C.P T C.nt ops K r) → Rel C L (lk env) (lko heap) a w → wpList C.P ops Q r (a.put o.dst undef) w := fun env h hr => by
      obtain ⟨env', k1, k2⟩ := putF_ok hr h (.tup (vs := #[]) rfl fun i x hx => by simp at hx)
      exact AOps_ok hT hn r L env' heap _ w k1 k2
    unfold AOps at h
    unfold wpList
    cases hg : o.guard with
    | none =>
      rw [hg] at h
      rw [if_pos (by simp [Region.wanted, hg])]
      exact .inl (step env h hr)
    | some jw =>
      obtain ⟨j, want⟩ := jw
      rw [hg] at h
      simp only at h
      cases ht : gtmp ops j with
      | none => rw [ht] at h; exact h.elim
      | some t =>
        rw [ht] at h
        simp only at h
        have hslot : RepA w L (good C L (lko heap) w) (look t env) (a.tmps.getD t undef) := hr.slot t
        split at h
        · rename_i x e
          rw [e] at hslot
          have hb := repA_b hslot
          have hlt : t < a.tmps.size := by
            rcases Nat.lt_or_ge t a.tmps.size with h1 | h1
            · exact h1
            · rw [Array.getD_eq_getD_getElem?, Array.getElem?_eq_none h1] at hb; cases hb
          have hy : yielded ops a.tmps j = some x := by
            unfold yielded
            have : (ops[j]?).bind (·.dst) = some t := ht
            rw [this]
            rw [Array.getD_eq_getD_getElem?, Array.getElem?_eq_getElem hlt] at hb
            simp only [Option.bind_some, Array.getElem?_eq_getElem hlt]
            simp only [Option.getD_some] at hb
            rw [hb]
          have hr' : ∀ b, x = b → Rel C L (lk ((t, .d (.b b)) :: env)) (lko heap) a w := fun b hxb => {
            below := hr.below
            top := hr.top
            size := hr.size
            defers := hr.defers
            slot := fun s => by
              rw [lk_cons]
              unfold gput
              split
              · rename_i hs; rw [hs, hb, ← hxb]; exact .d (.b _)
              · exact hr.slot s
            obj := hr.obj
            inj := hr.inj
            own0 := hr.own0
            kept := hr.kept
            lidn := hr.lidn }
          have hwant : Region.wanted o (yielded ops a.tmps) = (x == want) := by simp [Region.wanted, hg, hy]
          rw [hwant]
          cases x <;> cases want <;> simp only at h
          · rw [if_pos (by decide)]; exact .inl (step _ h (hr' _ rfl))
          · rw [if_neg (by decide)]; exact skip _ h (hr' _ rfl)
          · rw [if_neg (by decide)]; exact skip _ h (hr' _ rfl)
          · rw [if_pos (by decide)]; exact .inl (step _ h (hr' _ rfl))
        · rename_i e
          rw [e] at hslot
          rw [if_neg]
          · exact skip _ h hr
          · have hb : a.tmps.getD t undef = undef := repA_tup0 hslot
            simp [Region.wanted, hg, yielded_undef ht hb]
        · exact h.elim
/-- Code, run from where env and heap hold, ends as Q says. -/
def AWp (C : Ctx) (c : Code) (Q : Exit → Env → Heap → Prop) (env : Env) (heap : Heap) : Prop :=
  ∀ L a w, Rel C L (lk env) (lko heap) a w → c.wp C.P (fun e a' w' => ∃ L' env' heap', Rel C L' (lk env') (lko heap') a' w' ∧ Q e env' heap') a w
section
variable {Q Q' : Exit → Env → Heap → Prop} {x y : Code}
theorem AWp.mono (h : AWp C x Q env heap) (hq : ∀ e env heap, Q e env heap → Q' e env heap) : AWp C x Q' env heap :=
  fun L a w hr => wp_mono (h L a w hr) fun e a w ⟨L', env', heap', h1, h2⟩ => ⟨L', env', heap', h1, hq _ _ _ h2⟩
theorem AWp.region (hT : TysOk C.P T) {id : Nat} {ops : Array Oper} (h : AOps C.P T C.nt ops (Q .normal) ops.toList env heap) : AWp C (.region id ops false) Q env heap :=
  fun L a w hr => wp_region_list (AOps_ok hT (fun L env heap a w hk hr => ⟨L, env, heap, hr, hk⟩) _ L env heap a w h hr)
theorem AWp.seq (h : AWp C x (fun e env heap => match e with | .normal => AWp C y Q env heap | e => Q e env heap) env heap) : AWp C (.seq x y) Q env heap :=
  fun L a w hr => wp_seq (wp_mono (h L a w hr) fun e a' w' ⟨L', env', heap', h1, h2⟩ => by
    cases e with
    | normal => exact h2 L' a' w' h1
    | _ => exact ⟨L', env', heap', h1, h2⟩)
theorem AWp.skip (h : Q .normal env heap) : AWp C .skip Q env heap := fun L a w hr => wp_skip ⟨L, env, heap, hr, h⟩
theorem AWp.exit {id : Nat} (h : Q (.exit id) env heap) : AWp C (.exit id) Q env heap := fun L a w hr => wp_exit ⟨L, env, heap, hr, h⟩
theorem AWp.ret (h : Q .ret env heap) : AWp C .ret Q env heap := fun L a w hr => wp_ret ⟨L, env, heap, hr, h⟩
theorem AWp.block {id : Nat} (h : AWp C x (fun e env heap => match e with | .exit i => (match Nat.beq i id with | true => Q .normal env heap | false => Q (.exit i) env heap) | e => Q e env heap) env heap) : AWp C (.block id x) Q env heap :=
  fun L a w hr => wp_block (wp_mono (h L a w hr) fun e a' w' ⟨L', env', heap', h1, h2⟩ => by
    cases e with
    | exit i =>
      simp only [Exit.inBlock]
      by_cases hi : i = id
      · subst hi
        rw [if_pos rfl]
        simp only [beq_self] at h2
        exact ⟨L', env', heap', h1, h2⟩
      · rw [if_neg hi]
        simp only [beq_false hi] at h2
        exact ⟨L', env', heap', h1, h2⟩
    | _ => exact ⟨L', env', heap', h1, h2⟩)
theorem AWp.cond {c : Operand} {b : Bool} (hc : opnd (fun t => look t env) c = .d (.b b)) (h1 : b = true → AWp C x Q env heap) (h0 : b = false → AWp C y Q env heap) : AWp C (.cond c x y) Q env heap :=
  fun L a w hr => by
    have hv := repA_b (hc ▸ hr.holds.opnd c)
    exact wp_cond_split hv (fun e => h1 e L a w hr) (fun e => h0 e L a w hr)
/-- What one map says, the other one says too. -/
def MLe : List (D × AVal) → List (D × AVal) → Prop
  | [], [] => True
  | x :: r, y :: s => (x.1 = y.1 ∧ x.2.le y.2) ∧ MLe r s
  | _, _ => False
/-- What one object says, the other one says too. -/
def OLe : AObj → AObj → Prop
  | .box l a, .box m b => match b with | none => CLe l m | some t => CLe l m ∧ a = some t
  | .row t sz n f, .row t' sz' n' f' => t = t' ∧ sz = sz' ∧ n = n' ∧ ∀ k, k < n → f k = f' k
  | .mp l, .mp m => MLe l m
  | .vrow t l, .vrow t' m => t = t' ∧ CLe l m
  | .dmp l, .dmp m => l = m
  | _, _ => False
where CLe : List AVal → List AVal → Prop
  | [], [] => True
  | x :: r, y :: s => x.le y ∧ CLe r s
  | _, _ => False
theorem MLe_get : ∀ {l m : List (D × AVal)}, MLe l m → m.length = l.length ∧ ∀ (i : Nat) (y : D × AVal), m[i]? = some y → ∃ x, l[i]? = some x ∧ x.1 = y.1 ∧ x.2.le y.2
  | [], [], _ => ⟨rfl, fun i y h => by simp at h⟩
  | x :: r, y :: s, h => by
    obtain ⟨h1, h2⟩ := MLe_get h.2
    refine ⟨by simp [h1], fun i z hz => ?_⟩
    cases i with
    | zero => simp only [List.getElem?_cons_zero, Option.some.injEq] at hz; subst hz; exact ⟨x, rfl, h.1⟩
    | succ i => simp only [List.getElem?_cons_succ] at hz ⊢; exact h2 i z hz
  | [], _ :: _, h => h.elim
  | _ :: _, [], h => h.elim
theorem MLe_refl : ∀ l : List (D × AVal), MLe l l
  | [] => trivial
  | x :: r => ⟨⟨rfl, .refl x.2⟩, MLe_refl r⟩
theorem CLe_get : ∀ {l m : List AVal}, OLe.CLe l m → m.length = l.length ∧ ∀ (i : Nat) (y : AVal), m[i]? = some y → ∃ x, l[i]? = some x ∧ x.le y
  | [], [], _ => ⟨rfl, fun i y h => by simp at h⟩
  | x :: r, y :: s, h => by
    obtain ⟨h1, h2⟩ := CLe_get h.2
    refine ⟨by simp [h1], fun i z hz => ?_⟩
    cases i with
    | zero => simp only [List.getElem?_cons_zero, Option.some.injEq] at hz; subst hz; exact ⟨x, rfl, h.1⟩
    | succ i => simp only [List.getElem?_cons_succ] at hz ⊢; exact h2 i z hz
  | [], _ :: _, h => h.elim
  | _ :: _, [], h => h.elim
theorem RepO.weaken {gd : Nat → Prop} {id : Nat} {o o' : AObj} (h : RepO w gd L id o) (hl : OLe o o') : RepO w gd L id o' := by
  cases h with
  | @box cells tag cs t b htag hb hh hz h1 hr =>
    cases o' with
    | row => exact hl.elim
    | mp => exact hl.elim
    | vrow => exact hl.elim
    | dmp => exact hl.elim
    | box m tag' =>
      have hl' : OLe.CLe cells m ∧ ∀ t', tag' = some t' → t = t' := by
        cases tag' with
        | none => exact ⟨hl, fun _ h => by cases h⟩
        | some t' => exact ⟨hl.1, fun q hq => by cases hq; exact htag _ hl.2⟩
      obtain ⟨hl, ht⟩ := hl'
      obtain ⟨k1, k2⟩ := CLe_get hl
      exact .box ht hb hh (by omega) (fun i hi => h1 i (by omega)) fun i y hy => by
        obtain ⟨x, hx, hle⟩ := k2 i y hy
        exact hle.out _ _ _ _ (hr i x hx)
  | mp hb hh hz hk h1 hr =>
    cases o' with
    | row => exact hl.elim
    | box => exact hl.elim
    | vrow => exact hl.elim
    | dmp => exact hl.elim
    | mp m =>
      obtain ⟨k1, k2⟩ := MLe_get hl
      refine .mp hb hh (by omega) (fun i y e hy he => ?_) h1 fun i y e hy he => ?_
      all_goals obtain ⟨x, hx, h0, hle⟩ := k2 i y hy
      · rw [← h0]; exact hk i x e hx he
      · exact hle.out _ _ _ _ (hr i x e hx he)
  | @vrow0 t hb hc =>
    cases o' with
    | row => exact hl.elim
    | box => exact hl.elim
    | mp => exact hl.elim
    | dmp => exact hl.elim
    | vrow t' m =>
      obtain ⟨rfl, hl⟩ := hl
      obtain ⟨k1, _⟩ := CLe_get hl
      obtain rfl : m = [] := by cases m with | nil => rfl | cons _ _ => simp at k1
      exact .vrow0 hb hc
  | @vrow t cells cs b hb hh hn hm hz h1 hr =>
    cases o' with
    | row => exact hl.elim
    | box => exact hl.elim
    | mp => exact hl.elim
    | dmp => exact hl.elim
    | vrow t' m =>
      obtain ⟨rfl, hl⟩ := hl
      obtain ⟨k1, k2⟩ := CLe_get hl
      exact .vrow hb hh (by omega) hm hz (fun i hi => h1 i (by omega)) fun i y hy => by
        obtain ⟨x, hx, hle⟩ := k2 i y hy
        exact hle.out _ _ _ _ (hr i x hx)
  | @dmp l es clock b hb hh hz hk hr =>
    cases o' with
    | row => exact hl.elim
    | box => exact hl.elim
    | mp => exact hl.elim
    | vrow => exact hl.elim
    | dmp m =>
      obtain rfl : l = m := hl
      exact .dmp hb hh hz hk hr
  | @row0 t sz f hb hc =>
    cases o' with
    | box => exact hl.elim
    | mp => exact hl.elim
    | vrow => exact hl.elim
    | dmp => exact hl.elim
    | row t' sz' n' f' =>
      obtain ⟨rfl, rfl, rfl, _⟩ := hl
      exact .row0 hb hc
  | @row t sz n f cs b t2 mk hb hh hn hm hz hf hr hty hmk hcap0 =>
    cases o' with
    | box => exact hl.elim
    | mp => exact hl.elim
    | vrow => exact hl.elim
    | dmp => exact hl.elim
    | row t' sz' n' f' =>
      obtain ⟨rfl, rfl, rfl, hff⟩ := hl
      exact .row hb hh hn hm hz (fun k hk => by rw [← hff k hk]; exact hf k hk) (fun k hk j x hx => hr k hk j x (by rw [hff k hk]; exact hx)) hty hmk hcap0
theorem OLe.box_refl : ∀ l : List AVal, OLe.CLe l l
  | [] => trivial
  | x :: r => ⟨.refl x, OLe.box_refl r⟩
theorem OLe.refl (o : AObj) : OLe o o := by
  cases o with
  | box l tag =>
    cases tag with
    | none => exact OLe.box_refl l
    | some t => exact ⟨OLe.box_refl l, rfl⟩
  | row t sz n f => exact ⟨rfl, rfl, rfl, fun _ _ => rfl⟩
  | mp l => exact MLe_refl l
  | vrow t l => exact ⟨rfl, OLe.box_refl l⟩
  | dmp l => rfl
/-- env and heap say no more than env' and heap' do. -/
def Covers (env' : Env) (heap' : Heap) (env : Env) (heap : Heap) : Prop :=
  (∀ t, (look t env').le (look t env)) ∧ ∀ id o, lookO id heap = some o → ∃ o', lookO id heap' = some o' ∧ OLe o' o
theorem Rel.weaken {env' : Env} {heap' : Heap} (h : Rel C L (lk env') (lko heap') a w) (hc : Covers env' heap' env heap) : Rel C L (lk env) (lko heap) a w := by
  have hg : ∀ b, b < w.heap.size → good C L (lko heap') w b → good C L (lko heap) w b ∧ w.heap[b]? = w.heap[b]? := fun b _ hb => ⟨⟨hb.1, hb.2.1, fun ⟨id, o, h1, h2⟩ => by
    obtain ⟨o', e1, _⟩ := hc.2 id o h1
    exact hb.2.2 ⟨id, o', e1, h2⟩⟩, rfl⟩
  exact {
    below := h.below
    top := h.top
    size := h.size
    defers := h.defers
    slot := fun t => ((hc.1 t).out _ _ _ _ (h.slot t)).mono1 (Nat.le_refl _) hg (fun _ _ => rfl)
    obj := fun id o ho => by
      obtain ⟨o', e1, e2⟩ := hc.2 id o ho
      exact ((h.obj id o' e1).weaken e2).mono (Nat.le_refl _) hg (fun _ _ => rfl) (fun b _ hb => ⟨hb, rfl⟩) (fun _ => true) (fun _ _ => ⟨rfl, rfl⟩) rfl (fun _ h => by cases h)
    inj := fun i j oi oj b h1 h2 => by
      obtain ⟨o1, e1, _⟩ := hc.2 i oi h1
      obtain ⟨o2, e2, _⟩ := hc.2 j oj h2
      exact h.inj i j o1 o2 b e1 e2
    own0 := fun id o b h1 => by
      obtain ⟨o1, e1, _⟩ := hc.2 id o h1
      exact h.own0 id o1 b e1
    kept := fun id o hl h1 => by
      obtain ⟨o1, e1, _⟩ := hc.2 id o h1
      exact h.kept id o1 hl e1
    lidn := h.lidn }
theorem AWp.weaken {env' : Env} {heap' : Heap} (hc : Covers env' heap' env heap) (h : AWp C x Q env heap) : AWp C x Q env' heap' := fun L a w hr => h L a w (hr.weaken hc)
end
end
end Towline
