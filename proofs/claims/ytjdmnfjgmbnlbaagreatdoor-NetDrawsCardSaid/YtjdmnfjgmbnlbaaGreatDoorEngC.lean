/- The engine, part three: a single operation does what its plain form says. Over any program. -/
import Derived.Test.YtjdmnfjgmbnlbaaGreatDoorEngB
namespace Towline
open Go Go.RowKit
set_option linter.unusedVariables false

/-- Slots and objects are held. -/
structure Holds (w : World) (gd : Nat → Prop) (L : Lay) (g : Nat → AVal) (h : Nat → Option AObj) (a : Act) : Prop where
  slot : ∀ t, RepA w L gd (g t) (a.tmps.getD t undef)
  obj : ∀ id o, h id = some o → RepO w gd L id o
  glob : GoodW w gd
section
variable {P : Program} {T : Tys} {w : World} {gd : Nat → Prop} {L : Lay} {g : Nat → AVal} {h : Nat → Option AObj} {a : Act}
theorem Holds.opnd (H : Holds w gd L g h a) (x : Operand) : RepA w L gd (opnd g x) (a.eval x) := by
  cases x with
  | tmp t => exact H.slot t
  | const v => exact aconst_rep w gd L v
  | global n => exact H.glob.rep L n
  | func f => exact .fn rfl (fun i x hx => by simp at hx)
/-- An operation makes an object, and the value v. -/
def MakesOk (P : Program) (w : World) (gd : Nat → Prop) (L : Lay) (a : Act) (o : Oper) (d : Nat) (v : AVal) (ob : AObj) : Prop :=
  ∃ w' nb nc u, (execOp a.eval o).run P w = .ok (.value u) w' ∧ Below w.heap.size w w' ∧ (∀ b, nb = some b → w.heap.size ≤ b ∧ b < w'.heap.size) ∧
    ∀ gd', Stays w w' gd gd' → (∀ b, w.heap.size ≤ b → b < w'.heap.size → nb ≠ some b → gd' b) → RepO w' gd' (L.upd d nb nc) d ob ∧ RepA w' (L.upd d nb nc) gd' v u
/-- An operation writes an object. -/
def WritesOk (P : Program) (w : World) (gd : Nat → Prop) (L : Lay) (a : Act) (o : Oper) (id : Nat) (ob : AObj) : Prop :=
  ∃ b w', L.blk id = some b ∧ ((execOp a.eval o).run P w = .ok .skip w' ∨ ∃ u, (execOp a.eval o).run P w = .ok (.value u) w') ∧ w'.os = w.os ∧ w'.tape = w.tape ∧ w'.output = w.output ∧ w'.heap.size = w.heap.size ∧ (∀ b', b' ≠ b → w'.heap[b']? = w.heap[b']?) ∧
    ∀ gd', Stays w w' gd gd' → (∀ b, L.old b → w'.heap[b]? = w.heap[b]?) → RepO w' gd' L id ob
/-- An operation puts more behind a row. -/
def MovesOk (P : Program) (w : World) (gd : Nat → Prop) (L : Lay) (a : Act) (o : Oper) (old : Nat) (t : TypeId) (sz n : Nat) (f : Nat → List D) : Prop :=
  ∃ w' nb nc u, (execOp a.eval o).run P w = .ok (.value u) w' ∧ w'.os = w.os ∧ w'.tape = w.tape ∧ w'.output = w.output ∧ w.heap.size ≤ w'.heap.size ∧ (∀ b, b < w.heap.size → some b ≠ L.blk old → w'.heap[b]? = w.heap[b]?) ∧
    (∀ b, nb = some b → b < w'.heap.size ∧ (some b = L.blk old ∨ w.heap.size ≤ b)) ∧
    ∀ d gd', Stays w w' gd gd' → RepO w' gd' (L.upd d nb nc) d (.row t sz n f) ∧ RepA w' (L.upd d nb nc) gd' (.rsl d sz 0 n) u
/-- .. behind a row that may hold objects. -/
def MovesOkV (P : Program) (w : World) (gd : Nat → Prop) (L : Lay) (a : Act) (o : Oper) (old : Nat) (t : TypeId) (cells : List AVal) : Prop :=
  ∃ w' nb nc u, (execOp a.eval o).run P w = .ok (.value u) w' ∧ w'.os = w.os ∧ w'.tape = w.tape ∧ w'.output = w.output ∧ w.heap.size ≤ w'.heap.size ∧ (∀ b, b < w.heap.size → some b ≠ L.blk old → w'.heap[b]? = w.heap[b]?) ∧
    (∀ b, nb = some b → b < w'.heap.size ∧ (some b = L.blk old ∨ w.heap.size ≤ b)) ∧
    ∀ d gd', AVal.freeL d cells = true → Stays w w' gd gd' → (∀ b, L.old b → w'.heap[b]? = w.heap[b]?) → RepO w' gd' (L.upd d nb nc) d (.vrow t cells) ∧ RepA w' (L.upd d nb nc) gd' (.rsl d 1 0 cells.length) u
/-- What an operation is found to do. -/
def Res.Ok (P : Program) (w : World) (gd : Nat → Prop) (L : Lay) (g : Nat → AVal) (h : Nat → Option AObj) (a : Act) (o : Oper) : Res → Prop
  | .val v => ∃ u, (execOp a.eval o).run P w = .ok (.value u) w ∧ RepA w L gd v u
  | .cond v c => c → ∃ u, (execOp a.eval o).run P w = .ok (.value u) w ∧ RepA w L gd v u
  | .new ob => ∀ d, (∀ t, (g t).free d = true) → MakesOk P w gd L a o d (.ptr d 0) ob
  | .newv ob v c => (∀ q, c = some q → q) → ∀ d, (∀ t, (g t).free d = true) → MakesOk P w gd L a o d (v d) ob
  | .set id ob => (∃ o0, h id = some o0) ∧ WritesOk P w gd L a o id ob
  | .setc id ob c => (∃ o0, h id = some o0) ∧ (c → WritesOk P w gd L a o id ob)
  | .mkrow t sz n f c => (∀ q, c = some q → q) → ∀ d, MakesOk P w gd L a o d (.rsl d sz 0 n) (.row t sz n f)
  | .app old t sz n f c => (∃ t0 sz0 n0 f0, h old = some (.row t0 sz0 n0 f0)) ∧ (c → (∀ b, L.blk old = some b → ¬ gd b) → MovesOk P w gd L a o old t sz n f)
  | .appv old t cells c => (∃ t0 c0, h old = some (.vrow t0 c0)) ∧ (c → (∀ b, L.blk old = some b → ¬ gd b) → MovesOkV P w gd L a o old t cells)
  | .mkv t cells c => c → ∀ d, AVal.freeL d cells = true → MakesOk P w gd L a o d (.rsl d 1 0 cells.length) (.vrow t cells)
  | .mget k l z ok => ∀ f, findD k l = some f → ∃ u, (execOp a.eval o).run P w = .ok (.value u) w ∧ RepA w L gd (okM ok (.d (getD2 z f)) (isS f)) u
  | .mput id k x l => (∃ o0, h id = some o0) ∧ ∀ f, findD k l = some f → WritesOk P w gd L a o id (.dmp (putM f k x l))
  | .mdel id k l => (∃ o0, h id = some o0) ∧ ∀ f, findD k l = some f → WritesOk P w gd L a o id (.dmp (delM f l))
  | .ndb c => ∃ b, (execOp a.eval o).run P w = .ok (.value (.bool b)) w ∧ c b
  | .str c => ∀ l, c l → ∃ u, (execOp a.eval o).run P w = .ok (.value u) w ∧ RepA w L gd (.d (.s l)) u
  | .pub id v => (∃ o0, h id = some o0) ∧ ∃ u, (execOp a.eval o).run P w = .ok (.value u) w ∧ ∀ gd' : Nat → Prop, (∀ b, gd b → gd' b) → (∀ b, L.blk id = some b → gd' b ∧ b < w.heap.size) → RepA w L gd' v u

theorem repA_agg {l : List AVal} {v : Value} (hv : RepA w L gd (.agg l) v) : ∃ vs : Array Value, v = .agg vs ∧ vs.size = l.length ∧ (∀ i, i < l.length → (vs.getD i undef).oneCell' = true) ∧ ∀ i x, l[i]? = some x → RepA w L gd x (vs.getD i undef) := by
  cases hv with
  | agg hz h1 h => exact ⟨_, rfl, hz, h1, h⟩
theorem repA_i {k : IntKind} {n : Int} {v : Value} (hv : RepA w L gd (.d (.i k n)) v) : v = .int k n := by
  cases hv with | d h => cases h; rfl
theorem repA_b {x : Bool} {v : Value} (hv : RepA w L gd (.d (.b x)) v) : v = .bool x := by
  cases hv with | d h => cases h; rfl
theorem repA_s {l : List UInt8} {v : Value} (hv : RepA w L gd (.d (.s l)) v) : v = .string ⟨l.toArray⟩ := by
  cases hv with | d h => cases h; rfl
theorem repA_v {x v : Value} (hv : RepA w L gd (.d (.v x)) v) : v = x := by
  cases hv with | d h => cases h; rfl
theorem repA_sl {sz n : Nat} {f : Nat → List D} {v : Value} (hv : RepA w L gd (.d (.sl sz n f)) v) : RepD w gd (.sl sz n f) v := by
  cases hv with | d h => exact h
theorem repD_sl_len {sz n : Nat} {f : Nat → List D} {v : Value} (hv : RepD w gd (.sl sz n f) v) : ∃ A c, v = .slice A n c := by
  cases hv with
  | sl0 => exact ⟨_, _, rfl⟩
  | sl => exact ⟨_, _, rfl⟩
/-- A value that is one cell. -/
theorem repA_one {x : AVal} {v : Value} (hv : RepA w L gd x v) (h1 : x.sure = true) : v.oneCell' = true := by
  cases hv with
  | any => cases h1
  | d h => exact h.one
  | agg => cases h1
  | tup => cases h1
  | ptr => rfl
  | eptr => rfl
  | rsl => rfl
  | rptr => rfl
  | mref => rfl
  | fn => rfl
theorem addr_add0 (b o i : Nat) : (⟨b, o, none⟩ : Addr).add i = ⟨b, o + i, none⟩ := Addr.add_lit b o i
theorem getD_eq_of {α : Type} {l : Array α} {i : Nat} {x y : α} (h : l[i]? = some x) : l.getD i y = x := by
  rw [Array.getD_eq_getD_getElem?, h]; rfl
/-- The cells that a pointer points to. -/
theorem aCells_ok (H : Holds w gd L g h a) {p : AVal} {v : Value} (hv : RepA w L gd p v) {l : List AVal} {c : Option Prop} (hl : aCells h p = some (l, c)) (hc : ∀ q, c = some q → q) :
    ∃ b o, v = .pointer (some ⟨b, o, none⟩) ∧ ∀ i x, l[i]? = some x → ∃ u, w.cell? ⟨b, o + i, none⟩ = some u ∧ u.oneCell' = true ∧ RepA w L gd x u := by
  cases hv with
  | @ptr _ id off b hb =>
    simp only [aCells] at hl
    cases ho : h id with
    | none => rw [ho] at hl; cases hl
    | some ob =>
      rw [ho] at hl
      cases ob with
      | row => cases hl
      | mp => cases hl
      | vrow => cases hl
      | dmp => cases hl
      | box cells tag0 =>
        simp only [Option.some.injEq, Prod.mk.injEq] at hl
        obtain ⟨rfl, _⟩ := hl
        refine ⟨b, off, rfl, fun i x hx => ?_⟩
        have hr := H.obj id _ ho
        cases hr with
        | @box _ tag cs t b' htag hb' hh hz h1 hrep =>
          rw [hb] at hb'
          cases hb'
          rw [dropF_eq, List.getElem?_drop] at hx
          have hlt : off + i < cells.length := (List.getElem?_eq_some_iff.1 hx).1
          refine ⟨cs.getD (off + i) undef, ?_, h1 _ hlt, hrep _ _ hx⟩
          rw [cell_of_row w b (off + i) cs t (0, 0) hh, Array.getD_eq_getD_getElem?, Array.getElem?_eq_getElem (by omega)]
          rfl
  | @eptr _ sz n f k off b o c' m hs hk =>
    simp only [aCells] at hl
    cases hlf : liftF (dropF off (f k)) with
    | none => rw [hlf] at hl; cases hl
    | some l' =>
      rw [hlf] at hl
      simp only [Option.some.injEq, Prod.mk.injEq] at hl
      obtain ⟨rfl, _⟩ := hl
      refine ⟨b, o + k * sz + off, rfl, fun i x hx => ?_⟩
      rw [liftF_eq hlf, dropF_eq, List.getElem?_map, List.getElem?_drop] at hx
      cases hs with
      | sl0 => omega
      | sl _ _ _ _ _ _ cs hn hc' hm hg hb hz hcell hrep =>
        cases hfx : (f k)[off + i]? with
        | none => rw [hfx] at hx; cases hx
        | some y =>
          rw [hfx] at hx
          simp only [Option.map_some, Option.some.injEq] at hx
          subst hx
          have hlt : off + i < sz := by rw [← hz k hk]; exact (List.getElem?_eq_some_iff.1 hfx).1
          have hr := hrep k hk _ _ hfx
          exact ⟨cs k (off + i), by rw [Nat.add_assoc]; exact hcell k hk _ hlt, hr.one, .d hr⟩
  | d hd =>
    cases hd with
    | pt ds b hr =>
      simp only [aCells] at hl
      cases hlf : liftF ds with
      | none => rw [hlf] at hl; cases hl
      | some l' =>
        rw [hlf] at hl
        simp only [Option.some.injEq, Prod.mk.injEq] at hl
        obtain ⟨rfl, _⟩ := hl
        refine ⟨b, 0, rfl, fun i x hx => ?_⟩
        rw [liftF_eq hlf, List.getElem?_map] at hx
        cases hr with
        | sl _ _ _ _ _ _ cs hn hc' hm hg hb hz hcell hrep =>
          cases hfx : ds[i]? with
          | none => rw [hfx] at hx; cases hx
          | some y =>
            rw [hfx] at hx
            simp only [Option.map_some, Option.some.injEq] at hx
            subst hx
            have hlt : i < ds.length := (List.getElem?_eq_some_iff.1 hfx).1
            have hr := hrep 0 (by omega) _ _ hfx
            have hcl := hcell 0 (by omega) _ hlt
            simp only [Nat.zero_mul, Nat.zero_add, Nat.add_zero] at hcl
            exact ⟨cs 0 i, by rw [Nat.zero_add]; exact hcl, hr.one, .d hr⟩
    | _ => simp [aCells] at hl
  | @rptr _ id sz k off b hb =>
    simp only [aCells] at hl
    cases ho : h id with
    | none => rw [ho] at hl; cases hl
    | some ob =>
      rw [ho] at hl
      cases ob with
      | mp => cases hl
      | vrow => cases hl
      | dmp => cases hl
      | box cells tag0 =>
        simp only [Option.some.injEq, Prod.mk.injEq] at hl
        obtain ⟨rfl, _⟩ := hl
        refine ⟨b, k * sz + off, rfl, fun i x hx => ?_⟩
        have hr := H.obj id _ ho
        cases hr with
        | @box _ tag cs t b' htag hb' hh hz h1 hrep =>
          rw [hb] at hb'
          cases hb'
          rw [dropF_eq, List.getElem?_drop] at hx
          have hlt : k * sz + off + i < cells.length := (List.getElem?_eq_some_iff.1 hx).1
          refine ⟨cs.getD (k * sz + off + i) undef, ?_, h1 _ hlt, hrep _ _ hx⟩
          rw [cell_of_row w b (k * sz + off + i) cs t (0, 0) hh, Array.getD_eq_getD_getElem?, Array.getElem?_eq_getElem (by omega)]
          rfl
      | row t sz' n f =>
        simp only at hl
        cases hbq : Nat.beq sz sz' with
        | false => rw [hbq] at hl; cases hl
        | true =>
          rw [hbq] at hl
          have := Nat.eq_of_beq_eq_true hbq
          subst this
          simp only at hl
          cases hlf : liftF (dropF off (f k)) with
          | none => rw [hlf] at hl; cases hl
          | some l' =>
            rw [hlf] at hl
            simp only [Option.some.injEq, Prod.mk.injEq] at hl
            obtain ⟨rfl, rfl⟩ := hl
            have hk : k < n := hc _ rfl
            refine ⟨b, k * sz + off, rfl, fun i x hx => ?_⟩
            rw [liftF_eq hlf, dropF_eq, List.getElem?_map, List.getElem?_drop] at hx
            cases hfx : (f k)[off + i]? with
            | none => rw [hfx] at hx; cases hx
            | some y =>
              rw [hfx] at hx
              simp only [Option.map_some, Option.some.injEq] at hx
              subst hx
              have hr := H.obj id _ ho
              cases hr with
              | row0 => omega
              | @row _ _ _ _ cs b' t2 mk hb' hh hn hm hz hf hrep hty hmk hcap0 =>
                rw [hb] at hb'
                cases hb'
                have hlt : off + i < sz := by rw [← hf k hk]; exact (List.getElem?_eq_some_iff.1 hfx).1
                have hr := hrep k hk _ _ hfx
                refine ⟨cs.getD (k * sz + (off + i)) undef, ?_, hr.one, .d hr⟩
                have hsz : k * sz + (off + i) < cs.size := by
                  have := Nat.mul_le_mul_right sz (show k + 1 ≤ L.cap id from by omega)
                  rw [Nat.add_mul] at this; omega
                rw [Nat.add_assoc, cell_of_row w b _ cs t2 mk hh, Array.getD_eq_getD_getElem?, Array.getElem?_eq_getElem hsz]
                rfl
  | _ => simp [aCells] at hl
/-- A whole variable is read. -/
theorem loadAt_ok (hT : TysOk P T) {t : TypeId} {d : TyD} (ht : lookT t T = some d) {b o : Nat} {l : List AVal} {x : AVal} (hx : aPart d l = some x)
    (hl : ∀ i x, l[i]? = some x → ∃ u, w.cell? ⟨b, o + i, none⟩ = some u ∧ u.oneCell' = true ∧ RepA w L gd x u) :
    ∃ u, (Instr.loadAt t (.pointer (some ⟨b, o, none⟩))).run P w = .ok u w ∧ RepA w L gd x u := by
  have hd := hT.get ht
  unfold aPart at hx
  cases htk : takeF d.size l with
  | none => rw [htk] at hx; cases hx
  | some m =>
    rw [htk] at hx
    obtain ⟨hm, hlen⟩ := takeF_eq htk
    have hcell : ∀ j, j < d.size → ∃ u, w.cell? ⟨b, o + j, none⟩ = some u ∧ u.oneCell' = true ∧ ∀ x, m[j]? = some x → RepA w L gd x u := by
      intro j hj
      obtain ⟨u, h1, h2, h3⟩ := hl j l[j] (List.getElem?_eq_getElem (by omega))
      refine ⟨u, h1, h2, fun x hx => ?_⟩
      rw [hm, List.getElem?_take, if_pos hj, List.getElem?_eq_getElem (by omega)] at hx
      cases hx
      exact h3
    have hmlen : m.length = d.size := by rw [hm, List.length_take]; omega
    let us : Nat → Value := fun j => (w.cell? ⟨b, o + j, none⟩).getD undef
    have hus : ∀ j, j < d.size → w.cell? ((⟨b, o, none⟩ : Addr).add j) = some (us j) := by
      intro j hj
      obtain ⟨u, h1, _⟩ := hcell j hj
      rw [addr_add0]
      show _ = some ((w.cell? ⟨b, o + j, none⟩).getD undef)
      rw [h1]; rfl
    have hrun := run_loadCells (P := P) w ⟨b, o, none⟩ d.size us hus
    have hisAgg := hd.isAgg w
    cases hs : isStr d.kind with
    | true =>
      rw [hs] at hx hisAgg
      simp only [Option.some.injEq] at hx
      subst hx
      refine ⟨_, by simp [Instr.loadAt, Instr.sureAddr, loadVar, hisAgg, hd.sizeOf w, hrun]; rfl, ?_⟩
      refine .agg (by simp [hmlen]) (fun i hi => ?_) (fun i x hx => ?_)
      · have hi' : i < d.size := by omega
        obtain ⟨u, h1, h2, _⟩ := hcell i hi'
        have : us i = u := by show (w.cell? ⟨b, o + i, none⟩).getD undef = u; rw [h1]; rfl
        rw [Array.getD_eq_getD_getElem?]
        simp [hi', this, h2]
      · have hi' : i < d.size := by rw [← hmlen]; exact (List.getElem?_eq_some_iff.1 hx).1
        obtain ⟨u, h1, h2, h3⟩ := hcell i hi'
        have : us i = u := by show (w.cell? ⟨b, o + i, none⟩).getD undef = u; rw [h1]; rfl
        rw [Array.getD_eq_getD_getElem?]
        simp [hi', this]
        exact h3 x hx
    | false =>
      rw [hs] at hx hisAgg
      cases m with
      | nil => cases hx
      | cons y r =>
        cases r with
        | cons z r => cases hx
        | nil =>
          simp only [Option.some.injEq] at hx
          subst hx
          have hz : d.size = 1 := by simpa using hmlen.symm
          obtain ⟨u, h1, h2, h3⟩ := hcell 0 (by omega)
          refine ⟨u, ?_, h3 _ rfl⟩
          simp only [Nat.add_zero] at h1
          simp [Instr.loadAt, Instr.sureAddr, loadVar, hisAgg, h1]
theorem aLoad_ok (hT : TysOk P T) (H : Holds w gd L g h a) {t : TypeId} {d : TyD} (ht : lookT t T = some d) {p : Operand} {r : Res} (hr : aLoad h d (opnd g p) = some r) {o : Oper} (ho : o.op = .load t p) :
    r.Ok P w gd L g h a o := by
  have hv := H.opnd p
  unfold aLoad at hr
  cases hc : aCells h (opnd g p) with
  | none => rw [hc] at hr; cases hr
  | some lc =>
    obtain ⟨l, c⟩ := lc
    rw [hc] at hr
    simp only at hr
    cases hp : aPart d l with
    | none => rw [hp] at hr; cases hr
    | some v =>
      rw [hp] at hr
      simp only [Option.some.injEq] at hr
      subst hr
      have key : (∀ q, c = some q → q) → ∃ u, (execOp a.eval o).run P w = .ok (.value u) w ∧ RepA w L gd v u := by
        intro hq
        obtain ⟨b, off, hv', hl⟩ := aCells_ok H hv hc hq
        obtain ⟨u, h1, h2⟩ := loadAt_ok (P := P) hT ht hp hl
        exact ⟨u, by simp [execOp, ho, hv', h1], h2⟩
      cases c with
      | none => exact key (fun q hq => by cases hq)
      | some c => exact fun hc => key (fun q hq => by cases hq; exact hc)
end
end Towline
