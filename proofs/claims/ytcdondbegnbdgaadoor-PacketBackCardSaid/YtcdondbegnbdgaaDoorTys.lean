import Derived.Test.YtcdondbegnbdgaaDoorEngN
import Derived.Deep.Slices
import Derived.ChangeArms
import Derived.Carry
import Derived.WideShapes
import Derived.OpenShut
import Derived.Test.YtcdondbegnbdgaaDoorChecked
/- The engine, part thirteen: what a call is handed, read as plain data. Over any program. -/
namespace Towline
open Go Go.RowKit Go.Deep
set_option linter.unusedVariables false
/-- A type of plain data that is no deeper than n, its fields one behind the other. -/
def plainT (T : Tys) : Nat → TypeId → Bool
  | 0, _ => false
  | n + 1, t => match lookT t T with
    | some ⟨.bool, _, _, _⟩ => true
    | some ⟨.int _, _, _, _⟩ => true
    | some ⟨.string, _, _, _⟩ => true
    | some ⟨.slice e, _, _, _⟩ => match lookT e T with
      | some d => Nat.blt 0 d.size && plainT T n e
      | none => false
    | some ⟨.struct fs, sz, _, _⟩ => laid 0 fs sz && fs.all fun f => plainT T n f.2.2
    | some ⟨.array m e, sz, _, _⟩ => match lookT e T with
      | some d => Nat.beq sz (m * d.size) && plainT T n e
      | none => false
    | _ => false
where laid : Nat → List (Nat × Nat × TypeId) → Nat → Bool
  | o, [], sz => Nat.beq o sz
  | o, (off, s, _) :: r, sz => Nat.beq o off && laid (o + s) r sz
/-- Cells of such a type. -/
def wt (T : Tys) : Nat → TypeId → List D → Prop
  | 0, _, _ => False
  | n + 1, t, l => match lookT t T with
    | some ⟨.bool, _, _, _⟩ => ∃ b, l = [.b b]
    | some ⟨.int k, _, _, _⟩ => ∃ x, l = [.i k x] ∧ (Lit.int k x).wf = true
    | some ⟨.string, _, _, _⟩ => ∃ s : List UInt8, l = [.s s] ∧ s.length ≤ maxLen
    | some ⟨.slice e, _, _, _⟩ => match lookT e T with
      | some d => ∃ (m : Nat) (f : Nat → List D), l = [.sl d.size m f] ∧ m ≤ maxLen ∧ ∀ k, k < m → (f k).length = d.size ∧ wt T n e (f k)
      | none => False
    | some ⟨.struct fs, sz, _, _⟩ => l.length = sz ∧ wtL (wt T n) l fs
    | some ⟨.array m e, sz, _, _⟩ => match lookT e T with
      | some d => l.length = sz ∧ ∀ k, k < m → wt T n e ((l.drop (k * d.size)).take d.size)
      | none => False
    | _ => False
where wtL (p : TypeId → List D → Prop) (l : List D) : List (Nat × Nat × TypeId) → Prop
  | [] => True
  | (off, s, t) :: r => p t ((l.drop off).take s) ∧ wtL p l r
theorem cellsOf_eq {P : Program} {t : TypeId} {d : TyD} (h : TyOk P t d) : P.cellsOf t = d.size := by
  obtain ⟨i, h1, _, h2, _⟩ := h.info'
  simp [Program.cellsOf, h1, h2]
theorem cell_lt {w : World} {a : Addr} {v : Value} (h : w.cell? a = some v) : a.block < w.heap.size := by
  unfold World.cell? at h
  split at h
  · rename_i e; exact (Array.getElem?_eq_some_iff.1 e).1
  · cases h
theorem open_cells {H : Type} {enc : TypeId × Value → H} {P : Program} {T : Tys} {w : World} {base : Nat} {sp : Nat → Bool} {hd : Bool} (hT : TysOk P T) :
    ∀ (n fuel : Nat) (t : TypeId) (cs : List Value) (x : DataW H × List MemPlace), plainT T n t = true → DataW.trod enc P w base sp hd fuel t cs = some x →
      ∃ l : List D, wt T n t l ∧ l.length = cs.length ∧ ∀ (i : Nat) (y : D), l[i]? = some y → RepD w (fun b => b < w.heap.size) y (cs.getD i undef) := by
  intro n
  induction n with
  | zero => intro fuel t cs x hp; simp [plainT] at hp
  | succ n ih =>
    intro fuel t cs x hp h
    unfold plainT at hp
    unfold wt
    split at hp
    · rename_i ht
      obtain ⟨b, rfl, _⟩ := DataW.trod_bool ((hT.get ht).bool rfl) h
      refine ⟨[.b b], ⟨b, rfl⟩, rfl, fun i y hy => ?_⟩
      obtain ⟨rfl, rfl⟩ : i = 0 ∧ y = .b b := by cases i <;> simp_all
      exact .b b
    · rename_i k _ _ _ ht
      obtain ⟨m, rfl, _, hw⟩ := DataW.trod_int ((hT.get ht).int rfl) h
      refine ⟨[.i k m], ⟨m, rfl, hw⟩, rfl, fun i y hy => ?_⟩
      obtain ⟨rfl, rfl⟩ : i = 0 ∧ y = .i k m := by cases i <;> simp_all
      exact .i k m
    · rename_i ht
      obtain ⟨s, rfl, _, hs⟩ := DataW.trod_string ((hT.get ht).string rfl) h
      refine ⟨[.s s.data.toList], ⟨s.data.toList, rfl, by simpa using hs⟩, rfl, fun i y hy => ?_⟩
      obtain ⟨rfl, rfl⟩ : i = 0 ∧ y = .s s.data.toList := by cases i <;> simp_all
      have := RepD.s (w := w) (good := fun b => b < w.heap.size) s.data.toList
      simpa using this
    · rename_i e _ _ _ ht
      split at hp
      · rename_i d hde
        simp only [Bool.and_eq_true] at hp
        have hpos : 1 ≤ d.size := by simpa [Nat.blt] using hp.1
        have hcell := cellsOf_eq (hT.get hde)
        rcases open_slice ((hT.get ht).slice rfl) h with ⟨rfl, _⟩ | ⟨a, len, cap, m, n', Dx, Pl, rfl, hb, hl, hm, hmm, _, hx⟩
        · refine ⟨[.sl d.size 0 fun _ => []], ⟨0, _, rfl, Nat.zero_le _, fun k hk => absurd hk (Nat.not_lt_zero k)⟩, rfl, fun i y hy => ?_⟩
          obtain ⟨rfl, rfl⟩ : i = 0 ∧ y = .sl d.size 0 fun _ => [] := by cases i <;> simp_all
          exact .sl0 _ _ _ _ (Nat.zero_le _)
        · have hlm : len ≤ m := by rw [hmm]; split <;> omega
          have hel : ∀ i, i < len → ∃ p : List D × List Value, p.1.length = d.size ∧ wt T n e p.1 ∧ (∀ j, j < d.size → w.cell? (a.add (i * d.size + j)) = some (p.2.getD j undef)) ∧ ∀ (j : Nat) (y : D), p.1[j]? = some y → RepD w (fun b => b < w.heap.size) y (p.2.getD j undef) := by
            intro i hi
            obtain ⟨cs', h1, h2⟩ := hx i (by omega)
            rw [hcell] at h1
            obtain ⟨_, c1, c2⟩ := World.cells?_some h1
            obtain ⟨l, k1, k2, k3⟩ := ih n' e cs' _ hp.2 h2
            refine ⟨(l, cs'), by simp only; omega, k1, fun j hj => ?_, k3⟩
            have := c2 j hj
            rw [add_add] at this
            rw [this, List.getD_eq_getElem?_getD, List.getElem?_eq_getElem (by omega)]
            rfl
          obtain ⟨f, hf⟩ := choose_lt hel
          refine ⟨[.sl d.size len fun k => (f k).1], ⟨len, _, rfl, by omega, fun k hk => ⟨(hf k hk).1, (hf k hk).2.1⟩⟩, rfl, fun i y hy => ?_⟩
          obtain ⟨rfl, rfl⟩ : i = 0 ∧ y = .sl d.size len fun k => (f k).1 := by cases i <;> simp_all
          simp only [List.getD_cons_zero]
          rcases Nat.eq_zero_or_pos len with rfl | hlen
          · exact .sl0 _ _ _ _ (by omega)
          · have h00 := (hf 0 hlen).2.2.1 0 hpos
            have e0 : a.add (0 * d.size + 0) = a := by simp [Addr.add]
            rw [e0] at h00
            have hspot := World.cell?_spot h00
            have hblk := cell_lt h00
            obtain ⟨b, o, spot⟩ := a
            simp only at hspot
            subst hspot
            refine .sl d.size len _ b o cap (fun k j => (f k).2.getD j undef) hlen hl hm hblk hblk (fun k hk => (hf k hk).1) (fun k hk j hj => ?_) (fun k hk j y hy => (hf k hk).2.2.2 j y hy)
            have := (hf k hk).2.2.1 j hj
            rw [← this]
            congr 1
            unfold Addr.add
            split
            · rename_i hz; rw [Nat.add_assoc, hz, Nat.add_zero]
            · simp [Nat.add_assoc]
      · cases hp
    · rename_i fs sz _ _ ht
      simp only [Bool.and_eq_true] at hp
      obtain ⟨fields, hu, hfs⟩ := (hT.get ht).struct rfl
      obtain ⟨xs, n', _, _, hlen, hxl, hx⟩ := DataW.trod_struct hu h
      have hcell := cellsOf_eq (hT.get ht)
      have hsz : cs.length = sz := by rw [hlen, hcell]
      -- field by field
      have key : ∀ (gs : List Field) (o : Nat), (∀ (i : Nat) (g : Field), gs[i]? = some g → ∃ y, DataW.trod enc P w base sp hd n' g.type ((cs.drop g.offset).take (P.cellsOf g.type)) = some y) →
          plainT.laid o (gs.map fun f => (f.offset, match P.info? f.type with | some i => i.size | none => 0, f.type)) sz = true → ((gs.map fun f => (f.offset, match P.info? f.type with | some i => i.size | none => 0, f.type)).all fun f => plainT T n f.2.2) = true → o ≤ sz →
          ∃ l : List D, l.length = sz - o ∧ (∀ (i : Nat) (y : D), l[i]? = some y → RepD w (fun b => b < w.heap.size) y (cs.getD (o + i) undef)) ∧
            ∀ pre : List D, pre.length = o → wt.wtL (wt T n) (pre ++ l) (gs.map fun f => (f.offset, match P.info? f.type with | some i => i.size | none => 0, f.type)) := by
        intro gs
        induction gs with
        | nil =>
          intro o _ hl _ ho
          have : o = sz := Nat.eq_of_beq_eq_true hl
          exact ⟨[], by simp; omega, fun i y hy => by simp at hy, fun pre _ => trivial⟩
        | cons g gs ihg =>
          intro o hg hl ha ho
          simp only [List.map_cons, plainT.laid, Bool.and_eq_true] at hl
          simp only [List.map_cons, List.all_cons, Bool.and_eq_true] at ha
          obtain ⟨hl1, hl2⟩ := hl
          have hoff : o = g.offset := Nat.eq_of_beq_eq_true hl1
          obtain ⟨y, hy⟩ := hg 0 g rfl
          have hsg : (match P.info? g.type with | some i => i.size | none => 0) = P.cellsOf g.type := by
            unfold Program.cellsOf; cases P.info? g.type <;> rfl
          rw [hsg] at hl2
          obtain ⟨l1, k1, k2, k3⟩ := ih n' g.type _ y ha.1 hy
          have hmono : ∀ (gs : List Field) (o : Nat), plainT.laid o (gs.map fun f => (f.offset, match P.info? f.type with | some i => i.size | none => 0, f.type)) sz = true → o ≤ sz := by
            intro gs
            induction gs with
            | nil => intro o h; exact Nat.le_of_eq (Nat.eq_of_beq_eq_true h)
            | cons g gs ih =>
              intro o h
              simp only [List.map_cons, plainT.laid, Bool.and_eq_true] at h
              have := ih _ h.2
              omega
          have ho2 := hmono gs _ hl2
          have k2' : l1.length = P.cellsOf g.type := by rw [k2, List.length_take, List.length_drop]; omega
          obtain ⟨l2, j1, j2, j3⟩ := ihg (o + P.cellsOf g.type) (fun i g' hg' => hg (i + 1) g' (by simpa using hg')) hl2 ha.2 ho2
          refine ⟨l1 ++ l2, by rw [List.length_append]; omega, fun i z hz => ?_, fun pre hpre => ?_⟩
          · by_cases hi : i < l1.length
            · rw [List.getElem?_append_left hi] at hz
              have := k3 i z hz
              rwa [List.getD_eq_getElem?_getD, List.getElem?_take, if_pos (by omega), List.getElem?_drop, ← hoff, ← List.getD_eq_getElem?_getD] at this
            · rw [List.getElem?_append_right (by omega)] at hz
              have := j2 _ z hz
              rwa [show o + P.cellsOf g.type + (i - l1.length) = o + i from by omega] at this
          · simp only [List.map_cons, wt.wtL]
            refine ⟨?_, ?_⟩
            · rw [hsg, ← hoff, ← hpre, List.drop_left, ← k2', List.take_left]
              exact k1
            · have := j3 (pre ++ l1) (by rw [List.length_append]; omega)
              rwa [List.append_assoc] at this
      rw [← hfs] at hp
      obtain ⟨l, h1, h2, h3⟩ := key fields.toList 0 (fun i g hg => by
        have hg' : fields[i]? = some g := by simpa using hg
        have hi : i < xs.length := by rw [hxl]; exact (Array.getElem?_eq_some_iff.1 hg').1
        exact ⟨xs[i], by rw [hx i g hg', List.getElem?_eq_getElem hi]⟩) hp.1 hp.2 (Nat.zero_le _)
      refine ⟨l, ⟨by omega, ?_⟩, by omega, fun i y hy => by have := h2 i y hy; rwa [Nat.zero_add] at this⟩
      have := h3 [] rfl
      rw [List.nil_append] at this
      rw [← hfs]
      exact this
    · rename_i m e sz _ _ ht
      split at hp
      · rename_i d hde
        simp only [Bool.and_eq_true] at hp
        have hsz := Nat.eq_of_beq_eq_true hp.1
        have hu : P.underlying t = some (.array m e) := by
          obtain ⟨u, hu, hk⟩ := (hT.get ht).und
          cases u <;> simp [kindOf] at hk
          rw [hu]; simp [hk]
        obtain ⟨xs, n', _, _, hlen, hxl, hx⟩ := DataW.trod_array hu h
        have hcell := cellsOf_eq (hT.get ht)
        have hce := cellsOf_eq (hT.get hde)
        have hcs : cs.length = m * d.size := by rw [hlen, hcell]; exact hsz
        have key : ∀ j, j ≤ m → ∃ l : List D, l.length = j * d.size ∧ (∀ k, k < j → wt T n e ((l.drop (k * d.size)).take d.size)) ∧ ∀ (i : Nat) (y : D), l[i]? = some y → RepD w (fun b => b < w.heap.size) y (cs.getD i undef) := by
          intro j
          induction j with
          | zero => intro _; exact ⟨[], by simp, fun k hk => absurd hk (Nat.not_lt_zero k), fun i y hy => by simp at hy⟩
          | succ j ihj =>
            intro hj
            obtain ⟨l, k1, k2, k3⟩ := ihj (by omega)
            have hel := hx j (by omega)
            rw [List.getElem?_eq_getElem (by omega), hce] at hel
            obtain ⟨l1, e1, e2, e3⟩ := ih n' e _ _ hp.2 hel
            have hle : j * d.size + d.size ≤ m * d.size := by
              have := Nat.mul_le_mul_right d.size (show j + 1 ≤ m from hj)
              rwa [Nat.add_mul, Nat.one_mul] at this
            have e2' : l1.length = d.size := by rw [e2, List.length_take, List.length_drop]; omega
            refine ⟨l ++ l1, by rw [List.length_append, Nat.add_mul]; omega, fun k hk => ?_, fun i y hy => ?_⟩
            · by_cases hkj : k < j
              · have hk2 : k * d.size + d.size ≤ j * d.size := by
                  have := Nat.mul_le_mul_right d.size (show k + 1 ≤ j from hkj)
                  rwa [Nat.add_mul, Nat.one_mul] at this
                rw [List.drop_append_of_le_length (by omega), List.take_append_of_le_length (by rw [List.length_drop]; omega)]
                exact k2 k hkj
              · have : k = j := by omega
                subst this
                rw [← k1, List.drop_left, ← e2', List.take_length]
                exact e1
            · by_cases hi : i < l.length
              · rw [List.getElem?_append_left hi] at hy
                exact k3 i y hy
              · rw [List.getElem?_append_right (by omega)] at hy
                have := e3 _ y hy
                have hlt : i - l.length < l1.length := (List.getElem?_eq_some_iff.1 hy).1
                rwa [List.getD_eq_getElem?_getD, List.getElem?_take, if_pos (by omega), List.getElem?_drop, show j * d.size + (i - l.length) = i from by omega, ← List.getD_eq_getElem?_getD] at this
        obtain ⟨l, k1, k2, k3⟩ := key m (Nat.le_refl _)
        exact ⟨l, ⟨by omega, k2⟩, by omega, k3⟩
      · cases hp
    · cases hp
/-- An argument, as the engine has it. -/
def asV (str : Bool) (l : List D) : AVal := match str with
  | true => .agg (l.map .d)
  | false => match l with
    | [d] => .d d
    | _ => .any
theorem open_arg {H : Type} {enc : TypeId × Value → H} {P : Program} {T : Tys} {w : World} {base b0 : Nat} {r : Reach} {sp : Nat → Bool} {hd : Bool} {t : TypeId} {v : Value} {d : DataW H} {ps : List MemPlace} {td : TyD} (hT : TysOk P T) (n : Nat) (hp : plainT T n t = true) (ht : lookT t T = some td)
    (hval : Value.okWide P w r b0 t v) (h : DataW.Trod enc P w base sp hd t v d ps) : ∃ l, wt T n t l ∧ ∀ L, RepA w L (fun b => b < w.heap.size) (asV (isStr td.kind) l) v := by
  obtain ⟨fuel, h⟩ := h
  obtain ⟨l, h1, h2, h3⟩ := open_cells hT n fuel t _ _ hp h
  refine ⟨l, h1, fun L => ?_⟩
  cases hs : isStr td.kind with
  | true =>
    have : ∃ cs, v = .agg cs := by
      obtain ⟨u, hu, hk⟩ := (hT.get ht).und
      unfold Value.okWide at hval
      rw [hu] at hval
      rw [← hk] at hs
      cases u <;> simp [kindOf, isStr] at hs
      all_goals (obtain ⟨cs, e, _⟩ := hval; exact ⟨cs, e⟩)
    obtain ⟨cs, rfl⟩ := this
    have h2 : l.length = cs.size := by rw [h2]; simp [Value.cells]
    refine .agg (by simp [h2]) (fun i hi => ?_) fun i y hy => ?_
    · have hi : i < l.length := by simpa using hi
      have := (h3 i l[i] (List.getElem?_eq_getElem hi)).one
      simpa [Value.cells, List.getD_eq_getElem?_getD, Array.getD_eq_getD_getElem?] using this
    · rw [List.getElem?_map] at hy
      obtain ⟨z, hz, rfl⟩ := Option.map_eq_some_iff.1 hy
      have := h3 i z hz
      exact .d (by simpa [Value.cells, List.getD_eq_getElem?_getD, Array.getD_eq_getD_getElem?] using this)
  | false =>
    unfold asV
    simp only
    split
    · rename_i x
      have := h3 0 x rfl
      have hc : v.cells.toList = [v] := by
        have hna : ∀ cs, v ≠ .agg cs := by
          rintro cs rfl
          obtain ⟨u, hu, hk⟩ := (hT.get ht).und
          rw [← hk] at hs
          unfold Value.okWide at hval
          rw [hu] at hval
          cases u <;> simp_all [Cell.okWide, Cell.ok, kindOf, isStr]
        cases v <;> first | rfl | exact absurd rfl (hna _)
      rw [hc] at this
      exact .d this
    · exact .any
theorem PSpec.isTrue {P : Program} {f : FuncId} {args : List AVal} (h : PSpec P f args (· = .d (.b true))) {w : World} {vs : Array Value} (hz : vs.size = args.length) (ha : ∀ (i : Nat) (x : AVal), args[i]? = some x → RepA w (L0 w.heap.size) (fun b => b < w.heap.size) x (vs.getD i undef)) :
    Calls P f vs w fun e w' => e = .returned (.bool true) ∧ Below w.heap.size w w' :=
  (h.2 w (fun b => b < w.heap.size) vs (fun _ h => h) hz ha).mono fun e w' ⟨v, r, h1, h2, h3, h4⟩ => by
    subst h2
    have := repA_b h4.2
    rw [h1, this]
    exact ⟨rfl, h3⟩
end Towline

/- The engine: a run that stops behind each test, where rows may be given up: they are data from then on. Over any program. -/
namespace Towline
open Go Go.RowKit
set_option linter.unusedVariables false
/-- Code that is still to be run. -/
structure AGo (C : Ctx) (c : Code) (Q : Exit → Env → Heap → Prop) (env : Env) (heap : Heap) : Prop where
  out : AWp C c Q env heap
/-- Code, run as far as plain data say: loops are left, and what stands behind a test. -/
def ARunS (C : Ctx) (T : Tys) : Code → (Exit → Env → Heap → Prop) → Env → Heap → Prop
  | .skip, Q, env, heap => Q .normal env heap
  | .region _ ops draw, Q, env, heap => match draw with
    | false => AOps C.P T C.nt ops (Q .normal) ops.toList env heap
    | true => AOpsD C.P T C.nt ops (fun recs env' heap' => drawOk ops.toList recs.reverse env heap = true ∧ Q .normal env' heap') ops.toList [] env heap
  | .seq x y, Q, env, heap => ARunS C T x (fun e env heap => match e with | .normal => ARunS C T y Q env heap | e => Q e env heap) env heap
  | .cond c x y, Q, env, heap => match opnd (fun t => look t env) c with
    | .d (.b b) => match b with
      | true => AGo C x Q env heap
      | false => AGo C y Q env heap
    | _ => False
  | .block id x, Q, env, heap => ARunS C T x (fun e env heap => match e with | .exit i => (match Nat.beq i id with | true => Q .normal env heap | false => Q (.exit i) env heap) | e => Q e env heap) env heap
  | .loop c, Q, env, heap => ALoop C c Q env heap
  | .exit id, Q, env, heap => Q (.exit id) env heap
  | .ret, Q, env, heap => Q .ret env heap
  | .rangeFunc .., _, _, _ => False
  | .scope x, Q, env, heap => ARunS C T x (fun e env heap => match e with | .goto _ => False | e => Q e env heap) env heap
  | .label _, Q, env, heap => Q .normal env heap
  | .goto _, _, _, _ => False
  | .refuse _, _, _, _ => False
section
variable {C : Ctx} {T : Tys}
theorem ARunS_ok (hT : TysOk C.P T) (hM : C.P.follows .mixedOrders = true) : ∀ {c : Code} {Q : Exit → Env → Heap → Prop} {env : Env} {heap : Heap}, ARunS C T c Q env heap → AWp C c Q env heap := by
  intro c
  induction c with
  | skip => exact fun h => AWp.skip h
  | region id ops draw =>
    intro Q env heap h
    cases draw with
    | false => exact AWp.region hT h
    | true => exact AWp.draw hT hM h
  | seq x y ihx ihy =>
    intro Q env heap h
    refine AWp.seq ((ihx h).mono fun e env heap h => ?_)
    cases e with
    | normal => exact ihy h
    | _ => exact h
  | cond c x y ihx ihy =>
    intro Q env heap h
    simp only [ARunS] at h
    split at h
    · rename_i b e
      refine AWp.cond e (fun hb => ?_) (fun hb => ?_)
      · subst hb; exact h.out
      · subst hb; exact h.out
    · exact h.elim
  | block id x ih => intro Q env heap h; exact AWp.block (ih h)
  | loop c ih => exact fun h => h.out
  | exit id => exact fun h => AWp.exit h
  | ret => exact fun h => AWp.ret h
  | label l => exact fun h => fun L a w hr => wp_label ⟨L, _, _, hr, h⟩
  | scope x ih =>
    intro Q env heap h L a w hr
    refine wp_scope_straight (wp_mono (ih h L a w hr) fun e a' w' ⟨L', env', heap', h1, h2⟩ => ?_)
    cases e with
    | goto l => exact h2.elim
    | _ => exact ⟨L', env', heap', h1, h2⟩
  | _ => exact fun h => h.elim
theorem AGo.go {c : Code} {Q : Exit → Env → Heap → Prop} {env : Env} {heap : Heap} (hT : TysOk C.P T) (hM : C.P.follows .mixedOrders = true) (h : ARunS C T c Q env heap) : AGo C c Q env heap := ⟨ARunS_ok hT hM h⟩
theorem ALoop.introS {X : Type} {c : Code} {Q : Exit → Env → Heap → Prop} {env : Env} {heap : Heap} (hT : TysOk C.P T) (hM : C.P.follows .mixedOrders = true) (S : X → Env × Heap) (μ : X → Nat) (x0 : X) (h0 : CovE env (S x0).1 (CovH heap (S x0).2))
    (round : ∀ x, ARunS C T c (fun e env' heap' => match e with | .normal => ∃ x' ps, μ x' < μ x ∧ CovE (renEs C.lid ps env') (S x').1 (CovH (renHs C.lid ps heap') (S x').2) | e => Q e env' heap') (S x).1 (S x).2) : ALoop C c Q env heap :=
  ⟨AWp.loop (fun x => (S x).1) (fun x => (S x).2) μ x0 (Covers.mk' h0) fun x L a w hr => wp_mono ((ARunS_ok hT hM (round x)) L a w hr) fun e a' w' ⟨L', env', heap', h1, h2⟩ => by
    cases e with
    | normal =>
      obtain ⟨x', ps, h3, h4⟩ := h2
      obtain ⟨L2, h5⟩ := h1.rens ps
      exact ⟨L2, _, _, h5, x', h3, Covers.mk' h4⟩
    | _ => exact ⟨L', env', heap', h1, h2⟩⟩
/-- A row of the call's own that a slot speaks of is given up: the slot holds data. -/
theorem ALoop.frz {c : Code} {Q : Exit → Env → Heap → Prop} {env : Env} {heap : Heap} (s : Nat) (h : frzK (fun e hp => ALoop C c Q e hp) [(0, .tmp s)] env heap) : ALoop C c Q env heap :=
  ⟨fun L a w H => by obtain ⟨e, hp, h1, h2⟩ := frzK_ok h H; exact h1.out L a w h2⟩
theorem AGo.frz {c : Code} {Q : Exit → Env → Heap → Prop} {env : Env} {heap : Heap} (s : Nat) (h : frzK (fun e hp => AGo C c Q e hp) [(0, .tmp s)] env heap) : AGo C c Q env heap :=
  ⟨fun L a w H => by obtain ⟨e, hp, h1, h2⟩ := frzK_ok h H; exact h1.out L a w h2⟩
/-- A row of the call's own that a cell of an object speaks of is given up: the cell holds data. -/
theorem AGo.pub {c : Code} {Q : Exit → Env → Heap → Prop} {env : Env} {heap heap' : Heap} (b i id : Nat) {cells : List AVal} {tag : Option TypeId} {t : TypeId} {sz n n' : Nat} {f : Nat → List D} (hb : lookO b heap = some (.box cells tag)) (hs : cells[i]? = some (.rsl id sz 0 n)) (hid : lookO id heap = some (.row t sz n' f)) (hn : n ≤ n') (hne : Nat.beq b id = false)
    (hset : setO b (.box (cells.set i (.d (.sl sz n f))) tag) (dropH [id] heap) = some heap') (h : AGo C c Q env heap') : AGo C c Q env heap := by
  refine ⟨fun L a w H => ?_⟩
  have hnb : b ≠ id := fun e => by subst e; simp [Nat.beq_refl] at hne
  have hsub : ∀ i o, lko (dropH [id] heap) i = some o → lko heap i = some o := by
    intro i o e
    have e : lookO i (dropH [id] heap) = some o := e
    rw [lookO_dropH] at e
    exact (dropped_some e).1
  have hd := H.drop hsub
  have hobj : lko (dropH [id] heap) b = some (.box cells tag) := by
    show lookO b (dropH [id] heap) = _
    rw [lookO_dropH]
    have hm : memN b [id] = false := by simp [memN, beq_false (show id ≠ b from fun e => hnb e.symm)]
    rw [hm]
    exact hb
  refine h.out L a w ?_
  have hgood : ∀ b', good C L (lko (dropH [id] heap)) w b' → good C L (lko heap') w b' := by
    intro b' hgb
    refine ⟨hgb.1, hgb.2.1, ?_⟩
    rintro ⟨j, oj, h1, h2⟩
    rw [lko_set hset] at h1
    unfold hput at h1
    by_cases hjb : j = b
    · exact hgb.2.2 ⟨b, .box cells tag, hobj, by rw [← hjb]; exact h2⟩
    · rw [if_neg hjb] at h1
      exact hgb.2.2 ⟨j, oj, h1, h2⟩
  have hlook : ∀ j oj, lko heap' j = some oj → (j = b ∧ oj = .box (cells.set i (.d (.sl sz n f))) tag) ∨ lko (dropH [id] heap) j = some oj := by
    intro j oj hj
    rw [lko_set hset] at hj
    unfold hput at hj
    by_cases h2 : j = b
    · left; rw [if_pos h2] at hj; exact ⟨h2, (Option.some.inj hj).symm⟩
    · right; rw [if_neg h2] at hj; exact hj
  have hsome : ∀ j oj, lko heap' j = some oj → ∃ o', lko (dropH [id] heap) j = some o' := by
    intro j oj hj
    rcases hlook j oj hj with ⟨rfl, _⟩ | h
    · exact ⟨_, hobj⟩
    · exact ⟨_, h⟩
  have hview : ∀ v, RepA w L (good C L (lko (dropH [id] heap)) w) (.rsl id sz 0 n) v → RepA w L (good C L (lko (dropH [id] heap)) w) (.d (.sl sz n f)) v := by
    intro v hv
    obtain ⟨y, h1, h2, h3⟩ := viewK_ok (gd := good C L (lko (dropH [id] heap)) w) (gd' := good C L (lko (dropH [id] heap)) w) (h := restrictH [id] (lko heap)) L (fun i ob e => by
        refine (H.obj i ob (restrictH_some e)).mono (Nat.le_refl _) (fun b _ hb => ⟨⟨hb.1, hb.2.1, fun ⟨i, o, h1, h2⟩ => hb.2.2 ⟨i, o, hsub i o h1, h2⟩⟩, rfl⟩) (fun _ _ => rfl) (fun b _ hb => ⟨hb, rfl⟩) (fun _ => true) (fun _ _ => ⟨rfl, rfl⟩) rfl (fun _ h => by cases h)) (fun b hb => hb) (fun i ob b h1 h2 => by
        have h1' := restrictH_some h1
        have h3 := H.own0 i ob b h1' h2
        refine ⟨⟨h3.2, .inr h3.1, fun ⟨j, o, k1, k2⟩ => ?_⟩, h3.2⟩
        have hi := H.inj j i o ob b (hsub j o k1) h1' k2 h2
        subst hi
        have k1 : lookO j (dropH [id] heap) = some o := k1
        rw [lookO_dropH] at k1
        unfold restrictH at h1
        cases hm : memN j [id] with
        | true => rw [hm] at k1; simp at k1
        | false => rw [hm] at h1; cases h1) (.rsl id sz 0 n) (fun y => y = .d (.sl sz n f)) v (by
          have hr : restrictH [id] (lko heap) id = some (.row t sz n' f) := by
            unfold restrictH
            rw [show memN id [id] = true from by simp [memN, Nat.beq_refl]]
            exact hid
          simp only [viewK, hr, Nat.beq_refl]
          exact ⟨by omega, trivial⟩) hv
    rw [h1] at h3
    exact h3
  exact { hd with
    slot := fun x => (hd.slot x).mono1 (Nat.le_refl _) (fun b' _ hb' => ⟨hgood b' hb', rfl⟩) (fun _ _ => rfl)
    obj := fun j oj hj => by
      have mono : ∀ {o}, RepO w (good C L (lko (dropH [id] heap)) w) L j o → RepO w (good C L (lko heap') w) L j o := fun h =>
        h.mono (Nat.le_refl _) (fun b' _ hb' => ⟨hgood b' hb', rfl⟩) (fun _ _ => rfl) (fun b _ hb => ⟨hb, rfl⟩) (fun _ => true) (fun _ _ => ⟨rfl, rfl⟩) rfl (fun _ h => by cases h)
      rcases hlook j oj hj with ⟨rfl, rfl⟩ | h
      · have hro := hd.obj _ _ hobj
        refine mono ?_
        cases hro with
        | box htag hbk hheap hz h1 hr =>
          refine .box htag hbk hheap (by simpa using hz) (fun q hq => h1 q (by simpa using hq)) (fun q y hy => ?_)
          rw [List.getElem?_set] at hy
          split at hy
          · rename_i e
            subst e
            split at hy
            · cases hy
              exact hview _ (hr i _ hs)
            · cases hy
          · exact hr q y hy
      · exact mono (hd.obj j oj h)
    inj := fun x y ox oy b' h1 h2 => by
      obtain ⟨o1, e1⟩ := hsome x ox h1
      obtain ⟨o2, e2⟩ := hsome y oy h2
      exact hd.inj x y o1 o2 b' e1 e2
    own0 := fun x ox b' h1 => by
      obtain ⟨o1, e1⟩ := hsome x ox h1
      exact hd.own0 x o1 b' e1
    kept := fun x ox hl' h1 => by
      obtain ⟨o1, e1⟩ := hsome x ox h1
      exact hd.kept x o1 hl' e1 }
end
/-- A whole function, run so. -/
theorem PSpec.runS {P : Program} {T : Tys} {f : FuncId} {fn : Func} {c : Code} {args : List AVal} {post : AVal → Prop} (hT : TysOk P T) (hM : P.follows .mixedOrders = true) (hf : P.funcs[f]? = some fn) (hname : (fn.name == "runtime.NumGoroutine") = false) (hb : fn.body = some c) {nt : Nat} (hn : fn.ntmps = nt) (ha : args.length ≤ nt)
    {rs : List ResultVar} (hrs : fn.results.toList = rs) (h : ∀ w0 R0, ARunS ⟨P, nt, w0, R0, [], L0 0⟩ T c (fun e env heap => match e with | .normal => resK T (fun t => look t env) (fun i => lookO i heap) (postL fun r => ∃ r', r.le r' ∧ post r' ∧ r'.data = true) rs | .ret => resK T (fun t => look t env) (fun i => lookO i heap) (postL fun r => ∃ r', r.le r' ∧ post r' ∧ r'.data = true) rs | _ => False) (argEnv 0 args) []) :
    PSpec P f args post := by
  refine (PSpec.intro hT hf hname hb hn ha hrs fun w0 R0 => ARunS_ok (C := ⟨P, nt, w0, R0, [], L0 0⟩) hT hM (h w0 R0)).weaken (fun r ⟨⟨r', h1, h2, h3⟩, _⟩ hd => ⟨r', h1, h2, h3⟩) ?_
  rintro t sz n g ⟨_, h3⟩
  cases h3
end Towline

/- The types of the program, as the engine reads them. Written by tys.py. -/
namespace Go.Proofs.YtcdondbegnbdgaaDoor
open Towline
def ty1 : TyD := ⟨.func, 1, 8, [.v .nilFunc]⟩
theorem tyOk1 : TyOk Tryd.prog 1 ty1 := ⟨by kernel_rfl, by kernel_rfl, by kernel_rfl, by kernel_rfl, by kernel_rfl, by kernel_rfl, by kernel_rfl⟩
def ty2 : TyD := ⟨.int .i64, 1, 8, [.i .i64 0]⟩
theorem tyOk2 : TyOk Tryd.prog 2 ty2 := ⟨by kernel_rfl, by kernel_rfl, by kernel_rfl, by kernel_rfl, by kernel_rfl, by kernel_rfl, by kernel_rfl⟩
def ty3 : TyD := ⟨.int .i64, 1, 8, [.i .i64 0]⟩
theorem tyOk3 : TyOk Tryd.prog 3 ty3 := ⟨by kernel_rfl, by kernel_rfl, by kernel_rfl, by kernel_rfl, by kernel_rfl, by kernel_rfl, by kernel_rfl⟩
def ty4 : TyD := ⟨.bool, 1, 1, [.b false]⟩
theorem tyOk4 : TyOk Tryd.prog 4 ty4 := ⟨by kernel_rfl, by kernel_rfl, by kernel_rfl, by kernel_rfl, by kernel_rfl, by kernel_rfl, by kernel_rfl⟩
def ty5 : TyD := ⟨.int .u8, 1, 1, [.i .u8 0]⟩
theorem tyOk5 : TyOk Tryd.prog 5 ty5 := ⟨by kernel_rfl, by kernel_rfl, by kernel_rfl, by kernel_rfl, by kernel_rfl, by kernel_rfl, by kernel_rfl⟩
def ty6 : TyD := ⟨.int .u8, 1, 1, [.i .u8 0]⟩
theorem tyOk6 : TyOk Tryd.prog 6 ty6 := ⟨by kernel_rfl, by kernel_rfl, by kernel_rfl, by kernel_rfl, by kernel_rfl, by kernel_rfl, by kernel_rfl⟩
def ty9 : TyD := ⟨.string, 1, 16, [.s []]⟩
theorem tyOk9 : TyOk Tryd.prog 9 ty9 := ⟨by kernel_rfl, by kernel_rfl, by kernel_rfl, by kernel_rfl, by kernel_rfl, by kernel_rfl, by kernel_rfl⟩
def ty12 : TyD := ⟨.int .u64, 1, 8, [.i .u64 0]⟩
theorem tyOk12 : TyOk Tryd.prog 12 ty12 := ⟨by kernel_rfl, by kernel_rfl, by kernel_rfl, by kernel_rfl, by kernel_rfl, by kernel_rfl, by kernel_rfl⟩
def ty15 : TyD := ⟨.pointer 163, 1, 8, [.v (.pointer none)]⟩
theorem tyOk15 : TyOk Tryd.prog 15 ty15 := ⟨by kernel_rfl, by kernel_rfl, by kernel_rfl, by kernel_rfl, by kernel_rfl, by kernel_rfl, by kernel_rfl⟩
def ty16 : TyD := ⟨.pointer 166, 1, 8, [.v (.pointer none)]⟩
theorem tyOk16 : TyOk Tryd.prog 16 ty16 := ⟨by kernel_rfl, by kernel_rfl, by kernel_rfl, by kernel_rfl, by kernel_rfl, by kernel_rfl, by kernel_rfl⟩
def ty17 : TyD := ⟨.pointer 173, 1, 8, [.v (.pointer none)]⟩
theorem tyOk17 : TyOk Tryd.prog 17 ty17 := ⟨by kernel_rfl, by kernel_rfl, by kernel_rfl, by kernel_rfl, by kernel_rfl, by kernel_rfl, by kernel_rfl⟩
def ty18 : TyD := ⟨.struct [(0, 1, 17)], 1, 8, [.v (.pointer none)]⟩
theorem tyOk18 : TyOk Tryd.prog 18 ty18 := ⟨by kernel_rfl, by kernel_rfl, by kernel_rfl, by kernel_rfl, by kernel_rfl, by kernel_rfl, by kernel_rfl⟩
def ty19 : TyD := ⟨.struct [(0, 1, 17)], 1, 8, [.v (.pointer none)]⟩
theorem tyOk19 : TyOk Tryd.prog 19 ty19 := ⟨by kernel_rfl, by kernel_rfl, by kernel_rfl, by kernel_rfl, by kernel_rfl, by kernel_rfl, by kernel_rfl⟩
def ty21 : TyD := ⟨.int .i32, 1, 4, [.i .i32 0]⟩
theorem tyOk21 : TyOk Tryd.prog 21 ty21 := ⟨by kernel_rfl, by kernel_rfl, by kernel_rfl, by kernel_rfl, by kernel_rfl, by kernel_rfl, by kernel_rfl⟩
def ty22 : TyD := ⟨.int .u16, 1, 2, [.i .u16 0]⟩
theorem tyOk22 : TyOk Tryd.prog 22 ty22 := ⟨by kernel_rfl, by kernel_rfl, by kernel_rfl, by kernel_rfl, by kernel_rfl, by kernel_rfl, by kernel_rfl⟩
def ty23 : TyD := ⟨.int .u32, 1, 4, [.i .u32 0]⟩
theorem tyOk23 : TyOk Tryd.prog 23 ty23 := ⟨by kernel_rfl, by kernel_rfl, by kernel_rfl, by kernel_rfl, by kernel_rfl, by kernel_rfl, by kernel_rfl⟩
def ty24 : TyD := ⟨.slice 35, 1, 24, [.v (.slice none 0 0)]⟩
theorem tyOk24 : TyOk Tryd.prog 24 ty24 := ⟨by kernel_rfl, by kernel_rfl, by kernel_rfl, by kernel_rfl, by kernel_rfl, by kernel_rfl, by kernel_rfl⟩
def ty25 : TyD := ⟨.func, 1, 8, [.v .nilFunc]⟩
theorem tyOk25 : TyOk Tryd.prog 25 ty25 := ⟨by kernel_rfl, by kernel_rfl, by kernel_rfl, by kernel_rfl, by kernel_rfl, by kernel_rfl, by kernel_rfl⟩
def ty26 : TyD := ⟨.func, 1, 8, [.v .nilFunc]⟩
theorem tyOk26 : TyOk Tryd.prog 26 ty26 := ⟨by kernel_rfl, by kernel_rfl, by kernel_rfl, by kernel_rfl, by kernel_rfl, by kernel_rfl, by kernel_rfl⟩
def ty27 : TyD := ⟨.slice 30, 1, 24, [.v (.slice none 0 0)]⟩
theorem tyOk27 : TyOk Tryd.prog 27 ty27 := ⟨by kernel_rfl, by kernel_rfl, by kernel_rfl, by kernel_rfl, by kernel_rfl, by kernel_rfl, by kernel_rfl⟩
def ty28 : TyD := ⟨.func, 1, 8, [.v .nilFunc]⟩
theorem tyOk28 : TyOk Tryd.prog 28 ty28 := ⟨by kernel_rfl, by kernel_rfl, by kernel_rfl, by kernel_rfl, by kernel_rfl, by kernel_rfl, by kernel_rfl⟩
def ty29 : TyD := ⟨.struct [(0, 1, 22), (1, 1, 22), (2, 1, 23), (3, 1, 24)], 4, 32, [.i .u16 0, .i .u16 0, .i .u32 0, .v (.slice none 0 0)]⟩
theorem tyOk29 : TyOk Tryd.prog 29 ty29 := ⟨by kernel_rfl, by kernel_rfl, by kernel_rfl, by kernel_rfl, by kernel_rfl, by kernel_rfl, by kernel_rfl⟩
def ty30 : TyD := ⟨.struct [(0, 1, 22), (1, 1, 22), (2, 1, 23), (3, 1, 24)], 4, 32, [.i .u16 0, .i .u16 0, .i .u32 0, .v (.slice none 0 0)]⟩
theorem tyOk30 : TyOk Tryd.prog 30 ty30 := ⟨by kernel_rfl, by kernel_rfl, by kernel_rfl, by kernel_rfl, by kernel_rfl, by kernel_rfl, by kernel_rfl⟩
def ty31 : TyD := ⟨.slice 98, 1, 24, [.v (.slice none 0 0)]⟩
theorem tyOk31 : TyOk Tryd.prog 31 ty31 := ⟨by kernel_rfl, by kernel_rfl, by kernel_rfl, by kernel_rfl, by kernel_rfl, by kernel_rfl, by kernel_rfl⟩
def ty32 : TyD := ⟨.slice 23, 1, 24, [.v (.slice none 0 0)]⟩
theorem tyOk32 : TyOk Tryd.prog 32 ty32 := ⟨by kernel_rfl, by kernel_rfl, by kernel_rfl, by kernel_rfl, by kernel_rfl, by kernel_rfl, by kernel_rfl⟩
def ty33 : TyD := ⟨.slice 80, 1, 24, [.v (.slice none 0 0)]⟩
theorem tyOk33 : TyOk Tryd.prog 33 ty33 := ⟨by kernel_rfl, by kernel_rfl, by kernel_rfl, by kernel_rfl, by kernel_rfl, by kernel_rfl, by kernel_rfl⟩
def ty34 : TyD := ⟨.struct [(0, 1, 3), (1, 1, 3), (2, 1, 23), (3, 1, 23), (4, 1, 23), (5, 1, 23), (6, 1, 22), (7, 1, 22), (8, 1, 22), (9, 1, 22), (10, 1, 31), (11, 1, 32), (12, 1, 33), (13, 1, 9)], 14, 128, [.i .i64 0, .i .i64 0, .i .u32 0, .i .u32 0, .i .u32 0, .i .u32 0, .i .u16 0, .i .u16 0, .i .u16 0, .i .u16 0, .v (.slice none 0 0), .v (.slice none 0 0), .v (.slice none 0 0), .s []]⟩
theorem tyOk34 : TyOk Tryd.prog 34 ty34 := ⟨by kernel_rfl, by kernel_rfl, by kernel_rfl, by kernel_rfl, by kernel_rfl, by kernel_rfl, by kernel_rfl⟩
def ty35 : TyD := ⟨.struct [(0, 1, 3), (1, 1, 3), (2, 1, 23), (3, 1, 23), (4, 1, 23), (5, 1, 23), (6, 1, 22), (7, 1, 22), (8, 1, 22), (9, 1, 22), (10, 1, 31), (11, 1, 32), (12, 1, 33), (13, 1, 9)], 14, 128, [.i .i64 0, .i .i64 0, .i .u32 0, .i .u32 0, .i .u32 0, .i .u32 0, .i .u16 0, .i .u16 0, .i .u16 0, .i .u16 0, .v (.slice none 0 0), .v (.slice none 0 0), .v (.slice none 0 0), .s []]⟩
theorem tyOk35 : TyOk Tryd.prog 35 ty35 := ⟨by kernel_rfl, by kernel_rfl, by kernel_rfl, by kernel_rfl, by kernel_rfl, by kernel_rfl, by kernel_rfl⟩
def ty36 : TyD := ⟨.func, 1, 8, [.v .nilFunc]⟩
theorem tyOk36 : TyOk Tryd.prog 36 ty36 := ⟨by kernel_rfl, by kernel_rfl, by kernel_rfl, by kernel_rfl, by kernel_rfl, by kernel_rfl, by kernel_rfl⟩
def ty37 : TyD := ⟨.func, 1, 8, [.v .nilFunc]⟩
theorem tyOk37 : TyOk Tryd.prog 37 ty37 := ⟨by kernel_rfl, by kernel_rfl, by kernel_rfl, by kernel_rfl, by kernel_rfl, by kernel_rfl, by kernel_rfl⟩
def ty38 : TyD := ⟨.func, 1, 8, [.v .nilFunc]⟩
theorem tyOk38 : TyOk Tryd.prog 38 ty38 := ⟨by kernel_rfl, by kernel_rfl, by kernel_rfl, by kernel_rfl, by kernel_rfl, by kernel_rfl, by kernel_rfl⟩
def ty39 : TyD := ⟨.int .i64, 1, 8, [.i .i64 0]⟩
theorem tyOk39 : TyOk Tryd.prog 39 ty39 := ⟨by kernel_rfl, by kernel_rfl, by kernel_rfl, by kernel_rfl, by kernel_rfl, by kernel_rfl, by kernel_rfl⟩
def ty41 : TyD := ⟨.func, 1, 8, [.v .nilFunc]⟩
theorem tyOk41 : TyOk Tryd.prog 41 ty41 := ⟨by kernel_rfl, by kernel_rfl, by kernel_rfl, by kernel_rfl, by kernel_rfl, by kernel_rfl, by kernel_rfl⟩
def ty43 : TyD := ⟨.func, 1, 8, [.v .nilFunc]⟩
theorem tyOk43 : TyOk Tryd.prog 43 ty43 := ⟨by kernel_rfl, by kernel_rfl, by kernel_rfl, by kernel_rfl, by kernel_rfl, by kernel_rfl, by kernel_rfl⟩
def ty44 : TyD := ⟨.func, 1, 8, [.v .nilFunc]⟩
theorem tyOk44 : TyOk Tryd.prog 44 ty44 := ⟨by kernel_rfl, by kernel_rfl, by kernel_rfl, by kernel_rfl, by kernel_rfl, by kernel_rfl, by kernel_rfl⟩
def ty45 : TyD := ⟨.slice 77, 1, 24, [.v (.slice none 0 0)]⟩
theorem tyOk45 : TyOk Tryd.prog 45 ty45 := ⟨by kernel_rfl, by kernel_rfl, by kernel_rfl, by kernel_rfl, by kernel_rfl, by kernel_rfl, by kernel_rfl⟩
def ty46 : TyD := ⟨.struct [(0, 1, 22), (1, 1, 22), (2, 1, 23), (3, 1, 45)], 4, 32, [.i .u16 0, .i .u16 0, .i .u32 0, .v (.slice none 0 0)]⟩
theorem tyOk46 : TyOk Tryd.prog 46 ty46 := ⟨by kernel_rfl, by kernel_rfl, by kernel_rfl, by kernel_rfl, by kernel_rfl, by kernel_rfl, by kernel_rfl⟩
def ty47 : TyD := ⟨.struct [(0, 1, 22), (1, 1, 22), (2, 1, 23), (3, 1, 45)], 4, 32, [.i .u16 0, .i .u16 0, .i .u32 0, .v (.slice none 0 0)]⟩
theorem tyOk47 : TyOk Tryd.prog 47 ty47 := ⟨by kernel_rfl, by kernel_rfl, by kernel_rfl, by kernel_rfl, by kernel_rfl, by kernel_rfl, by kernel_rfl⟩
def ty48 : TyD := ⟨.func, 1, 8, [.v .nilFunc]⟩
theorem tyOk48 : TyOk Tryd.prog 48 ty48 := ⟨by kernel_rfl, by kernel_rfl, by kernel_rfl, by kernel_rfl, by kernel_rfl, by kernel_rfl, by kernel_rfl⟩
def ty49 : TyD := ⟨.slice 5, 1, 24, [.v (.slice none 0 0)]⟩
theorem tyOk49 : TyOk Tryd.prog 49 ty49 := ⟨by kernel_rfl, by kernel_rfl, by kernel_rfl, by kernel_rfl, by kernel_rfl, by kernel_rfl, by kernel_rfl⟩
def ty50 : TyD := ⟨.func, 1, 8, [.v .nilFunc]⟩
theorem tyOk50 : TyOk Tryd.prog 50 ty50 := ⟨by kernel_rfl, by kernel_rfl, by kernel_rfl, by kernel_rfl, by kernel_rfl, by kernel_rfl, by kernel_rfl⟩
def ty51 : TyD := ⟨.int .u64, 1, 8, [.i .u64 0]⟩
theorem tyOk51 : TyOk Tryd.prog 51 ty51 := ⟨by kernel_rfl, by kernel_rfl, by kernel_rfl, by kernel_rfl, by kernel_rfl, by kernel_rfl, by kernel_rfl⟩
def ty52 : TyD := ⟨.func, 1, 8, [.v .nilFunc]⟩
theorem tyOk52 : TyOk Tryd.prog 52 ty52 := ⟨by kernel_rfl, by kernel_rfl, by kernel_rfl, by kernel_rfl, by kernel_rfl, by kernel_rfl, by kernel_rfl⟩
def ty53 : TyD := ⟨.func, 1, 8, [.v .nilFunc]⟩
theorem tyOk53 : TyOk Tryd.prog 53 ty53 := ⟨by kernel_rfl, by kernel_rfl, by kernel_rfl, by kernel_rfl, by kernel_rfl, by kernel_rfl, by kernel_rfl⟩
def ty54 : TyD := ⟨.func, 1, 8, [.v .nilFunc]⟩
theorem tyOk54 : TyOk Tryd.prog 54 ty54 := ⟨by kernel_rfl, by kernel_rfl, by kernel_rfl, by kernel_rfl, by kernel_rfl, by kernel_rfl, by kernel_rfl⟩
def ty55 : TyD := ⟨.func, 1, 8, [.v .nilFunc]⟩
theorem tyOk55 : TyOk Tryd.prog 55 ty55 := ⟨by kernel_rfl, by kernel_rfl, by kernel_rfl, by kernel_rfl, by kernel_rfl, by kernel_rfl, by kernel_rfl⟩
def ty56 : TyD := ⟨.func, 1, 8, [.v .nilFunc]⟩
theorem tyOk56 : TyOk Tryd.prog 56 ty56 := ⟨by kernel_rfl, by kernel_rfl, by kernel_rfl, by kernel_rfl, by kernel_rfl, by kernel_rfl, by kernel_rfl⟩
def ty58 : TyD := ⟨.func, 1, 8, [.v .nilFunc]⟩
theorem tyOk58 : TyOk Tryd.prog 58 ty58 := ⟨by kernel_rfl, by kernel_rfl, by kernel_rfl, by kernel_rfl, by kernel_rfl, by kernel_rfl, by kernel_rfl⟩
def ty59 : TyD := ⟨.func, 1, 8, [.v .nilFunc]⟩
theorem tyOk59 : TyOk Tryd.prog 59 ty59 := ⟨by kernel_rfl, by kernel_rfl, by kernel_rfl, by kernel_rfl, by kernel_rfl, by kernel_rfl, by kernel_rfl⟩
def ty60 : TyD := ⟨.pointer 62, 1, 8, [.v (.pointer none)]⟩
theorem tyOk60 : TyOk Tryd.prog 60 ty60 := ⟨by kernel_rfl, by kernel_rfl, by kernel_rfl, by kernel_rfl, by kernel_rfl, by kernel_rfl, by kernel_rfl⟩
def ty61 : TyD := ⟨.struct [(0, 1, 60), (1, 1, 49)], 2, 32, [.v (.pointer none), .v (.slice none 0 0)]⟩
theorem tyOk61 : TyOk Tryd.prog 61 ty61 := ⟨by kernel_rfl, by kernel_rfl, by kernel_rfl, by kernel_rfl, by kernel_rfl, by kernel_rfl, by kernel_rfl⟩
def ty62 : TyD := ⟨.struct [(0, 1, 60), (1, 1, 49)], 2, 32, [.v (.pointer none), .v (.slice none 0 0)]⟩
theorem tyOk62 : TyOk Tryd.prog 62 ty62 := ⟨by kernel_rfl, by kernel_rfl, by kernel_rfl, by kernel_rfl, by kernel_rfl, by kernel_rfl, by kernel_rfl⟩
def ty66 : TyD := ⟨.func, 1, 8, [.v .nilFunc]⟩
theorem tyOk66 : TyOk Tryd.prog 66 ty66 := ⟨by kernel_rfl, by kernel_rfl, by kernel_rfl, by kernel_rfl, by kernel_rfl, by kernel_rfl, by kernel_rfl⟩
def ty67 : TyD := ⟨.func, 1, 8, [.v .nilFunc]⟩
theorem tyOk67 : TyOk Tryd.prog 67 ty67 := ⟨by kernel_rfl, by kernel_rfl, by kernel_rfl, by kernel_rfl, by kernel_rfl, by kernel_rfl, by kernel_rfl⟩
def ty68 : TyD := ⟨.func, 1, 8, [.v .nilFunc]⟩
theorem tyOk68 : TyOk Tryd.prog 68 ty68 := ⟨by kernel_rfl, by kernel_rfl, by kernel_rfl, by kernel_rfl, by kernel_rfl, by kernel_rfl, by kernel_rfl⟩
def ty69 : TyD := ⟨.func, 1, 8, [.v .nilFunc]⟩
theorem tyOk69 : TyOk Tryd.prog 69 ty69 := ⟨by kernel_rfl, by kernel_rfl, by kernel_rfl, by kernel_rfl, by kernel_rfl, by kernel_rfl, by kernel_rfl⟩
def ty70 : TyD := ⟨.func, 1, 8, [.v .nilFunc]⟩
theorem tyOk70 : TyOk Tryd.prog 70 ty70 := ⟨by kernel_rfl, by kernel_rfl, by kernel_rfl, by kernel_rfl, by kernel_rfl, by kernel_rfl, by kernel_rfl⟩
def ty71 : TyD := ⟨.func, 1, 8, [.v .nilFunc]⟩
theorem tyOk71 : TyOk Tryd.prog 71 ty71 := ⟨by kernel_rfl, by kernel_rfl, by kernel_rfl, by kernel_rfl, by kernel_rfl, by kernel_rfl, by kernel_rfl⟩
def ty73 : TyD := ⟨.func, 1, 8, [.v .nilFunc]⟩
theorem tyOk73 : TyOk Tryd.prog 73 ty73 := ⟨by kernel_rfl, by kernel_rfl, by kernel_rfl, by kernel_rfl, by kernel_rfl, by kernel_rfl, by kernel_rfl⟩
def ty74 : TyD := ⟨.func, 1, 8, [.v .nilFunc]⟩
theorem tyOk74 : TyOk Tryd.prog 74 ty74 := ⟨by kernel_rfl, by kernel_rfl, by kernel_rfl, by kernel_rfl, by kernel_rfl, by kernel_rfl, by kernel_rfl⟩
def ty75 : TyD := ⟨.slice 99, 1, 24, [.v (.slice none 0 0)]⟩
theorem tyOk75 : TyOk Tryd.prog 75 ty75 := ⟨by kernel_rfl, by kernel_rfl, by kernel_rfl, by kernel_rfl, by kernel_rfl, by kernel_rfl, by kernel_rfl⟩
def ty76 : TyD := ⟨.struct [(0, 1, 3), (1, 1, 3), (2, 1, 23), (3, 1, 23), (4, 1, 23), (5, 1, 23), (6, 1, 22), (7, 1, 22), (8, 1, 22), (9, 1, 22), (10, 1, 31), (11, 1, 32), (12, 1, 75), (13, 1, 9)], 14, 128, [.i .i64 0, .i .i64 0, .i .u32 0, .i .u32 0, .i .u32 0, .i .u32 0, .i .u16 0, .i .u16 0, .i .u16 0, .i .u16 0, .v (.slice none 0 0), .v (.slice none 0 0), .v (.slice none 0 0), .s []]⟩
theorem tyOk76 : TyOk Tryd.prog 76 ty76 := ⟨by kernel_rfl, by kernel_rfl, by kernel_rfl, by kernel_rfl, by kernel_rfl, by kernel_rfl, by kernel_rfl⟩
def ty77 : TyD := ⟨.struct [(0, 1, 3), (1, 1, 3), (2, 1, 23), (3, 1, 23), (4, 1, 23), (5, 1, 23), (6, 1, 22), (7, 1, 22), (8, 1, 22), (9, 1, 22), (10, 1, 31), (11, 1, 32), (12, 1, 75), (13, 1, 9)], 14, 128, [.i .i64 0, .i .i64 0, .i .u32 0, .i .u32 0, .i .u32 0, .i .u32 0, .i .u16 0, .i .u16 0, .i .u16 0, .i .u16 0, .v (.slice none 0 0), .v (.slice none 0 0), .v (.slice none 0 0), .s []]⟩
theorem tyOk77 : TyOk Tryd.prog 77 ty77 := ⟨by kernel_rfl, by kernel_rfl, by kernel_rfl, by kernel_rfl, by kernel_rfl, by kernel_rfl, by kernel_rfl⟩
def ty78 : TyD := ⟨.func, 1, 8, [.v .nilFunc]⟩
theorem tyOk78 : TyOk Tryd.prog 78 ty78 := ⟨by kernel_rfl, by kernel_rfl, by kernel_rfl, by kernel_rfl, by kernel_rfl, by kernel_rfl, by kernel_rfl⟩
def ty79 : TyD := ⟨.struct [(0, 1, 3), (1, 1, 9)], 2, 24, [.i .i64 0, .s []]⟩
theorem tyOk79 : TyOk Tryd.prog 79 ty79 := ⟨by kernel_rfl, by kernel_rfl, by kernel_rfl, by kernel_rfl, by kernel_rfl, by kernel_rfl, by kernel_rfl⟩
def ty80 : TyD := ⟨.struct [(0, 1, 3), (1, 1, 9)], 2, 24, [.i .i64 0, .s []]⟩
theorem tyOk80 : TyOk Tryd.prog 80 ty80 := ⟨by kernel_rfl, by kernel_rfl, by kernel_rfl, by kernel_rfl, by kernel_rfl, by kernel_rfl, by kernel_rfl⟩
def ty81 : TyD := ⟨.func, 1, 8, [.v .nilFunc]⟩
theorem tyOk81 : TyOk Tryd.prog 81 ty81 := ⟨by kernel_rfl, by kernel_rfl, by kernel_rfl, by kernel_rfl, by kernel_rfl, by kernel_rfl, by kernel_rfl⟩
def ty82 : TyD := ⟨.slice 3, 1, 24, [.v (.slice none 0 0)]⟩
theorem tyOk82 : TyOk Tryd.prog 82 ty82 := ⟨by kernel_rfl, by kernel_rfl, by kernel_rfl, by kernel_rfl, by kernel_rfl, by kernel_rfl, by kernel_rfl⟩
def ty84 : TyD := ⟨.func, 1, 8, [.v .nilFunc]⟩
theorem tyOk84 : TyOk Tryd.prog 84 ty84 := ⟨by kernel_rfl, by kernel_rfl, by kernel_rfl, by kernel_rfl, by kernel_rfl, by kernel_rfl, by kernel_rfl⟩
def ty85 : TyD := ⟨.func, 1, 8, [.v .nilFunc]⟩
theorem tyOk85 : TyOk Tryd.prog 85 ty85 := ⟨by kernel_rfl, by kernel_rfl, by kernel_rfl, by kernel_rfl, by kernel_rfl, by kernel_rfl, by kernel_rfl⟩
def ty86 : TyD := ⟨.func, 1, 8, [.v .nilFunc]⟩
theorem tyOk86 : TyOk Tryd.prog 86 ty86 := ⟨by kernel_rfl, by kernel_rfl, by kernel_rfl, by kernel_rfl, by kernel_rfl, by kernel_rfl, by kernel_rfl⟩
def ty87 : TyD := ⟨.func, 1, 8, [.v .nilFunc]⟩
theorem tyOk87 : TyOk Tryd.prog 87 ty87 := ⟨by kernel_rfl, by kernel_rfl, by kernel_rfl, by kernel_rfl, by kernel_rfl, by kernel_rfl, by kernel_rfl⟩
def ty88 : TyD := ⟨.func, 1, 8, [.v .nilFunc]⟩
theorem tyOk88 : TyOk Tryd.prog 88 ty88 := ⟨by kernel_rfl, by kernel_rfl, by kernel_rfl, by kernel_rfl, by kernel_rfl, by kernel_rfl, by kernel_rfl⟩
def ty89 : TyD := ⟨.func, 1, 8, [.v .nilFunc]⟩
theorem tyOk89 : TyOk Tryd.prog 89 ty89 := ⟨by kernel_rfl, by kernel_rfl, by kernel_rfl, by kernel_rfl, by kernel_rfl, by kernel_rfl, by kernel_rfl⟩
def ty90 : TyD := ⟨.func, 1, 8, [.v .nilFunc]⟩
theorem tyOk90 : TyOk Tryd.prog 90 ty90 := ⟨by kernel_rfl, by kernel_rfl, by kernel_rfl, by kernel_rfl, by kernel_rfl, by kernel_rfl, by kernel_rfl⟩
def ty91 : TyD := ⟨.pointer 5, 1, 8, [.v (.pointer none)]⟩
theorem tyOk91 : TyOk Tryd.prog 91 ty91 := ⟨by kernel_rfl, by kernel_rfl, by kernel_rfl, by kernel_rfl, by kernel_rfl, by kernel_rfl, by kernel_rfl⟩
def ty92 : TyD := ⟨.pointer 94, 1, 8, [.v (.pointer none)]⟩
theorem tyOk92 : TyOk Tryd.prog 92 ty92 := ⟨by kernel_rfl, by kernel_rfl, by kernel_rfl, by kernel_rfl, by kernel_rfl, by kernel_rfl, by kernel_rfl⟩
def ty93 : TyD := ⟨.struct [(0, 1, 9), (1, 1, 4)], 2, 24, [.s [], .b false]⟩
theorem tyOk93 : TyOk Tryd.prog 93 ty93 := ⟨by kernel_rfl, by kernel_rfl, by kernel_rfl, by kernel_rfl, by kernel_rfl, by kernel_rfl, by kernel_rfl⟩
def ty94 : TyD := ⟨.struct [(0, 1, 9), (1, 1, 4)], 2, 24, [.s [], .b false]⟩
theorem tyOk94 : TyOk Tryd.prog 94 ty94 := ⟨by kernel_rfl, by kernel_rfl, by kernel_rfl, by kernel_rfl, by kernel_rfl, by kernel_rfl, by kernel_rfl⟩
def ty95 : TyD := ⟨.func, 1, 8, [.v .nilFunc]⟩
theorem tyOk95 : TyOk Tryd.prog 95 ty95 := ⟨by kernel_rfl, by kernel_rfl, by kernel_rfl, by kernel_rfl, by kernel_rfl, by kernel_rfl, by kernel_rfl⟩
def ty96 : TyD := ⟨.pointer 35, 1, 8, [.v (.pointer none)]⟩
theorem tyOk96 : TyOk Tryd.prog 96 ty96 := ⟨by kernel_rfl, by kernel_rfl, by kernel_rfl, by kernel_rfl, by kernel_rfl, by kernel_rfl, by kernel_rfl⟩
def ty97 : TyD := ⟨.func, 1, 8, [.v .nilFunc]⟩
theorem tyOk97 : TyOk Tryd.prog 97 ty97 := ⟨by kernel_rfl, by kernel_rfl, by kernel_rfl, by kernel_rfl, by kernel_rfl, by kernel_rfl, by kernel_rfl⟩
def ty98 : TyD := ⟨.array 2 22, 2, 4, [.i .u16 0, .i .u16 0]⟩
theorem tyOk98 : TyOk Tryd.prog 98 ty98 := ⟨by kernel_rfl, by kernel_rfl, by kernel_rfl, by kernel_rfl, by kernel_rfl, by kernel_rfl, by kernel_rfl⟩
def ty99 : TyD := ⟨.struct [(0, 1, 3), (1, 1, 9)], 2, 24, [.i .i64 0, .s []]⟩
theorem tyOk99 : TyOk Tryd.prog 99 ty99 := ⟨by kernel_rfl, by kernel_rfl, by kernel_rfl, by kernel_rfl, by kernel_rfl, by kernel_rfl, by kernel_rfl⟩
def ty100 : TyD := ⟨.func, 1, 8, [.v .nilFunc]⟩
theorem tyOk100 : TyOk Tryd.prog 100 ty100 := ⟨by kernel_rfl, by kernel_rfl, by kernel_rfl, by kernel_rfl, by kernel_rfl, by kernel_rfl, by kernel_rfl⟩
def ty102 : TyD := ⟨.func, 1, 8, [.v .nilFunc]⟩
theorem tyOk102 : TyOk Tryd.prog 102 ty102 := ⟨by kernel_rfl, by kernel_rfl, by kernel_rfl, by kernel_rfl, by kernel_rfl, by kernel_rfl, by kernel_rfl⟩
def ty103 : TyD := ⟨.func, 1, 8, [.v .nilFunc]⟩
theorem tyOk103 : TyOk Tryd.prog 103 ty103 := ⟨by kernel_rfl, by kernel_rfl, by kernel_rfl, by kernel_rfl, by kernel_rfl, by kernel_rfl, by kernel_rfl⟩
def ty104 : TyD := ⟨.func, 1, 8, [.v .nilFunc]⟩
theorem tyOk104 : TyOk Tryd.prog 104 ty104 := ⟨by kernel_rfl, by kernel_rfl, by kernel_rfl, by kernel_rfl, by kernel_rfl, by kernel_rfl, by kernel_rfl⟩
def ty105 : TyD := ⟨.func, 1, 8, [.v .nilFunc]⟩
theorem tyOk105 : TyOk Tryd.prog 105 ty105 := ⟨by kernel_rfl, by kernel_rfl, by kernel_rfl, by kernel_rfl, by kernel_rfl, by kernel_rfl, by kernel_rfl⟩
def ty106 : TyD := ⟨.func, 1, 8, [.v .nilFunc]⟩
theorem tyOk106 : TyOk Tryd.prog 106 ty106 := ⟨by kernel_rfl, by kernel_rfl, by kernel_rfl, by kernel_rfl, by kernel_rfl, by kernel_rfl, by kernel_rfl⟩
def ty107 : TyD := ⟨.func, 1, 8, [.v .nilFunc]⟩
theorem tyOk107 : TyOk Tryd.prog 107 ty107 := ⟨by kernel_rfl, by kernel_rfl, by kernel_rfl, by kernel_rfl, by kernel_rfl, by kernel_rfl, by kernel_rfl⟩
def ty108 : TyD := ⟨.func, 1, 8, [.v .nilFunc]⟩
theorem tyOk108 : TyOk Tryd.prog 108 ty108 := ⟨by kernel_rfl, by kernel_rfl, by kernel_rfl, by kernel_rfl, by kernel_rfl, by kernel_rfl, by kernel_rfl⟩
def ty109 : TyD := ⟨.func, 1, 8, [.v .nilFunc]⟩
theorem tyOk109 : TyOk Tryd.prog 109 ty109 := ⟨by kernel_rfl, by kernel_rfl, by kernel_rfl, by kernel_rfl, by kernel_rfl, by kernel_rfl, by kernel_rfl⟩
def ty110 : TyD := ⟨.func, 1, 8, [.v .nilFunc]⟩
theorem tyOk110 : TyOk Tryd.prog 110 ty110 := ⟨by kernel_rfl, by kernel_rfl, by kernel_rfl, by kernel_rfl, by kernel_rfl, by kernel_rfl, by kernel_rfl⟩
def ty111 : TyD := ⟨.func, 1, 8, [.v .nilFunc]⟩
theorem tyOk111 : TyOk Tryd.prog 111 ty111 := ⟨by kernel_rfl, by kernel_rfl, by kernel_rfl, by kernel_rfl, by kernel_rfl, by kernel_rfl, by kernel_rfl⟩
def ty112 : TyD := ⟨.func, 1, 8, [.v .nilFunc]⟩
theorem tyOk112 : TyOk Tryd.prog 112 ty112 := ⟨by kernel_rfl, by kernel_rfl, by kernel_rfl, by kernel_rfl, by kernel_rfl, by kernel_rfl, by kernel_rfl⟩
def ty113 : TyD := ⟨.slice 22, 1, 24, [.v (.slice none 0 0)]⟩
theorem tyOk113 : TyOk Tryd.prog 113 ty113 := ⟨by kernel_rfl, by kernel_rfl, by kernel_rfl, by kernel_rfl, by kernel_rfl, by kernel_rfl, by kernel_rfl⟩
def ty114 : TyD := ⟨.func, 1, 8, [.v .nilFunc]⟩
theorem tyOk114 : TyOk Tryd.prog 114 ty114 := ⟨by kernel_rfl, by kernel_rfl, by kernel_rfl, by kernel_rfl, by kernel_rfl, by kernel_rfl, by kernel_rfl⟩
def ty115 : TyD := ⟨.func, 1, 8, [.v .nilFunc]⟩
theorem tyOk115 : TyOk Tryd.prog 115 ty115 := ⟨by kernel_rfl, by kernel_rfl, by kernel_rfl, by kernel_rfl, by kernel_rfl, by kernel_rfl, by kernel_rfl⟩
def ty116 : TyD := ⟨.func, 1, 8, [.v .nilFunc]⟩
theorem tyOk116 : TyOk Tryd.prog 116 ty116 := ⟨by kernel_rfl, by kernel_rfl, by kernel_rfl, by kernel_rfl, by kernel_rfl, by kernel_rfl, by kernel_rfl⟩
def ty117 : TyD := ⟨.func, 1, 8, [.v .nilFunc]⟩
theorem tyOk117 : TyOk Tryd.prog 117 ty117 := ⟨by kernel_rfl, by kernel_rfl, by kernel_rfl, by kernel_rfl, by kernel_rfl, by kernel_rfl, by kernel_rfl⟩
def ty118 : TyD := ⟨.func, 1, 8, [.v .nilFunc]⟩
theorem tyOk118 : TyOk Tryd.prog 118 ty118 := ⟨by kernel_rfl, by kernel_rfl, by kernel_rfl, by kernel_rfl, by kernel_rfl, by kernel_rfl, by kernel_rfl⟩
def ty122 : TyD := ⟨.func, 1, 8, [.v .nilFunc]⟩
theorem tyOk122 : TyOk Tryd.prog 122 ty122 := ⟨by kernel_rfl, by kernel_rfl, by kernel_rfl, by kernel_rfl, by kernel_rfl, by kernel_rfl, by kernel_rfl⟩
def ty123 : TyD := ⟨.func, 1, 8, [.v .nilFunc]⟩
theorem tyOk123 : TyOk Tryd.prog 123 ty123 := ⟨by kernel_rfl, by kernel_rfl, by kernel_rfl, by kernel_rfl, by kernel_rfl, by kernel_rfl, by kernel_rfl⟩
def ty124 : TyD := ⟨.pointer 120, 1, 8, [.v (.pointer none)]⟩
theorem tyOk124 : TyOk Tryd.prog 124 ty124 := ⟨by kernel_rfl, by kernel_rfl, by kernel_rfl, by kernel_rfl, by kernel_rfl, by kernel_rfl, by kernel_rfl⟩
def ty125 : TyD := ⟨.func, 1, 8, [.v .nilFunc]⟩
theorem tyOk125 : TyOk Tryd.prog 125 ty125 := ⟨by kernel_rfl, by kernel_rfl, by kernel_rfl, by kernel_rfl, by kernel_rfl, by kernel_rfl, by kernel_rfl⟩
def ty127 : TyD := ⟨.func, 1, 8, [.v .nilFunc]⟩
theorem tyOk127 : TyOk Tryd.prog 127 ty127 := ⟨by kernel_rfl, by kernel_rfl, by kernel_rfl, by kernel_rfl, by kernel_rfl, by kernel_rfl, by kernel_rfl⟩
def ty128 : TyD := ⟨.func, 1, 8, [.v .nilFunc]⟩
theorem tyOk128 : TyOk Tryd.prog 128 ty128 := ⟨by kernel_rfl, by kernel_rfl, by kernel_rfl, by kernel_rfl, by kernel_rfl, by kernel_rfl, by kernel_rfl⟩
def ty129 : TyD := ⟨.func, 1, 8, [.v .nilFunc]⟩
theorem tyOk129 : TyOk Tryd.prog 129 ty129 := ⟨by kernel_rfl, by kernel_rfl, by kernel_rfl, by kernel_rfl, by kernel_rfl, by kernel_rfl, by kernel_rfl⟩
def ty130 : TyD := ⟨.func, 1, 8, [.v .nilFunc]⟩
theorem tyOk130 : TyOk Tryd.prog 130 ty130 := ⟨by kernel_rfl, by kernel_rfl, by kernel_rfl, by kernel_rfl, by kernel_rfl, by kernel_rfl, by kernel_rfl⟩
def ty131 : TyD := ⟨.int .u64, 1, 8, [.i .u64 0]⟩
theorem tyOk131 : TyOk Tryd.prog 131 ty131 := ⟨by kernel_rfl, by kernel_rfl, by kernel_rfl, by kernel_rfl, by kernel_rfl, by kernel_rfl, by kernel_rfl⟩
def ty132 : TyD := ⟨.pointer 144, 1, 8, [.v (.pointer none)]⟩
theorem tyOk132 : TyOk Tryd.prog 132 ty132 := ⟨by kernel_rfl, by kernel_rfl, by kernel_rfl, by kernel_rfl, by kernel_rfl, by kernel_rfl, by kernel_rfl⟩
def ty133 : TyD := ⟨.func, 1, 8, [.v .nilFunc]⟩
theorem tyOk133 : TyOk Tryd.prog 133 ty133 := ⟨by kernel_rfl, by kernel_rfl, by kernel_rfl, by kernel_rfl, by kernel_rfl, by kernel_rfl, by kernel_rfl⟩
def ty135 : TyD := ⟨.func, 1, 8, [.v .nilFunc]⟩
theorem tyOk135 : TyOk Tryd.prog 135 ty135 := ⟨by kernel_rfl, by kernel_rfl, by kernel_rfl, by kernel_rfl, by kernel_rfl, by kernel_rfl, by kernel_rfl⟩
def ty136 : TyD := ⟨.func, 1, 8, [.v .nilFunc]⟩
theorem tyOk136 : TyOk Tryd.prog 136 ty136 := ⟨by kernel_rfl, by kernel_rfl, by kernel_rfl, by kernel_rfl, by kernel_rfl, by kernel_rfl, by kernel_rfl⟩
def ty138 : TyD := ⟨.func, 1, 8, [.v .nilFunc]⟩
theorem tyOk138 : TyOk Tryd.prog 138 ty138 := ⟨by kernel_rfl, by kernel_rfl, by kernel_rfl, by kernel_rfl, by kernel_rfl, by kernel_rfl, by kernel_rfl⟩
def ty139 : TyD := ⟨.func, 1, 8, [.v .nilFunc]⟩
theorem tyOk139 : TyOk Tryd.prog 139 ty139 := ⟨by kernel_rfl, by kernel_rfl, by kernel_rfl, by kernel_rfl, by kernel_rfl, by kernel_rfl, by kernel_rfl⟩
def ty141 : TyD := ⟨.func, 1, 8, [.v .nilFunc]⟩
theorem tyOk141 : TyOk Tryd.prog 141 ty141 := ⟨by kernel_rfl, by kernel_rfl, by kernel_rfl, by kernel_rfl, by kernel_rfl, by kernel_rfl, by kernel_rfl⟩
def ty143 : TyD := ⟨.func, 1, 8, [.v .nilFunc]⟩
theorem tyOk143 : TyOk Tryd.prog 143 ty143 := ⟨by kernel_rfl, by kernel_rfl, by kernel_rfl, by kernel_rfl, by kernel_rfl, by kernel_rfl, by kernel_rfl⟩
def ty145 : TyD := ⟨.func, 1, 8, [.v .nilFunc]⟩
theorem tyOk145 : TyOk Tryd.prog 145 ty145 := ⟨by kernel_rfl, by kernel_rfl, by kernel_rfl, by kernel_rfl, by kernel_rfl, by kernel_rfl, by kernel_rfl⟩
def ty146 : TyD := ⟨.func, 1, 8, [.v .nilFunc]⟩
theorem tyOk146 : TyOk Tryd.prog 146 ty146 := ⟨by kernel_rfl, by kernel_rfl, by kernel_rfl, by kernel_rfl, by kernel_rfl, by kernel_rfl, by kernel_rfl⟩
def ty147 : TyD := ⟨.func, 1, 8, [.v .nilFunc]⟩
theorem tyOk147 : TyOk Tryd.prog 147 ty147 := ⟨by kernel_rfl, by kernel_rfl, by kernel_rfl, by kernel_rfl, by kernel_rfl, by kernel_rfl, by kernel_rfl⟩
def ty148 : TyD := ⟨.struct [(0, 1, 3), (1, 1, 39)], 2, 16, [.i .i64 0, .i .i64 0]⟩
theorem tyOk148 : TyOk Tryd.prog 148 ty148 := ⟨by kernel_rfl, by kernel_rfl, by kernel_rfl, by kernel_rfl, by kernel_rfl, by kernel_rfl, by kernel_rfl⟩
def ty149 : TyD := ⟨.struct [(0, 1, 3), (1, 1, 39)], 2, 16, [.i .i64 0, .i .i64 0]⟩
theorem tyOk149 : TyOk Tryd.prog 149 ty149 := ⟨by kernel_rfl, by kernel_rfl, by kernel_rfl, by kernel_rfl, by kernel_rfl, by kernel_rfl, by kernel_rfl⟩
def ty150 : TyD := ⟨.func, 1, 8, [.v .nilFunc]⟩
theorem tyOk150 : TyOk Tryd.prog 150 ty150 := ⟨by kernel_rfl, by kernel_rfl, by kernel_rfl, by kernel_rfl, by kernel_rfl, by kernel_rfl, by kernel_rfl⟩
def ty151 : TyD := ⟨.func, 1, 8, [.v .nilFunc]⟩
theorem tyOk151 : TyOk Tryd.prog 151 ty151 := ⟨by kernel_rfl, by kernel_rfl, by kernel_rfl, by kernel_rfl, by kernel_rfl, by kernel_rfl, by kernel_rfl⟩
def ty152 : TyD := ⟨.func, 1, 8, [.v .nilFunc]⟩
theorem tyOk152 : TyOk Tryd.prog 152 ty152 := ⟨by kernel_rfl, by kernel_rfl, by kernel_rfl, by kernel_rfl, by kernel_rfl, by kernel_rfl, by kernel_rfl⟩
def ty154 : TyD := ⟨.func, 1, 8, [.v .nilFunc]⟩
theorem tyOk154 : TyOk Tryd.prog 154 ty154 := ⟨by kernel_rfl, by kernel_rfl, by kernel_rfl, by kernel_rfl, by kernel_rfl, by kernel_rfl, by kernel_rfl⟩
def ty156 : TyD := ⟨.struct [(0, 1, 5), (1, 1, 5)], 2, 2, [.i .u8 0, .i .u8 0]⟩
theorem tyOk156 : TyOk Tryd.prog 156 ty156 := ⟨by kernel_rfl, by kernel_rfl, by kernel_rfl, by kernel_rfl, by kernel_rfl, by kernel_rfl, by kernel_rfl⟩
def ty157 : TyD := ⟨.struct [(0, 1, 5), (1, 1, 5)], 2, 2, [.i .u8 0, .i .u8 0]⟩
theorem tyOk157 : TyOk Tryd.prog 157 ty157 := ⟨by kernel_rfl, by kernel_rfl, by kernel_rfl, by kernel_rfl, by kernel_rfl, by kernel_rfl, by kernel_rfl⟩
def ty158 : TyD := ⟨.array 16 157, 32, 32, [.i .u8 0, .i .u8 0, .i .u8 0, .i .u8 0, .i .u8 0, .i .u8 0, .i .u8 0, .i .u8 0, .i .u8 0, .i .u8 0, .i .u8 0, .i .u8 0, .i .u8 0, .i .u8 0, .i .u8 0, .i .u8 0, .i .u8 0, .i .u8 0, .i .u8 0, .i .u8 0, .i .u8 0, .i .u8 0, .i .u8 0, .i .u8 0, .i .u8 0, .i .u8 0, .i .u8 0, .i .u8 0, .i .u8 0, .i .u8 0, .i .u8 0, .i .u8 0]⟩
theorem tyOk158 : TyOk Tryd.prog 158 ty158 := ⟨by kernel_rfl, by kernel_rfl, by kernel_rfl, by kernel_rfl, by kernel_rfl, by kernel_rfl, by kernel_rfl⟩
def ty159 : TyD := ⟨.func, 1, 8, [.v .nilFunc]⟩
theorem tyOk159 : TyOk Tryd.prog 159 ty159 := ⟨by kernel_rfl, by kernel_rfl, by kernel_rfl, by kernel_rfl, by kernel_rfl, by kernel_rfl, by kernel_rfl⟩
def ty160 : TyD := ⟨.func, 1, 8, [.v .nilFunc]⟩
theorem tyOk160 : TyOk Tryd.prog 160 ty160 := ⟨by kernel_rfl, by kernel_rfl, by kernel_rfl, by kernel_rfl, by kernel_rfl, by kernel_rfl, by kernel_rfl⟩
def ty161 : TyD := ⟨.func, 1, 8, [.v .nilFunc]⟩
theorem tyOk161 : TyOk Tryd.prog 161 ty161 := ⟨by kernel_rfl, by kernel_rfl, by kernel_rfl, by kernel_rfl, by kernel_rfl, by kernel_rfl, by kernel_rfl⟩
def ty164 : TyD := ⟨.array 0 16, 0, 0, []⟩
theorem tyOk164 : TyOk Tryd.prog 164 ty164 := ⟨by kernel_rfl, by kernel_rfl, by kernel_rfl, by kernel_rfl, by kernel_rfl, by kernel_rfl, by kernel_rfl⟩
def ty167 : TyD := ⟨.int .u8, 1, 1, [.i .u8 0]⟩
theorem tyOk167 : TyOk Tryd.prog 167 ty167 := ⟨by kernel_rfl, by kernel_rfl, by kernel_rfl, by kernel_rfl, by kernel_rfl, by kernel_rfl, by kernel_rfl⟩
def ty168 : TyD := ⟨.int .u8, 1, 1, [.i .u8 0]⟩
theorem tyOk168 : TyOk Tryd.prog 168 ty168 := ⟨by kernel_rfl, by kernel_rfl, by kernel_rfl, by kernel_rfl, by kernel_rfl, by kernel_rfl, by kernel_rfl⟩
def ty169 : TyD := ⟨.func, 1, 8, [.v .nilFunc]⟩
theorem tyOk169 : TyOk Tryd.prog 169 ty169 := ⟨by kernel_rfl, by kernel_rfl, by kernel_rfl, by kernel_rfl, by kernel_rfl, by kernel_rfl, by kernel_rfl⟩
def ty170 : TyD := ⟨.int .i32, 1, 4, [.i .i32 0]⟩
theorem tyOk170 : TyOk Tryd.prog 170 ty170 := ⟨by kernel_rfl, by kernel_rfl, by kernel_rfl, by kernel_rfl, by kernel_rfl, by kernel_rfl, by kernel_rfl⟩
def ty171 : TyD := ⟨.int .i32, 1, 4, [.i .i32 0]⟩
theorem tyOk171 : TyOk Tryd.prog 171 ty171 := ⟨by kernel_rfl, by kernel_rfl, by kernel_rfl, by kernel_rfl, by kernel_rfl, by kernel_rfl, by kernel_rfl⟩
def ty172 : TyD := ⟨.struct [(0, 1, 12), (1, 1, 12), (2, 1, 23), (3, 1, 167), (4, 1, 5), (5, 1, 5), (6, 1, 168), (7, 1, 169), (8, 1, 91), (9, 1, 170), (10, 1, 171)], 11, 48, [.i .u64 0, .i .u64 0, .i .u32 0, .i .u8 0, .i .u8 0, .i .u8 0, .i .u8 0, .v .nilFunc, .v (.pointer none), .i .i32 0, .i .i32 0]⟩
theorem tyOk172 : TyOk Tryd.prog 172 ty172 := ⟨by kernel_rfl, by kernel_rfl, by kernel_rfl, by kernel_rfl, by kernel_rfl, by kernel_rfl, by kernel_rfl⟩
def ty173 : TyD := ⟨.struct [(0, 1, 12), (1, 1, 12), (2, 1, 23), (3, 1, 167), (4, 1, 5), (5, 1, 5), (6, 1, 168), (7, 1, 169), (8, 1, 91), (9, 1, 170), (10, 1, 171)], 11, 48, [.i .u64 0, .i .u64 0, .i .u32 0, .i .u8 0, .i .u8 0, .i .u8 0, .i .u8 0, .v .nilFunc, .v (.pointer none), .i .i32 0, .i .i32 0]⟩
theorem tyOk173 : TyOk Tryd.prog 173 ty173 := ⟨by kernel_rfl, by kernel_rfl, by kernel_rfl, by kernel_rfl, by kernel_rfl, by kernel_rfl, by kernel_rfl⟩
def tyL : List (Nat × TyD) := [(1, ty1), (2, ty2), (3, ty3), (4, ty4), (5, ty5), (6, ty6), (9, ty9), (12, ty12), (15, ty15), (16, ty16), (17, ty17), (18, ty18), (19, ty19), (21, ty21), (22, ty22), (23, ty23), (24, ty24), (25, ty25), (26, ty26), (27, ty27), (28, ty28), (29, ty29), (30, ty30), (31, ty31), (32, ty32), (33, ty33), (34, ty34), (35, ty35), (36, ty36), (37, ty37), (38, ty38), (39, ty39), (41, ty41), (43, ty43), (44, ty44), (45, ty45), (46, ty46), (47, ty47), (48, ty48), (49, ty49), (50, ty50), (51, ty51), (52, ty52), (53, ty53), (54, ty54), (55, ty55), (56, ty56), (58, ty58), (59, ty59), (60, ty60), (61, ty61), (62, ty62), (66, ty66), (67, ty67), (68, ty68), (69, ty69), (70, ty70), (71, ty71), (73, ty73), (74, ty74), (75, ty75), (76, ty76), (77, ty77), (78, ty78), (79, ty79), (80, ty80), (81, ty81), (82, ty82), (84, ty84), (85, ty85), (86, ty86), (87, ty87), (88, ty88), (89, ty89), (90, ty90), (91, ty91), (92, ty92), (93, ty93), (94, ty94), (95, ty95), (96, ty96), (97, ty97), (98, ty98), (99, ty99), (100, ty100), (102, ty102), (103, ty103), (104, ty104), (105, ty105), (106, ty106), (107, ty107), (108, ty108), (109, ty109), (110, ty110), (111, ty111), (112, ty112), (113, ty113), (114, ty114), (115, ty115), (116, ty116), (117, ty117), (118, ty118), (122, ty122), (123, ty123), (124, ty124), (125, ty125), (127, ty127), (128, ty128), (129, ty129), (130, ty130), (131, ty131), (132, ty132), (133, ty133), (135, ty135), (136, ty136), (138, ty138), (139, ty139), (141, ty141), (143, ty143), (145, ty145), (146, ty146), (147, ty147), (148, ty148), (149, ty149), (150, ty150), (151, ty151), (152, ty152), (154, ty154), (156, ty156), (157, ty157), (158, ty158), (159, ty159), (160, ty160), (161, ty161), (164, ty164), (167, ty167), (168, ty168), (169, ty169), (170, ty170), (171, ty171), (172, ty172), (173, ty173)]
def tys : Tys := ⟨tyL, false, [], [], []⟩
theorem tysOk : TysOk Tryd.prog tys := ⟨tyOk1, tyOk2, tyOk3, tyOk4, tyOk5, tyOk6, tyOk9, tyOk12, tyOk15, tyOk16, tyOk17, tyOk18, tyOk19, tyOk21, tyOk22, tyOk23, tyOk24, tyOk25, tyOk26, tyOk27, tyOk28, tyOk29, tyOk30, tyOk31, tyOk32, tyOk33, tyOk34, tyOk35, tyOk36, tyOk37, tyOk38, tyOk39, tyOk41, tyOk43, tyOk44, tyOk45, tyOk46, tyOk47, tyOk48, tyOk49, tyOk50, tyOk51, tyOk52, tyOk53, tyOk54, tyOk55, tyOk56, tyOk58, tyOk59, tyOk60, tyOk61, tyOk62, tyOk66, tyOk67, tyOk68, tyOk69, tyOk70, tyOk71, tyOk73, tyOk74, tyOk75, tyOk76, tyOk77, tyOk78, tyOk79, tyOk80, tyOk81, tyOk82, tyOk84, tyOk85, tyOk86, tyOk87, tyOk88, tyOk89, tyOk90, tyOk91, tyOk92, tyOk93, tyOk94, tyOk95, tyOk96, tyOk97, tyOk98, tyOk99, tyOk100, tyOk102, tyOk103, tyOk104, tyOk105, tyOk106, tyOk107, tyOk108, tyOk109, tyOk110, tyOk111, tyOk112, tyOk113, tyOk114, tyOk115, tyOk116, tyOk117, tyOk118, tyOk122, tyOk123, tyOk124, tyOk125, tyOk127, tyOk128, tyOk129, tyOk130, tyOk131, tyOk132, tyOk133, tyOk135, tyOk136, tyOk138, tyOk139, tyOk141, tyOk143, tyOk145, tyOk146, tyOk147, tyOk148, tyOk149, tyOk150, tyOk151, tyOk152, tyOk154, tyOk156, tyOk157, tyOk158, tyOk159, tyOk160, tyOk161, tyOk164, tyOk167, tyOk168, tyOk169, tyOk170, tyOk171, tyOk172, tyOk173, trivial⟩
/-- Sums of 64 bits wrap. -/
def tysW : Tys := ⟨tyL, true, [], [], []⟩
theorem tysWOk : TysOk Tryd.prog tysW := tysOk
/-- Calls (by their slots) whose answers are had for good. -/
def tysP (l : List Nat) : Tys := ⟨tyL, false, l, [], []⟩
theorem tysPOk (l : List Nat) : TysOk Tryd.prog (tysP l) := tysOk
def tysWP (l : List Nat) : Tys := ⟨tyL, true, l, [], []⟩
theorem tysWPOk (l : List Nat) : TysOk Tryd.prog (tysWP l) := tysOk
/-- Functions that are lent objects. -/
def tysL (l : List (Nat × List Bool)) : Tys := ⟨tyL, false, [], l, []⟩
theorem tysLOk (l : List (Nat × List Bool)) : TysOk Tryd.prog (tysL l) := tysOk
def tysWL (l : List (Nat × List Bool)) : Tys := ⟨tyL, true, [], l, []⟩
theorem tysWLOk (l : List (Nat × List Bool)) : TysOk Tryd.prog (tysWL l) := tysOk
def tysPL (p : List Nat) (l : List (Nat × List Bool)) : Tys := ⟨tyL, false, p, l, []⟩
theorem tysPLOk (p : List Nat) (l : List (Nat × List Bool)) : TysOk Tryd.prog (tysPL p l) := tysOk
def tysWPL (p : List Nat) (l : List (Nat × List Bool)) : Tys := ⟨tyL, true, p, l, []⟩
theorem tysWPLOk (p : List Nat) (l : List (Nat × List Bool)) : TysOk Tryd.prog (tysWPL p l) := tysOk
/-- All at once: sums, calls, functions that are lent objects, types of boxes. -/
def tysX (w : Bool) (p : List Nat) (l : List (Nat × List Bool)) (g : List Nat) : Tys := ⟨tyL, w, p, l, g⟩
theorem tysXOk (w : Bool) (p : List Nat) (l : List (Nat × List Bool)) (g : List Nat) : TysOk Tryd.prog (tysX w p l g) := tysOk
end Go.Proofs.YtcdondbegnbdgaaDoor
