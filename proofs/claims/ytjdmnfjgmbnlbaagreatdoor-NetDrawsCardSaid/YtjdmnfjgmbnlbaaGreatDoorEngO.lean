/- The engine, part thirteen: what a call is handed, read as plain data. Over any program. -/
import Derived.Test.YtjdmnfjgmbnlbaaGreatDoorEngN
import Derived.Deep.Slices
import Derived.ChangeArms
import Derived.Carry
import Derived.WideShapes
import Derived.OpenShut
namespace Towline
open Go Go.RowKit Go.Deep
set_option linter.unusedVariables false
/-- A type of plain data that is no deeper than n, its fields one behind the other. -/
def plainT (T : Tys) : Nat → TypeId → Bool
  | 0, _ => false
  | n + 1, t => match lookT t T with
    | some ⟨.bool, _, _, _⟩ => true
    | some ⟨.int _, _, _, _⟩ => true
    | some ⟨.string, _, _, _⟩ => true
    | some ⟨.slice e, _, _, _⟩ => match lookT e T with
      | some d => Nat.blt 0 d.size && plainT T n e
      | none => false
    | some ⟨.struct fs, sz, _, _⟩ => laid 0 fs sz && fs.all fun f => plainT T n f.2.2
    | some ⟨.array m e, sz, _, _⟩ => match lookT e T with
      | some d => Nat.beq sz (m * d.size) && plainT T n e
      | none => false
    | _ => false
where laid : Nat → List (Nat × Nat × TypeId) → Nat → Bool
  | o, [], sz => Nat.beq o sz
  | o, (off, s, _) :: r, sz => Nat.beq o off && laid (o + s) r sz
/-- Cells of such a type. -/
def wt (T : Tys) : Nat → TypeId → List D → Prop
  | 0, _, _ => False
  | n + 1, t, l => match lookT t T with
    | some ⟨.bool, _, _, _⟩ => ∃ b, l = [.b b]
    | some ⟨.int k, _, _, _⟩ => ∃ x, l = [.i k x] ∧ (Lit.int k x).wf = true
    | some ⟨.string, _, _, _⟩ => ∃ s : List UInt8, l = [.s s] ∧ s.length ≤ maxLen
    | some ⟨.slice e, _, _, _⟩ => match lookT e T with
      | some d => ∃ (m : Nat) (f : Nat → List D), l = [.sl d.size m f] ∧ m ≤ maxLen ∧ ∀ k, k < m → (f k).length = d.size ∧ wt T n e (f k)
      | none => False
    | some ⟨.struct fs, sz, _, _⟩ => l.length = sz ∧ wtL (wt T n) l fs
    | some ⟨.array m e, sz, _, _⟩ => match lookT e T with
      | some d => l.length = sz ∧ ∀ k, k < m → wt T n e ((l.drop (k * d.size)).take d.size)
      | none => False
    | _ => False
where wtL (p : TypeId → List D → Prop) (l : List D) : List (Nat × Nat × TypeId) → Prop
  | [] => True
  | (off, s, t) :: r => p t ((l.drop off).take s) ∧ wtL p l r
theorem cellsOf_eq {P : Program} {t : TypeId} {d : TyD} (h : TyOk P t d) : P.cellsOf t = d.size := by
  obtain ⟨i, h1, _, h2, _⟩ := h.info'
  simp [Program.cellsOf, h1, h2]
theorem cell_lt {w : World} {a : Addr} {v : Value} (h : w.cell? a = some v) : a.block < w.heap.size := by
  unfold World.cell? at h
  split at h
  · rename_i e; exact (Array.getElem?_eq_some_iff.1 e).1
  · cases h
theorem open_cells {H : Type} {enc : TypeId × Value → H} {P : Program} {T : Tys} {w : World} {base : Nat} {sp : Nat → Bool} {hd : Bool} (hT : TysOk P T) :
    ∀ (n fuel : Nat) (t : TypeId) (cs : List Value) (x : DataW H × List MemPlace), plainT T n t = true → DataW.trod enc P w base sp hd fuel t cs = some x →
      ∃ l : List D, wt T n t l ∧ l.length = cs.length ∧ ∀ (i : Nat) (y : D), l[i]? = some y → RepD w (fun b => b < w.heap.size) y (cs.getD i undef) := by
  intro n
  induction n with
  | zero => intro fuel t cs x hp; simp [plainT] at hp
  | succ n ih =>
    intro fuel t cs x hp h
    unfold plainT at hp
    unfold wt
    split at hp
    · rename_i ht
      obtain ⟨b, rfl, _⟩ := DataW.trod_bool ((hT.get ht).bool rfl) h
      refine ⟨[.b b], ⟨b, rfl⟩, rfl, fun i y hy => ?_⟩
      obtain ⟨rfl, rfl⟩ : i = 0 ∧ y = .b b := by cases i <;> simp_all
      exact .b b
    · rename_i k _ _ _ ht
      obtain ⟨m, rfl, _, hw⟩ := DataW.trod_int ((hT.get ht).int rfl) h
      refine ⟨[.i k m], ⟨m, rfl, hw⟩, rfl, fun i y hy => ?_⟩
      obtain ⟨rfl, rfl⟩ : i = 0 ∧ y = .i k m := by cases i <;> simp_all
      exact .i k m
    · rename_i ht
      obtain ⟨s, rfl, _, hs⟩ := DataW.trod_string ((hT.get ht).string rfl) h
      refine ⟨[.s s.data.toList], ⟨s.data.toList, rfl, by simpa using hs⟩, rfl, fun i y hy => ?_⟩
      obtain ⟨rfl, rfl⟩ : i = 0 ∧ y = .s s.data.toList := by cases i <;> simp_all
      have := RepD.s (w := w) (good := fun b => b < w.heap.size) s.data.toList
      simpa using this
    · rename_i e _ _ _ ht
      split at hp
      · rename_i d hde
        simp only [Bool.and_eq_true] at hp
        have hpos : 1 ≤ d.size := by simpa [Nat.blt] using hp.1
        have hcell := cellsOf_eq (hT.get hde)
        rcases open_slice ((hT.get ht).slice rfl) h with ⟨rfl, _⟩ | ⟨a, len, cap, m, n', Dx, Pl, rfl, hb, hl, hm, hmm, _, hx⟩
        · refine ⟨[.sl d.size 0 fun _ => []], ⟨0, _, rfl, Nat.zero_le _, fun k hk => absurd hk (Nat.not_lt_zero k)⟩, rfl, fun i y hy => ?_⟩
          obtain ⟨rfl, rfl⟩ : i = 0 ∧ y = .sl d.size 0 fun _ => [] := by cases i <;> simp_all
          exact .sl0 _ _ _ _ (Nat.zero_le _)
        · have hlm : len ≤ m := by rw [hmm]; split <;> omega
          have hel : ∀ i, i < len → ∃ p : List D × List Value, p.1.length = d.size ∧ wt T n e p.1 ∧ (∀ j, j < d.size → w.cell? (a.add (i * d.size + j)) = some (p.2.getD j undef)) ∧ ∀ (j : Nat) (y : D), p.1[j]? = some y → RepD w (fun b => b < w.heap.size) y (p.2.getD j undef) := by
            intro i hi
            obtain ⟨cs', h1, h2⟩ := hx i (by omega)
            rw [hcell] at h1
            obtain ⟨_, c1, c2⟩ := World.cells?_some h1
            obtain ⟨l, k1, k2, k3⟩ := ih n' e cs' _ hp.2 h2
            refine ⟨(l, cs'), by simp only; omega, k1, fun j hj => ?_, k3⟩
            have := c2 j hj
            rw [add_add] at this
            rw [this, List.getD_eq_getElem?_getD, List.getElem?_eq_getElem (by omega)]
            rfl
          obtain ⟨f, hf⟩ := choose_lt hel
          refine ⟨[.sl d.size len fun k => (f k).1], ⟨len, _, rfl, by omega, fun k hk => ⟨(hf k hk).1, (hf k hk).2.1⟩⟩, rfl, fun i y hy => ?_⟩
          obtain ⟨rfl, rfl⟩ : i = 0 ∧ y = .sl d.size len fun k => (f k).1 := by cases i <;> simp_all
          simp only [List.getD_cons_zero]
          rcases Nat.eq_zero_or_pos len with rfl | hlen
          · exact .sl0 _ _ _ _ (by omega)
          · have h00 := (hf 0 hlen).2.2.1 0 hpos
            have e0 : a.add (0 * d.size + 0) = a := by simp [Addr.add]
            rw [e0] at h00
            have hspot := World.cell?_spot h00
            have hblk := cell_lt h00
            obtain ⟨b, o, spot⟩ := a
            simp only at hspot
            subst hspot
            refine .sl d.size len _ b o cap (fun k j => (f k).2.getD j undef) hlen hl hm hblk hblk (fun k hk => (hf k hk).1) (fun k hk j hj => ?_) (fun k hk j y hy => (hf k hk).2.2.2 j y hy)
            have := (hf k hk).2.2.1 j hj
            rw [← this]
            congr 1
            unfold Addr.add
            split
            · rename_i hz; rw [Nat.add_assoc, hz, Nat.add_zero]
            · simp [Nat.add_assoc]
      · cases hp
    · rename_i fs sz _ _ ht
      simp only [Bool.and_eq_true] at hp
      obtain ⟨fields, hu, hfs⟩ := (hT.get ht).struct rfl
      obtain ⟨xs, n', _, _, hlen, hxl, hx⟩ := DataW.trod_struct hu h
      have hcell := cellsOf_eq (hT.get ht)
      have hsz : cs.length = sz := by rw [hlen, hcell]
      -- field by field
      have key : ∀ (gs : List Field) (o : Nat), (∀ (i : Nat) (g : Field), gs[i]? = some g → ∃ y, DataW.trod enc P w base sp hd n' g.type ((cs.drop g.offset).take (P.cellsOf g.type)) = some y) →
          plainT.laid o (gs.map fun f => (f.offset, match P.info? f.type with | some i => i.size | none => 0, f.type)) sz = true → ((gs.map fun f => (f.offset, match P.info? f.type with | some i => i.size | none => 0, f.type)).all fun f => plainT T n f.2.2) = true → o ≤ sz →
          ∃ l : List D, l.length = sz - o ∧ (∀ (i : Nat) (y : D), l[i]? = some y → RepD w (fun b => b < w.heap.size) y (cs.getD (o + i) undef)) ∧
            ∀ pre : List D, pre.length = o → wt.wtL (wt T n) (pre ++ l) (gs.map fun f => (f.offset, match P.info? f.type with | some i => i.size | none => 0, f.type)) := by
        intro gs
        induction gs with
        | nil =>
          intro o _ hl _ ho
          have : o = sz := Nat.eq_of_beq_eq_true hl
          exact ⟨[], by simp; omega, fun i y hy => by simp at hy, fun pre _ => trivial⟩
        | cons g gs ihg =>
          intro o hg hl ha ho
          simp only [List.map_cons, plainT.laid, Bool.and_eq_true] at hl
          simp only [List.map_cons, List.all_cons, Bool.and_eq_true] at ha
          obtain ⟨hl1, hl2⟩ := hl
          have hoff : o = g.offset := Nat.eq_of_beq_eq_true hl1
          obtain ⟨y, hy⟩ := hg 0 g rfl
          have hsg : (match P.info? g.type with | some i => i.size | none => 0) = P.cellsOf g.type := by
            unfold Program.cellsOf; cases P.info? g.type <;> rfl
          rw [hsg] at hl2
          obtain ⟨l1, k1, k2, k3⟩ := ih n' g.type _ y ha.1 hy
          have hmono : ∀ (gs : List Field) (o : Nat), plainT.laid o (gs.map fun f => (f.offset, match P.info? f.type with | some i => i.size | none => 0, f.type)) sz = true → o ≤ sz := by
            intro gs
            induction gs with
            | nil => intro o h; exact Nat.le_of_eq (Nat.eq_of_beq_eq_true h)
            | cons g gs ih =>
              intro o h
              simp only [List.map_cons, plainT.laid, Bool.and_eq_true] at h
              have := ih _ h.2
              omega
          have ho2 := hmono gs _ hl2
          have k2' : l1.length = P.cellsOf g.type := by rw [k2, List.length_take, List.length_drop]; omega
          obtain ⟨l2, j1, j2, j3⟩ := ihg (o + P.cellsOf g.type) (fun i g' hg' => hg (i + 1) g' (by simpa using hg')) hl2 ha.2 ho2
          refine ⟨l1 ++ l2, by rw [List.length_append]; omega, fun i z hz => ?_, fun pre hpre => ?_⟩
          · by_cases hi : i < l1.length
            · rw [List.getElem?_append_left hi] at hz
              have := k3 i z hz
              rwa [List.getD_eq_getElem?_getD, List.getElem?_take, if_pos (by omega), List.getElem?_drop, ← hoff, ← List.getD_eq_getElem?_getD] at this
            · rw [List.getElem?_append_right (by omega)] at hz
              have := j2 _ z hz
              rwa [show o + P.cellsOf g.type + (i - l1.length) = o + i from by omega] at this
          · simp only [List.map_cons, wt.wtL]
            refine ⟨?_, ?_⟩
            · rw [hsg, ← hoff, ← hpre, List.drop_left, ← k2', List.take_left]
              exact k1
            · have := j3 (pre ++ l1) (by rw [List.length_append]; omega)
              rwa [List.append_assoc] at this
      rw [← hfs] at hp
      obtain ⟨l, h1, h2, h3⟩ := key fields.toList 0 (fun i g hg => by
        have hg' : fields[i]? = some g := by simpa using hg
        have hi : i < xs.length := by rw [hxl]; exact (Array.getElem?_eq_some_iff.1 hg').1
        exact ⟨xs[i], by rw [hx i g hg', List.getElem?_eq_getElem hi]⟩) hp.1 hp.2 (Nat.zero_le _)
      refine ⟨l, ⟨by omega, ?_⟩, by omega, fun i y hy => by have := h2 i y hy; rwa [Nat.zero_add] at this⟩
      have := h3 [] rfl
      rw [List.nil_append] at this
      rw [← hfs]
      exact this
    · rename_i m e sz _ _ ht
      split at hp
      · rename_i d hde
        simp only [Bool.and_eq_true] at hp
        have hsz := Nat.eq_of_beq_eq_true hp.1
        have hu : P.underlying t = some (.array m e) := by
          obtain ⟨u, hu, hk⟩ := (hT.get ht).und
          cases u <;> simp [kindOf] at hk
          rw [hu]; simp [hk]
        obtain ⟨xs, n', _, _, hlen, hxl, hx⟩ := DataW.trod_array hu h
        have hcell := cellsOf_eq (hT.get ht)
        have hce := cellsOf_eq (hT.get hde)
        have hcs : cs.length = m * d.size := by rw [hlen, hcell]; exact hsz
        have key : ∀ j, j ≤ m → ∃ l : List D, l.length = j * d.size ∧ (∀ k, k < j → wt T n e ((l.drop (k * d.size)).take d.size)) ∧ ∀ (i : Nat) (y : D), l[i]? = some y → RepD w (fun b => b < w.heap.size) y (cs.getD i undef) := by
          intro j
          induction j with
          | zero => intro _; exact ⟨[], by simp, fun k hk => absurd hk (Nat.not_lt_zero k), fun i y hy => by simp at hy⟩
          | succ j ihj =>
            intro hj
            obtain ⟨l, k1, k2, k3⟩ := ihj (by omega)
            have hel := hx j (by omega)
            rw [List.getElem?_eq_getElem (by omega), hce] at hel
            obtain ⟨l1, e1, e2, e3⟩ := ih n' e _ _ hp.2 hel
            have hle : j * d.size + d.size ≤ m * d.size := by
              have := Nat.mul_le_mul_right d.size (show j + 1 ≤ m from hj)
              rwa [Nat.add_mul, Nat.one_mul] at this
            have e2' : l1.length = d.size := by rw [e2, List.length_take, List.length_drop]; omega
            refine ⟨l ++ l1, by rw [List.length_append, Nat.add_mul]; omega, fun k hk => ?_, fun i y hy => ?_⟩
            · by_cases hkj : k < j
              · have hk2 : k * d.size + d.size ≤ j * d.size := by
                  have := Nat.mul_le_mul_right d.size (show k + 1 ≤ j from hkj)
                  rwa [Nat.add_mul, Nat.one_mul] at this
                rw [List.drop_append_of_le_length (by omega), List.take_append_of_le_length (by rw [List.length_drop]; omega)]
                exact k2 k hkj
              · have : k = j := by omega
                subst this
                rw [← k1, List.drop_left, ← e2', List.take_length]
                exact e1
            · by_cases hi : i < l.length
              · rw [List.getElem?_append_left hi] at hy
                exact k3 i y hy
              · rw [List.getElem?_append_right (by omega)] at hy
                have := e3 _ y hy
                have hlt : i - l.length < l1.length := (List.getElem?_eq_some_iff.1 hy).1
                rwa [List.getD_eq_getElem?_getD, List.getElem?_take, if_pos (by omega), List.getElem?_drop, show j * d.size + (i - l.length) = i from by omega, ← List.getD_eq_getElem?_getD] at this
        obtain ⟨l, k1, k2, k3⟩ := key m (Nat.le_refl _)
        exact ⟨l, ⟨by omega, k2⟩, by omega, k3⟩
      · cases hp
    · cases hp
/-- An argument, as the engine has it. -/
def asV (str : Bool) (l : List D) : AVal := match str with
  | true => .agg (l.map .d)
  | false => match l with
    | [d] => .d d
    | _ => .any
theorem open_arg {H : Type} {enc : TypeId × Value → H} {P : Program} {T : Tys} {w : World} {base b0 : Nat} {r : Reach} {sp : Nat → Bool} {hd : Bool} {t : TypeId} {v : Value} {d : DataW H} {ps : List MemPlace} {td : TyD} (hT : TysOk P T) (n : Nat) (hp : plainT T n t = true) (ht : lookT t T = some td)
    (hval : Value.okWide P w r b0 t v) (h : DataW.Trod enc P w base sp hd t v d ps) : ∃ l, wt T n t l ∧ ∀ L, RepA w L (fun b => b < w.heap.size) (asV (isStr td.kind) l) v := by
  obtain ⟨fuel, h⟩ := h
  obtain ⟨l, h1, h2, h3⟩ := open_cells hT n fuel t _ _ hp h
  refine ⟨l, h1, fun L => ?_⟩
  cases hs : isStr td.kind with
  | true =>
    have : ∃ cs, v = .agg cs := by
      obtain ⟨u, hu, hk⟩ := (hT.get ht).und
      unfold Value.okWide at hval
      rw [hu] at hval
      rw [← hk] at hs
      cases u <;> simp [kindOf, isStr] at hs
      all_goals (obtain ⟨cs, e, _⟩ := hval; exact ⟨cs, e⟩)
    obtain ⟨cs, rfl⟩ := this
    have h2 : l.length = cs.size := by rw [h2]; simp [Value.cells]
    refine .agg (by simp [h2]) (fun i hi => ?_) fun i y hy => ?_
    · have hi : i < l.length := by simpa using hi
      have := (h3 i l[i] (List.getElem?_eq_getElem hi)).one
      simpa [Value.cells, List.getD_eq_getElem?_getD, Array.getD_eq_getD_getElem?] using this
    · rw [List.getElem?_map] at hy
      obtain ⟨z, hz, rfl⟩ := Option.map_eq_some_iff.1 hy
      have := h3 i z hz
      exact .d (by simpa [Value.cells, List.getD_eq_getElem?_getD, Array.getD_eq_getD_getElem?] using this)
  | false =>
    unfold asV
    simp only
    split
    · rename_i x
      have := h3 0 x rfl
      have hc : v.cells.toList = [v] := by
        have hna : ∀ cs, v ≠ .agg cs := by
          rintro cs rfl
          obtain ⟨u, hu, hk⟩ := (hT.get ht).und
          rw [← hk] at hs
          unfold Value.okWide at hval
          rw [hu] at hval
          cases u <;> simp_all [Cell.okWide, Cell.ok, kindOf, isStr]
        cases v <;> first | rfl | exact absurd rfl (hna _)
      rw [hc] at this
      exact .d this
    · exact .any
theorem PSpec.isTrue {P : Program} {f : FuncId} {args : List AVal} (h : PSpec P f args (· = .d (.b true))) {w : World} {vs : Array Value} (hG : GoodW w fun b => b < w.heap.size) (hz : vs.size = args.length) (ha : ∀ (i : Nat) (x : AVal), args[i]? = some x → RepA w (L0 w.heap.size) (fun b => b < w.heap.size) x (vs.getD i undef)) :
    Calls P f vs w fun e w' => e = .returned (.bool true) ∧ Below w.heap.size w w' :=
  (h.2 w (fun b => b < w.heap.size) vs hG (fun _ h => h) hz ha).mono fun e w' ⟨v, r, h1, h2, h3, h4⟩ => by
    subst h2
    have := repA_b h4.2
    rw [h1, this]
    exact ⟨rfl, h3⟩
end Towline
