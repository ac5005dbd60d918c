import Derived.Calls
import Derived.Tactics
import Derived.Below
import Derived.Laws.OwnMore
import Derived.WalkLawsBesides
import Derived.WalkSpells
import Derived.IntWalk
import Derived.Laws.Cells
import Derived.Laws.Tables
import Derived.Lib.SliceRun
import Derived.Laws.Cover3
import Derived.Laws.StructEq
import Derived.ChangeKeysEq
/- The engine, part one: what a Go value is as plain data (D), as a place in a frame (AVal), as an object of the call's own (AObj), and when a world holds it. Over any program. -/
namespace Towline
open Go Go.RowKit
set_option linter.unusedVariables false

/-- Data that stays as it is: numbers, truth values, texts, any other value of one cell, and slices (size of an element in cells, how many, the elements). -/
inductive D
  | i (k : IntKind) (n : Int)
  | b (x : Bool)
  | s (l : List UInt8)
  | v (x : Value)
  | sl (sz n : Nat) (f : Nat → List D)
  /-- A closure that has taken hold of n boxes that nobody turns. -/
  | cl (f n : Nat) (ds : Nat → List D)
inductive AVal
  | any
  | d (x : D)
  | agg (l : List AVal)
  | tup (l : List AVal)
  | ptr (id off : Nat)
  | eptr (sz n : Nat) (f : Nat → List D) (k off : Nat)
  | rsl (id sz o n : Nat)
  | rptr (id sz k off : Nat)
  | fn (f : FuncId) (caps : List AVal)
  | fresh (t : TypeId) (sz n : Nat) (f : Nat → List D)
inductive AObj
  | box (cells : List AVal) (tag : Option TypeId := none)
  | row (t : TypeId) (sz n : Nat) (f : Nat → List D)
abbrev Env := List (Nat × AVal)
abbrev Heap := List (Nat × AObj)

def look (i : Nat) : Env → AVal
  | [] => .any
  | (j, v) :: r => match Nat.beq j i with | true => v | false => look i r
def lookO (i : Nat) : Heap → Option AObj
  | [] => none
  | (j, v) :: r => match Nat.beq j i with | true => some v | false => lookO i r
def setO (i : Nat) (o : AObj) : Heap → Option Heap
  | [] => none
  | (j, v) :: r => match Nat.beq j i with
    | true => some ((j, o) :: r)
    | false => match setO i o r with | some r' => some ((j, v) :: r') | none => none
theorem beq_self (i : Nat) : Nat.beq i i = true := Nat.beq_refl i
theorem beq_false {i j : Nat} (h : i ≠ j) : Nat.beq i j = false := by rw [Bool.eq_false_iff]; exact fun e => h (Nat.eq_of_beq_eq_true e)
theorem look_eq (j : Nat) (v : AVal) (r : Env) (i : Nat) : look i ((j, v) :: r) = (match Nat.beq j i with | true => v | false => look i r) := rfl
theorem lookO_eq (j : Nat) (v : AObj) (r : Heap) (i : Nat) : lookO i ((j, v) :: r) = (match Nat.beq j i with | true => some v | false => lookO i r) := rfl
theorem setO_eq (i : Nat) (o : AObj) (j : Nat) (v : AObj) (r : Heap) : setO i o ((j, v) :: r) = (match Nat.beq j i with
    | true => some ((j, o) :: r)
    | false => match setO i o r with | some r' => some ((j, v) :: r') | none => none) := rfl
theorem look_cons (t : Nat) (v : AVal) (env : Env) (j : Nat) : look j ((t, v) :: env) = if j = t then v else look j env := by
  rw [look_eq]
  by_cases h : j = t
  · subst h; simp
  · rw [beq_false (fun e => h e.symm)]; simp [h]
theorem lookO_cons (t : Nat) (v : AObj) (h : Heap) (j : Nat) : lookO j ((t, v) :: h) = if j = t then some v else lookO j h := by
  rw [lookO_eq]
  by_cases h : j = t
  · subst h; simp
  · rw [beq_false (fun e => h e.symm)]; simp [h]
theorem lookO_setO {i : Nat} {o : AObj} : ∀ {h h' : Heap}, setO i o h = some h' → ∀ j, lookO j h' = if j = i then some o else lookO j h
  | [], _, e, _ => by simp [setO] at e
  | (k, v) :: r, h', e, j => by
    rw [setO_eq] at e
    by_cases hk : k = i
    · subst hk
      rw [beq_self] at e
      simp only [Option.some.injEq] at e
      subst e
      rw [lookO_cons, lookO_cons]
      by_cases hj : j = k
      · simp [hj]
      · simp [hj]
    · rw [beq_false hk] at e
      simp only at e
      cases hs : setO i o r with
      | none => rw [hs] at e; cases e
      | some r' =>
        rw [hs] at e
        simp only [Option.some.injEq] at e
        subst e
        rw [lookO_cons, lookO_cons, lookO_setO hs j]
        by_cases hj : j = k
        · have : j ≠ i := by omega
          simp [hj, hk]
        · simp [hj]

/-- A world holds the data x as value v: all that it looks at lies in good blocks. -/
inductive RepD (w : World) (good : Nat → Prop) : D → Value → Prop
  | i (k n) : RepD w good (.i k n) (.int k n)
  | b (x) : RepD w good (.b x) (.bool x)
  | s (l : List UInt8) : RepD w good (.s l) (.string ⟨l.toArray⟩)
  | v (x : Value) (h : x.oneCell' = true) : RepD w good (.v x) x
  | sl0 (sz f A c) (h : c ≤ maxLen) : RepD w good (.sl sz 0 f) (.slice A 0 c)
  | sl (sz n : Nat) (f : Nat → List D) (b o c : Nat) (cs : Nat → Nat → Value) (hn : 0 < n) (hc : n ≤ c) (hm : c ≤ maxLen) (hg : good b) (hb : b < w.heap.size)
      (hz : ∀ k, k < n → (f k).length = sz)
      (hcell : ∀ k, k < n → ∀ j, j < sz → w.cell? ⟨b, o + k * sz + j, none⟩ = some (cs k j))
      (hrep : ∀ k, k < n → ∀ j x, (f k)[j]? = some x → RepD w good x (cs k j)) : RepD w good (.sl sz n f) (.slice (some ⟨b, o, none⟩) n c)
  | cl (f n : Nat) (ds : Nat → List D) (bs : Nat → Nat) (vs : Array Value) (hz : vs.size = n) (hv : ∀ i, i < n → vs.getD i undef = .pointer (some ⟨bs i, 0, none⟩))
      (hr : ∀ i, i < n → RepD w good (.sl (ds i).length 1 fun _ => ds i) (.slice (some ⟨bs i, 0, none⟩) 1 1)) : RepD w good (.cl f n ds) (.func (.func f) #[] vs)
theorem RepD.one {w : World} {good : Nat → Prop} {x : D} {v : Value} (h : RepD w good x v) : v.oneCell' = true := by
  cases h <;> first | rfl | assumption
/-- What was held is held where the good blocks are as they were. -/
theorem RepD.mono {w w' : World} {good good' : Nat → Prop} (hs : w.heap.size ≤ w'.heap.size) (hg : ∀ b, b < w.heap.size → good b → good' b ∧ w'.heap[b]? = w.heap[b]?) :
    ∀ {x : D} {v : Value}, RepD w good x v → RepD w' good' x v := by
  intro x v h
  induction h with
  | i k n => exact .i k n
  | b x => exact .b x
  | s l => exact .s l
  | v x h => exact .v x h
  | sl0 sz f A c h => exact .sl0 sz f A c h
  | cl f n ds bs vs hz hv hr ih => exact .cl f n ds bs vs hz hv ih
  | sl sz n f b o c cs hn hc hm hgb hb hz hcell hrep ih =>
    obtain ⟨h1, h2⟩ := hg b hb hgb
    exact .sl sz n f b o c cs hn hc hm h1 (by omega) hz (fun k hk j hj => by rw [← hcell k hk j hj]; exact World.cell?_of_block (w := w) h2) ih

/-- Where the objects of the call lie, and how much room rows have; the 'old' blocks do not change while the call runs. -/
structure Lay where
  blk : Nat → Option Nat
  cap : Nat → Nat
  old : Nat → Prop
inductive RepA (w : World) (L : Lay) : (Nat → Prop) → AVal → Value → Prop
  | any {good v} : RepA w L good .any v
  | d {good x v} (h : RepD w good x v) : RepA w L good (.d x) v
  | agg {good} {l : List AVal} {vs : Array Value} (hz : vs.size = l.length) (h1 : ∀ i, i < l.length → (vs.getD i undef).oneCell' = true)
      (h : ∀ i x, l[i]? = some x → RepA w L good x (vs.getD i undef)) : RepA w L good (.agg l) (.agg vs)
  | tup {good} {l : List AVal} {vs : Array Value} (hz : vs.size = l.length) (h : ∀ i x, l[i]? = some x → RepA w L good x (vs.getD i undef)) : RepA w L good (.tup l) (.tuple vs)
  | ptr {good id off b} (h : L.blk id = some b) : RepA w L good (.ptr id off) (.pointer (some ⟨b, off, none⟩))
  | eptr {good sz n f k off b o c m} (h : RepD w good (.sl sz n f) (.slice (some ⟨b, o, none⟩) m c)) (hk : k < n) : RepA w L good (.eptr sz n f k off) (.pointer (some ⟨b, o + k * sz + off, none⟩))
  | rsl {good id sz o n ad} (hc : o + n ≤ L.cap id) (hb : 0 < n → ∃ b, L.blk id = some b) (ha : o = 0 ∨ o < L.cap id → ad = (L.blk id).map fun b => ⟨b, o * sz, none⟩) : RepA w L good (.rsl id sz o n) (.slice ad n (L.cap id - o))
  | rptr {good id sz k off b} (h : L.blk id = some b) : RepA w L good (.rptr id sz k off) (.pointer (some ⟨b, k * sz + off, none⟩))
  | fn {good f caps} {vs : Array Value} (hz : vs.size = caps.length) (h : ∀ i x, caps[i]? = some x → RepA w L (fun b => good b ∨ L.old b) x (vs.getD i undef)) : RepA w L good (.fn f caps) (.func (.func f) #[] vs)
mutual
/-- Does a value not speak of object id? -/
def AVal.free (id : Nat) : AVal → Bool
  | .any => true
  | .d _ => true
  | .eptr .. => true
  | .agg l => AVal.freeL id l
  | .tup l => AVal.freeL id l
  | .ptr j _ => !Nat.beq j id
  | .rsl j _ _ _ => !Nat.beq j id
  | .rptr j _ _ _ => !Nat.beq j id
  | .fn _ l => AVal.freeL id l
  | .fresh .. => true
def AVal.freeL (id : Nat) : List AVal → Bool
  | [] => true
  | x :: r => AVal.free id x && AVal.freeL id r
end
theorem AVal.freeL_get {id : Nat} : ∀ {l : List AVal}, AVal.freeL id l = true → ∀ (i : Nat) (x : AVal), l[i]? = some x → x.free id = true
  | [], _, i, x, e => by simp at e
  | y :: r, h, i, x, e => by
    simp only [AVal.freeL, Bool.and_eq_true] at h
    cases i with
    | zero =>
      simp only [List.getElem?_cons_zero, Option.some.injEq] at e
      rw [← e]; exact h.1
    | succ i =>
      simp only [List.getElem?_cons_succ] at e
      exact AVal.freeL_get h.2 i x e
theorem beq_ne {i j : Nat} (h : (!Nat.beq i j) = true) : i ≠ j := by
  intro e; subst e; simp [Nat.beq_refl] at h
/-- Held where the good blocks are as they were and the objects that it speaks of lie where they lay. -/
theorem RepA.mono {w w' : World} {L L' : Lay} (hs : w.heap.size ≤ w'.heap.size) (p : Nat → Bool) (hL : ∀ id, p id = true → L'.blk id = L.blk id ∧ L'.cap id = L.cap id)
    (ht : ∀ b, b < w.heap.size → L.old b → L'.old b ∧ w'.heap[b]? = w.heap[b]?) :
    ∀ {good : Nat → Prop} {x : AVal} {v : Value}, RepA w L good x v → ∀ {good' : Nat → Prop}, (∀ b, b < w.heap.size → good b → good' b ∧ w'.heap[b]? = w.heap[b]?) → (∀ id, p id = false → x.free id = true) → RepA w' L' good' x v := by
  intro good x v h
  have key : ∀ j : Nat, (∀ id, p id = false → (!Nat.beq j id) = true) → p j = true := by
    intro j hj
    cases hp : p j with
    | true => rfl
    | false => have := hj j hp; simp [Nat.beq_refl] at this
  induction h with
  | any => intro _ _ _; exact .any
  | d h => intro _ hg _; exact .d (h.mono hs hg)
  | agg hz h1 h ih => intro _ hg hp; exact .agg hz h1 fun i x hx => ih i x hx hg fun id hid => AVal.freeL_get (hp id hid) i x hx
  | tup hz h ih => intro _ hg hp; exact .tup hz fun i x hx => ih i x hx hg fun id hid => AVal.freeL_get (hp id hid) i x hx
  | ptr h => intro _ hg hp; exact .ptr ((hL _ (key _ hp)).1.trans h)
  | eptr h hk => intro _ hg _; exact .eptr (h.mono hs hg) hk
  | @rsl good id sz o n ad hc hb ha =>
    intro _ hg hp
    obtain ⟨e1, e2⟩ := hL _ (key id hp)
    rw [← e2]
    rw [← e2] at hc ha
    rw [← e1] at ha
    exact .rsl hc (fun h0 => (hb h0).imp fun b h => e1.trans h) ha
  | rptr h => intro _ hg hp; exact .rptr ((hL _ (key _ hp)).1.trans h)
  | fn hz h ih =>
    intro _ hg hp
    exact .fn hz fun i x hx => ih i x hx (fun b hlt hb => by
      rcases hb with hb | hb
      · exact ⟨.inl (hg b hlt hb).1, (hg b hlt hb).2⟩
      · exact ⟨.inr (ht b hlt hb).1, (ht b hlt hb).2⟩) fun id hid => AVal.freeL_get (hp id hid) i x hx
theorem RepA.mono1 {w w' : World} {good good' : Nat → Prop} {L : Lay} (hs : w.heap.size ≤ w'.heap.size) (hg : ∀ b, b < w.heap.size → good b → good' b ∧ w'.heap[b]? = w.heap[b]?) (ht : ∀ b, L.old b → w'.heap[b]? = w.heap[b]?)
    {x : AVal} {v : Value} (h : RepA w L good x v) : RepA w' L good' x v :=
  h.mono hs (fun _ => true) (fun _ _ => ⟨rfl, rfl⟩) (fun b _ hb => ⟨hb, ht b hb⟩) hg (fun _ h => by cases h)
/-- Rows of this type were made of a text: their blocks bear a mark; nothing is put behind them. -/
abbrev markT : Nat := 1000000000
/-- An object of the call's own is held. -/
inductive RepO (w : World) (good : Nat → Prop) (L : Lay) (id : Nat) : AObj → Prop
  | box {cells : List AVal} {tag : Option TypeId} {cs : Array Value} {t : TypeId} {b : Nat} (htag : ∀ t', tag = some t' → t = t') (hb : L.blk id = some b) (hh : w.heap[b]? = some (.cells cs t (0, 0))) (hz : cs.size = cells.length)
      (h1 : ∀ i, i < cells.length → (cs.getD i undef).oneCell' = true) (h : ∀ i x, cells[i]? = some x → RepA w L good x (cs.getD i undef)) : RepO w good L id (.box cells tag)
  | row0 {t sz f} (hb : L.blk id = none) (hc : L.cap id = 0) : RepO w good L id (.row t sz 0 f)
  | row {t sz n : Nat} {f : Nat → List D} {cs : Array Value} {b : Nat} {t2 : Nat} {mk : Nat × Nat} (hb : L.blk id = some b) (hh : w.heap[b]? = some (.cells cs t2 mk)) (hn : n ≤ L.cap id) (hm : L.cap id ≤ maxLen)
      (hz : cs.size = L.cap id * sz) (hf : ∀ k, k < n → (f k).length = sz) (h : ∀ k, k < n → ∀ j x, (f k)[j]? = some x → RepD w good x (cs.getD (k * sz + j) undef))
      (hty : t < markT → t2 = t) (hmk : mk = (0, 0) ∨ (markT ≤ t ∧ cs.size ≤ mk.1)) : RepO w good L id (.row t sz n f)
def AObj.free (id : Nat) : AObj → Bool
  | .box l _ => AVal.freeL id l
  | .row .. => true
theorem RepO.mono {w w' : World} {good good' : Nat → Prop} {L L' : Lay} {id : Nat} {o : AObj} (h : RepO w good L id o) (hs : w.heap.size ≤ w'.heap.size)
    (hg : ∀ b, b < w.heap.size → good b → good' b ∧ w'.heap[b]? = w.heap[b]?) (hb : ∀ b, L.blk id = some b → w'.heap[b]? = w.heap[b]?) (ht : ∀ b, b < w.heap.size → L.old b → L'.old b ∧ w'.heap[b]? = w.heap[b]?)
    (p : Nat → Bool) (hL : ∀ id, p id = true → L'.blk id = L.blk id ∧ L'.cap id = L.cap id) (hp : p id = true) (hf : ∀ id, p id = false → o.free id = true) : RepO w' good' L' id o := by
  obtain ⟨e1, e2⟩ := hL id hp
  cases h with
  | box htag hb1 hh hz h1 h =>
    exact .box htag (e1.trans hb1) ((hb _ hb1).trans hh) hz h1 fun i x hx => (h i x hx).mono hs p hL ht hg fun id hid => AVal.freeL_get (hf id hid) i x hx
  | row0 hb1 hc => exact .row0 (e1.trans hb1) (e2.trans hc)
  | row hb1 hh hn hm hz hfl h hty hmk => exact .row (e1.trans hb1) ((hb _ hb1).trans hh) (e2 ▸ hn) (e2 ▸ hm) (e2 ▸ hz) hfl (fun k hk j x hx => (h k hk j x hx).mono hs hg) hty hmk

/-- What stays fixed while a function runs; lid: the names of the objects that were lent to it, which lay, when it began, as Lo says. -/
structure Ctx where
  P : Program
  nt : Nat
  w0 : World
  R0 : Nat → Prop
  lid : List Nat
  Lo : Lay
/-- The blocks that were lent. -/
def Ctx.lent (C : Ctx) (b : Nat) : Prop := ∃ i, i ∈ C.lid ∧ C.Lo.blk i = some b
/-- The first name of lent objects. -/
abbrev lentBase : Nat := 1000000000
/-- Nothing that was there has changed, but what was lent. -/
structure BelowL (ln : Nat → Prop) (w0 w : World) : Prop where
  os : w.os = w0.os
  tape : w.tape = w0.tape
  output : w.output = w0.output
  size : w0.heap.size ≤ w.heap.size
  block : ∀ k, k < w0.heap.size → ¬ ln k → w.heap[k]? = w0.heap[k]?
theorem BelowL.refl (ln : Nat → Prop) (w : World) : BelowL ln w w := ⟨rfl, rfl, rfl, Nat.le_refl _, fun _ _ _ => rfl⟩
theorem BelowL.next {ln : Nat → Prop} {w0 w w' : World} (h : BelowL ln w0 w) (hos : w'.os = w.os) (htp : w'.tape = w.tape) (hout : w'.output = w.output) (hsz : w.heap.size ≤ w'.heap.size) (hw : ∀ k, k < w0.heap.size → ¬ ln k → w'.heap[k]? = w.heap[k]?) : BelowL ln w0 w' :=
  ⟨hos.trans h.os, htp.trans h.tape, hout.trans h.output, Nat.le_trans h.size hsz, fun k hk hl => (hw k hk hl).trans (h.block k hk hl)⟩
theorem BelowL.trans {ln : Nat → Prop} {w0 w w' : World} (h : BelowL ln w0 w) {n : Nat} (k : Below n w w') (hn : w0.heap.size ≤ n) : BelowL ln w0 w' :=
  h.next k.os k.tape k.output k.size fun i hi _ => k.block i (Nat.lt_of_lt_of_le hi hn)
theorem BelowL.plain {ln : Nat → Prop} {w0 w : World} (h : BelowL ln w0 w) (hl : ∀ b, ¬ ln b) : Below w0.heap.size w0 w := ⟨h.os, h.tape, h.output, h.size, fun k hk => h.block k hk (hl k)⟩
abbrev lk (env : Env) : Nat → AVal := fun t => look t env
abbrev lko (heap : Heap) : Nat → Option AObj := fun i => lookO i heap
def gput (g : Nat → AVal) (d : Nat) (x : AVal) : Nat → AVal := fun t => if t = d then x else g t
def hput (h : Nat → Option AObj) (d : Nat) (o : AObj) : Nat → Option AObj := fun t => if t = d then some o else h t
theorem lk_cons (d : Nat) (x : AVal) (env : Env) : lk ((d, x) :: env) = gput (lk env) d x := funext fun t => look_cons d x env t
theorem lko_cons (d : Nat) (o : AObj) (heap : Heap) : lko ((d, o) :: heap) = hput (lko heap) d o := funext fun t => lookO_cons d o heap t
theorem lko_set {id : Nat} {o : AObj} {h h' : Heap} (e : setO id o h = some h') : lko h' = hput (lko h) id o := funext fun t => lookO_setO e t
def owned (L : Lay) (h : Nat → Option AObj) (b : Nat) : Prop := ∃ id o, h id = some o ∧ L.blk id = some b
def good (C : Ctx) (L : Lay) (h : Nat → Option AObj) (w : World) (b : Nat) : Prop := b < w.heap.size ∧ (C.R0 b ∨ C.w0.heap.size ≤ b ∨ C.lent b) ∧ ¬ owned L h b
/-- A frame and a world are as the slots g and the objects h say. -/
structure Rel (C : Ctx) (L : Lay) (g : Nat → AVal) (h : Nat → Option AObj) (a : Act) (w : World) : Prop where
  below : BelowL C.lent C.w0 w
  top : ∀ b, L.old b ↔ b < C.w0.heap.size ∧ ¬ C.lent b
  size : a.tmps.size = C.nt
  defers : a.defers = []
  slot : ∀ t, RepA w L (good C L h w) (g t) (a.tmps.getD t undef)
  obj : ∀ id o, h id = some o → RepO w (good C L h w) L id o
  inj : ∀ i j oi oj b, h i = some oi → h j = some oj → L.blk i = some b → L.blk j = some b → i = j
  own0 : ∀ id o b, h id = some o → L.blk id = some b → (C.w0.heap.size ≤ b ∨ C.lent b) ∧ b < w.heap.size
  kept : ∀ id o, id ∈ C.lid → h id = some o → L.blk id = C.Lo.blk id ∧ L.cap id = C.Lo.cap id
  lidn : ∀ i, i ∈ C.lid → lentBase ≤ i ∧ C.nt ≤ i
theorem Act.getD_put (a : Act) (d : Tmp) (v : Value) (t : Nat) (h : d < a.tmps.size) : (a.put (some d) v).tmps.getD t undef = if t = d then v else a.tmps.getD t undef := by
  unfold Act.put
  simp only [Array.getD_eq_getD_getElem?, Array.getElem?_setIfInBounds]
  by_cases e : d = t
  · subst e; simp [h]
  · rw [if_neg e, if_neg (fun h => e h.symm)]
section
variable {C : Ctx} {L : Lay} {g : Nat → AVal} {h : Nat → Option AObj} {a : Act} {w w' : World}
/-- A slot is written. -/
theorem Rel.put (H : Rel C L g h a w) {d : Tmp} (hd : d < C.nt) {x : AVal} {v : Value} (hv : RepA w L (good C L h w) x v) : Rel C L (gput g d x) h (a.put (some d) v) w where
  below := H.below
  top := H.top
  size := by simp [Act.put, H.size]
  defers := H.defers
  slot t := by
    rw [Act.getD_put a d v t (by rw [H.size]; exact hd)]
    unfold gput
    split
    · exact hv
    · exact H.slot t
  obj := H.obj
  inj := H.inj
  own0 := H.own0
  kept := H.kept
  lidn := H.lidn
/-- What is old is owned by no object. -/
theorem Rel.old_own (H : Rel C L g h a w) {b : Nat} (hb : L.old b) {id : Nat} {o : AObj} (ho : h id = some o) : L.blk id ≠ some b := by
  intro e
  obtain ⟨h1, h2⟩ := (H.top b).1 hb
  rcases (H.own0 id o b ho e).1 with h3 | h3
  · omega
  · exact h2 h3
theorem Rel.lid_slot (H : Rel C L g h a w) {t : Nat} (hlt : t < C.nt) : t ∉ C.lid := fun e => absurd (H.lidn t e).2 (Nat.not_le_of_lt hlt)
theorem Rel.old_lt (H : Rel C L g h a w) {b : Nat} (hb : L.old b) : b < w.heap.size := Nat.lt_of_lt_of_le ((H.top b).1 hb).1 H.below.size
/-- The world is later, what is good stays, the objects stay. -/
theorem Rel.world (H : Rel C L g h a w) {n : Nat} (hb : Below n w w') (hw : ∀ b, b < w.heap.size → w'.heap[b]? = w.heap[b]?) : Rel C L g h a w' := by
  have hg : ∀ b, b < w.heap.size → good C L h w b → good C L h w' b ∧ w'.heap[b]? = w.heap[b]? := fun b hb' hgb => ⟨⟨Nat.lt_of_lt_of_le hb' hb.size, hgb.2⟩, hw b hb'⟩
  have ht : ∀ b, L.old b → w'.heap[b]? = w.heap[b]? := fun b h => hw b (H.old_lt h)
  exact {
    below := H.below.next hb.os hb.tape hb.output hb.size fun k hk _ => hw k (Nat.lt_of_lt_of_le hk H.below.size)
    top := H.top
    size := H.size
    defers := H.defers
    slot := fun t => (H.slot t).mono1 hb.size hg ht
    obj := fun id o ho => (H.obj id o ho).mono hb.size hg (fun b hlb => hw b (H.own0 id o b ho hlb).2) (fun b _ hb => ⟨hb, ht b hb⟩) (fun _ => true) (fun _ _ => ⟨rfl, rfl⟩) rfl (fun _ h => by cases h)
    inj := H.inj
    own0 := fun id o b ho hlb => ⟨(H.own0 id o b ho hlb).1, Nat.lt_of_lt_of_le (H.own0 id o b ho hlb).2 hb.size⟩
    kept := H.kept
    lidn := H.lidn }
def Lay.upd (L : Lay) (d : Nat) (nb : Option Nat) (nc : Nat) : Lay := ⟨fun i => if i = d then nb else L.blk i, fun i => if i = d then nc else L.cap i, L.old⟩
/-- Good blocks stay good, and as they are. -/
def Stays (w w' : World) (gd gd' : Nat → Prop) : Prop := ∀ b, b < w.heap.size → gd b → gd' b ∧ w'.heap[b]? = w.heap[b]?
theorem stays_new (hb : Below w.heap.size w w') {id : Nat} {nb : Option Nat} {nc : Nat} (hnb : ∀ b, nb = some b → w.heap.size ≤ b ∧ b < w'.heap.size) (o : AObj) :
    Stays w w' (good C L h w) (good C (L.upd id nb nc) (hput h id o) w') := by
  intro b hlt hgb
  refine ⟨⟨Nat.lt_of_lt_of_le hlt hb.size, hgb.2.1, ?_⟩, hb.block b hlt⟩
  rintro ⟨i, oi, h1, h2⟩
  unfold hput at h1
  split at h1
  · rename_i hi
    simp only [Lay.upd, hi, if_true] at h2
    have := (hnb b h2).1
    omega
  · rename_i hi
    simp only [Lay.upd, hi, if_false] at h2
    exact hgb.2.2 ⟨i, oi, h1, h2⟩
/-- A new object, the other blocks as they were. -/
theorem Rel.new (H : Rel C L g h a w) {id : Nat} (hlid : id ∉ C.lid) (he : ∀ t, (g t).free id = true) (hh : ∀ j o, h j = some o → j ≠ id ∧ o.free id = true)
    (hb : Below w.heap.size w w') (nb : Option Nat) (nc : Nat) (hnb : ∀ b, nb = some b → w.heap.size ≤ b ∧ b < w'.heap.size) {o : AObj}
    (ho : RepO w' (good C (L.upd id nb nc) (hput h id o) w') (L.upd id nb nc) id o) : Rel C (L.upd id nb nc) g (hput h id o) a w' := by
  have hL : ∀ i, (i != id) = true → (L.upd id nb nc).blk i = L.blk i ∧ (L.upd id nb nc).cap i = L.cap i := by
    intro i hi
    have : i ≠ id := by simpa using hi
    simp [Lay.upd, this]
  have hg := stays_new (C := C) (L := L) (h := h) hb (id := id) (nb := nb) (nc := nc) hnb o
  have hp : ∀ i, (i != id) = false → i = id := by intro i hi; simpa using hi
  have ht : ∀ b, b < w.heap.size → L.old b → (L.upd id nb nc).old b ∧ w'.heap[b]? = w.heap[b]? := fun b hlt h => ⟨h, hb.block b hlt⟩
  exact {
    below := H.below.trans hb H.below.size
    top := H.top
    size := H.size
    defers := H.defers
    slot := fun t => (H.slot t).mono hb.size (· != id) hL ht hg (fun i hi => by rw [hp i hi]; exact he t)
    obj := fun j oj hj => by
      unfold hput at hj
      split at hj
      · rename_i hi
        cases hj
        rw [hi]
        exact ho
      · rename_i hi
        exact (H.obj j oj hj).mono hb.size hg (fun b hlb => hb.block b (H.own0 j oj b hj hlb).2) ht (· != id) hL (by simpa using hi) (fun i hi' => by rw [hp i hi']; exact (hh j oj hj).2)
    inj := fun i j oi oj b hi hj hbi hbj => by
      unfold hput at hi hj
      simp only [Lay.upd] at hbi hbj
      by_cases h1 : i = id
      · by_cases h2 : j = id
        · rw [h1, h2]
        · rw [if_neg h2] at hj hbj
          rw [if_pos h1] at hbi
          have := (hnb b hbi).1
          have := (H.own0 j oj b hj hbj).2
          omega
      · rw [if_neg h1] at hi hbi
        by_cases h2 : j = id
        · rw [if_pos h2] at hbj
          have := (hnb b hbj).1
          have := (H.own0 i oi b hi hbi).2
          omega
        · rw [if_neg h2] at hj hbj
          exact H.inj i j oi oj b hi hj hbi hbj
    own0 := fun i oi b hi hbi => by
      unfold hput at hi
      simp only [Lay.upd] at hbi
      by_cases h1 : i = id
      · rw [if_pos h1] at hbi
        have := hnb b hbi
        exact ⟨.inl (Nat.le_trans H.below.size this.1), this.2⟩
      · rw [if_neg h1] at hi hbi
        have := H.own0 i oi b hi hbi
        exact ⟨this.1, Nat.lt_of_lt_of_le this.2 hb.size⟩
    kept := fun i oi hl hi => by
      have hne : i ≠ id := fun e => hlid (e ▸ hl)
      unfold hput at hi
      rw [if_neg hne] at hi
      simp only [Lay.upd, if_neg hne]
      exact H.kept i oi hl hi
    lidn := H.lidn }
/-- An object is written in its own block. -/
theorem Rel.set (H : Rel C L g h a w) {id : Nat} {o o' : AObj} (hl : h id = some o) {b0 : Nat} (hb0 : L.blk id = some b0)
    (hos : w'.os = w.os) (htp : w'.tape = w.tape) (hout : w'.output = w.output) (hsz : w'.heap.size = w.heap.size) (hw : ∀ b, b ≠ b0 → w'.heap[b]? = w.heap[b]?)
    (ho : ∀ gd', Stays w w' (good C L h w) gd' → (∀ b, L.old b → w'.heap[b]? = w.heap[b]?) → RepO w' gd' L id o') : Rel C L g (hput h id o') a w' := by
  have hold : ∀ {i oi}, hput h id o' i = some oi → ∃ oi', h i = some oi' := by
    intro i oi hi
    unfold hput at hi
    split at hi
    · rename_i e; exact ⟨o, e ▸ hl⟩
    · exact ⟨oi, hi⟩
  have hg : Stays w w' (good C L h w) (good C L (hput h id o') w') := by
    intro b hlt hgb
    refine ⟨⟨by omega, hgb.2.1, ?_⟩, hw b ?_⟩
    · rintro ⟨i, oi, h1, h2⟩
      obtain ⟨oi', h1'⟩ := hold h1
      exact hgb.2.2 ⟨i, oi', h1', h2⟩
    · intro e
      exact hgb.2.2 ⟨id, o, hl, by rw [hb0, e]⟩
  have h0 := H.own0 id o b0 hl hb0
  have ht : ∀ b, L.old b → w'.heap[b]? = w.heap[b]? := fun b h => hw b (fun e => H.old_own h hl (by rw [hb0, e]))
  exact {
    below := H.below.next hos htp hout (by omega) fun k hk hnl => hw k (fun e => by rcases h0.1 with h1 | h1; omega; exact hnl (e ▸ h1))
    top := H.top
    size := H.size
    defers := H.defers
    slot := fun t => (H.slot t).mono1 (by omega) hg ht
    obj := fun j oj hj => by
      unfold hput at hj
      split at hj
      · rename_i hi
        cases hj
        rw [hi]
        exact ho _ hg ht
      · rename_i hi
        exact (H.obj j oj hj).mono (by omega) hg (fun b hlb => hw b (fun e => hi (H.inj j id oj o b hj hl hlb (by rw [hb0, e])))) (fun b _ hb => ⟨hb, ht b hb⟩) (fun _ => true) (fun _ _ => ⟨rfl, rfl⟩) rfl (fun _ h => by cases h)
    inj := fun i j oi oj b hi hj hbi hbj => by
      obtain ⟨oi', h1⟩ := hold hi
      obtain ⟨oj', h2⟩ := hold hj
      exact H.inj i j oi' oj' b h1 h2 hbi hbj
    own0 := fun i oi b hi hbi => by
      obtain ⟨oi', h1⟩ := hold hi
      have := H.own0 i oi' b h1 hbi
      exact ⟨this.1, by omega⟩
    kept := fun i oi hl' hi => by
      obtain ⟨oi', h1⟩ := hold hi
      exact H.kept i oi' hl' h1
    lidn := H.lidn }
end
/-- What speaks of object id is forgotten. -/
def killG (id : Nat) (g : Nat → AVal) : Nat → AVal := fun t => match (g t).free id with | true => g t | false => .any
def killL (id : Nat) : List AVal → Option (List AVal)
  | [] => some []
  | x :: r => match killL id r with
    | some r' => match x.free id with
      | true => some (x :: r')
      | false => some (.any :: r')
    | none => none
def killO (id : Nat) : AObj → Option AObj
  | .box l tag => match killL id l with
    | some l => some (.box l tag)
    | none => none
  | .row t sz n f => some (.row t sz n f)
def killH (id : Nat) (h : Nat → Option AObj) : Nat → Option AObj := fun j => if j = id then none else match h j with | some o => killO id o | none => none
def killE (id : Nat) : Env → Option Env
  | [] => some []
  | (t, v) :: r => match killE id r with
    | some r' => match v.free id with
      | true => some ((t, v) :: r')
      | false => some ((t, .any) :: r')
    | none => none
def killHp (id : Nat) : Heap → Option Heap
  | [] => some []
  | (j, o) :: r => match killHp id r with
    | some r' => match Nat.beq j id with
      | true => some r'
      | false => match killO id o with
        | some o' => some ((j, o') :: r')
        | none => none
    | none => none
theorem killL_get {id : Nat} : ∀ {l m : List AVal}, killL id l = some m → m.length = l.length ∧ ∀ (i : Nat) (x : AVal), m[i]? = some x → x = .any ∨ (l[i]? = some x ∧ x.free id = true)
  | [], m, h => by simp [killL] at h; subst h; exact ⟨rfl, fun i x hx => by simp at hx⟩
  | y :: r, m, h => by
    simp only [killL] at h
    cases hr : killL id r with
    | none => rw [hr] at h; cases h
    | some r' =>
      rw [hr] at h
      obtain ⟨h1, h2⟩ := killL_get hr
      cases hf : y.free id with
      | true =>
        rw [hf] at h
        simp only [Option.some.injEq] at h
        subst h
        refine ⟨by simp [h1], fun i x hx => ?_⟩
        cases i with
        | zero => simp only [List.getElem?_cons_zero, Option.some.injEq] at hx; subst hx; exact .inr ⟨rfl, hf⟩
        | succ i => simp only [List.getElem?_cons_succ] at hx ⊢; exact h2 i x hx
      | false =>
        rw [hf] at h
        simp only [Option.some.injEq] at h
        subst h
        refine ⟨by simp [h1], fun i x hx => ?_⟩
        cases i with
        | zero => simp only [List.getElem?_cons_zero, Option.some.injEq] at hx; subst hx; exact .inl rfl
        | succ i => simp only [List.getElem?_cons_succ] at hx ⊢; exact h2 i x hx
theorem killL_some (id : Nat) : ∀ l : List AVal, ∃ m, killL id l = some m
  | [] => ⟨[], rfl⟩
  | y :: r => by
    obtain ⟨m, hm⟩ := killL_some id r
    simp only [killL, hm]
    cases y.free id <;> exact ⟨_, rfl⟩
theorem killO_some (id : Nat) (o : AObj) : ∃ o', killO id o = some o' := by
  cases o with
  | box l tag => obtain ⟨m, hm⟩ := killL_some id l; exact ⟨.box m tag, by simp [killO, hm]⟩
  | row t sz n f => exact ⟨_, rfl⟩
theorem killE_look {id : Nat} : ∀ {env env' : Env}, killE id env = some env' → lk env' = killG id (lk env)
  | [], env', h => by simp [killE] at h; subst h; rfl
  | (t, v) :: r, env', h => by
    simp only [killE] at h
    cases hr : killE id r with
    | none => rw [hr] at h; cases h
    | some r' =>
      rw [hr] at h
      have ih := killE_look hr
      cases hf : v.free id with
      | true =>
        rw [hf] at h
        simp only [Option.some.injEq] at h
        subst h
        rw [lk_cons, lk_cons, ih]
        funext s
        unfold gput killG
        by_cases hs : s = t
        · simp [hs, hf]
        · simp [hs]
      | false =>
        rw [hf] at h
        simp only [Option.some.injEq] at h
        subst h
        rw [lk_cons, lk_cons, ih]
        funext s
        unfold gput killG
        by_cases hs : s = t
        · simp [hs, hf]
        · simp [hs]
theorem killHp_look {id : Nat} : ∀ {h h' : Heap}, killHp id h = some h' → lko h' = killH id (lko h)
  | [], h', e => by simp [killHp] at e; subst e; funext j; simp [killH, lookO]
  | (t, o) :: r, h', e => by
    simp only [killHp] at e
    cases hr : killHp id r with
    | none => rw [hr] at e; cases e
    | some r' =>
      rw [hr] at e
      have ih := killHp_look hr
      cases hb : Nat.beq t id with
      | true =>
        rw [hb] at e
        simp only [Option.some.injEq] at e
        subst e
        have := Nat.eq_of_beq_eq_true hb
        subst this
        rw [ih, lko_cons]
        funext j
        unfold killH hput
        by_cases hj : j = t
        · simp [hj]
        · simp [hj]
      | false =>
        rw [hb] at e
        simp only at e
        have hne : t ≠ id := fun h => by subst h; rw [beq_self] at hb; cases hb
        cases hk : killO id o with
        | none => rw [hk] at e; cases e
        | some o' =>
          rw [hk] at e
          simp only [Option.some.injEq] at e
          subst e
          rw [lko_cons, lko_cons, ih]
          funext j
          unfold killH hput
          by_cases hj : j = t
          · subst hj; simp [hne, hk]
          · simp [hj]
section
variable {C : Ctx} {L : Lay} {g : Nat → AVal} {h : Nat → Option AObj} {a : Act} {w w' : World}
/-- Object id (a row) becomes object d: in its own block, or in a new one. -/
theorem Rel.app (H : Rel C L g h a w) {id d : Nat} (hlid : d ∉ C.lid) {o0 o : AObj} (hid : h id = some o0) (he : ∀ t, (killG id g t).free d = true) (hh : ∀ j o, killH id h j = some o → j ≠ d ∧ o.free d = true)
    (hos : w'.os = w.os) (htp : w'.tape = w.tape) (hout : w'.output = w.output) (hsz : w.heap.size ≤ w'.heap.size) (hw : ∀ b, b < w.heap.size → some b ≠ L.blk id → w'.heap[b]? = w.heap[b]?)
    (nb : Option Nat) (nc : Nat) (hnb : ∀ b, nb = some b → b < w'.heap.size ∧ (some b = L.blk id ∨ w.heap.size ≤ b))
    (ho : ∀ gd', Stays w w' (good C L h w) gd' → RepO w' gd' (L.upd d nb nc) d o) :
    Rel C (L.upd d nb nc) (killG id g) (hput (killH id h) d o) a w' ∧ Stays w w' (good C L h w) (good C (L.upd d nb nc) (hput (killH id h) d o) w') := by
  have hkold : ∀ {j oj}, killH id h j = some oj → ∃ o', h j = some o' ∧ j ≠ id ∧ killO id o' = some oj := by
    intro j oj hj
    unfold killH at hj
    split at hj
    · cases hj
    · rename_i hne
      cases ho' : h j with
      | none => rw [ho'] at hj; cases hj
      | some o' => rw [ho'] at hj; exact ⟨o', rfl, hne, hj⟩
  have hgood : Stays w w' (good C L h w) (good C (L.upd d nb nc) (hput (killH id h) d o) w') := by
    intro b hlt hgb
    have hne : some b ≠ L.blk id := fun e => hgb.2.2 ⟨id, o0, hid, e.symm⟩
    refine ⟨⟨Nat.lt_of_lt_of_le hlt hsz, hgb.2.1, ?_⟩, hw b hlt hne⟩
    rintro ⟨i, oi, h1, h2⟩
    unfold hput at h1
    split at h1
    · rename_i hi
      simp only [Lay.upd, hi, if_true] at h2
      rcases (hnb b h2).2 with e | e
      · exact hne e
      · omega
    · rename_i hi
      simp only [Lay.upd, hi, if_false] at h2
      obtain ⟨o', e1, _, _⟩ := hkold h1
      exact hgb.2.2 ⟨i, o', e1, h2⟩
  refine ⟨?_, hgood⟩
  have hL : ∀ i, (i != d) = true → (L.upd d nb nc).blk i = L.blk i ∧ (L.upd d nb nc).cap i = L.cap i := by
    intro i hi
    have : i ≠ d := by simpa using hi
    simp [Lay.upd, this]
  have hp : ∀ i, (i != d) = false → i = d := by intro i hi; simpa using hi
  have hown := fun b e => H.own0 id o0 b hid e
  have ht : ∀ b, b < w.heap.size → L.old b → (L.upd d nb nc).old b ∧ w'.heap[b]? = w.heap[b]? := fun b hlt hb => ⟨hb, hw b hlt (fun e => H.old_own hb hid e.symm)⟩
  exact {
    below := H.below.next hos htp hout hsz fun k hk hnl => hw k (Nat.lt_of_lt_of_le hk H.below.size) (fun e => by rcases (hown k e.symm).1 with h1 | h1; omega; exact hnl h1)
    top := H.top
    size := H.size
    defers := H.defers
    slot := fun t => by
      have hs := H.slot t
      have hf := he t
      unfold killG at hf ⊢
      split
      · rename_i e
        rw [e] at hf
        exact hs.mono hsz (· != d) hL ht hgood (fun i hi => by rw [hp i hi]; exact hf)
      · exact .any
    obj := fun j oj hj => by
      unfold hput at hj
      split at hj
      · rename_i hi
        cases hj
        rw [hi]
        exact ho _ hgood
      · rename_i hi
        obtain ⟨o', e1, e2, e3⟩ := hkold hj
        have hfree := (hh j oj hj).2
        have hro := H.obj j o' e1
        have hblk : ∀ b, L.blk j = some b → w'.heap[b]? = w.heap[b]? := fun b hb => hw b (H.own0 j o' b e1 hb).2 (fun e => e2 (H.inj j id o' o0 b e1 hid hb e.symm))
        have hjd : (j != d) = true := by simpa using hi
        cases o' with
        | row t sz n f =>
          simp only [killO, Option.some.injEq] at e3
          subst e3
          exact hro.mono hsz hgood hblk ht (· != d) hL hjd (fun _ _ => rfl)
        | box l tag =>
          simp only [killO] at e3
          cases hk : killL id l with
          | none => rw [hk] at e3; cases e3
          | some m =>
            rw [hk] at e3
            simp only [Option.some.injEq] at e3
            subst e3
            obtain ⟨k1, k2⟩ := killL_get hk
            cases hro with
            | box htag hb1 hheap hz h1 hrep =>
              refine .box htag ((hL j hjd).1.trans hb1) ((hblk _ hb1).trans hheap) (by omega) (fun i hi => h1 i (by omega)) (fun i x hx => ?_)
              rcases k2 i x hx with rfl | ⟨e1, _⟩
              · exact .any
              · exact (hrep i x e1).mono hsz (· != d) hL ht hgood (fun i' hi' => by rw [hp i' hi']; exact AVal.freeL_get hfree i x hx)
    inj := fun i j oi oj b hi hj hbi hbj => by
      unfold hput at hi hj
      simp only [Lay.upd] at hbi hbj
      by_cases h1 : i = d
      · by_cases h2 : j = d
        · rw [h1, h2]
        · rw [if_neg h2] at hj hbj
          rw [if_pos h1] at hbi
          obtain ⟨o', e1, e2, _⟩ := hkold hj
          rcases (hnb b hbi).2 with e | e
          · exact (e2 (H.inj j id o' o0 b e1 hid hbj e.symm)).elim
          · have := (H.own0 j o' b e1 hbj).2; omega
      · rw [if_neg h1] at hi hbi
        obtain ⟨o', e1, e2, _⟩ := hkold hi
        by_cases h2 : j = d
        · rw [if_pos h2] at hbj
          rcases (hnb b hbj).2 with e | e
          · exact (e2 (H.inj i id o' o0 b e1 hid hbi e.symm)).elim
          · have := (H.own0 i o' b e1 hbi).2; omega
        · rw [if_neg h2] at hj hbj
          obtain ⟨o'', e1', _, _⟩ := hkold hj
          exact H.inj i j o' o'' b e1 e1' hbi hbj
    own0 := fun i oi b hi hbi => by
      unfold hput at hi
      simp only [Lay.upd] at hbi
      by_cases h1 : i = d
      · rw [if_pos h1] at hbi
        obtain ⟨e1, e2⟩ := hnb b hbi
        refine ⟨?_, e1⟩
        rcases e2 with e | e
        · exact (hown b e.symm).1
        · exact .inl (Nat.le_trans H.below.size e)
      · rw [if_neg h1] at hi hbi
        obtain ⟨o', e1, _, _⟩ := hkold hi
        have := H.own0 i o' b e1 hbi
        exact ⟨this.1, Nat.lt_of_lt_of_le this.2 hsz⟩
    kept := fun i oi hl hi => by
      have hne : i ≠ d := fun e => hlid (e ▸ hl)
      unfold hput at hi
      rw [if_neg hne] at hi
      simp only [Lay.upd, if_neg hne]
      obtain ⟨o', e1, _, _⟩ := hkold hi
      exact H.kept i o' hl e1
    lidn := H.lidn }
end
def freeEnv (id : Nat) : Env → Bool
  | [] => true
  | (_, v) :: r => v.free id && freeEnv id r
def freeHeap (id : Nat) : Heap → Bool
  | [] => true
  | (j, o) :: r => !Nat.beq j id && o.free id && freeHeap id r
theorem freeEnv_look {id : Nat} : ∀ {env : Env}, freeEnv id env = true → ∀ t, (look t env).free id = true
  | [], _, t => rfl
  | (j, v) :: r, h, t => by
    simp only [freeEnv, Bool.and_eq_true] at h
    rw [look_cons]
    split
    · exact h.1
    · exact freeEnv_look h.2 t
theorem freeHeap_look {id : Nat} : ∀ {h : Heap}, freeHeap id h = true → ∀ j o, lookO j h = some o → j ≠ id ∧ o.free id = true
  | [], _, j, o, e => by simp [lookO] at e
  | (k, v) :: r, h, j, o, e => by
    simp only [freeHeap, Bool.and_eq_true] at h
    rw [lookO_cons] at e
    split at e
    · rename_i hj
      cases e
      rw [hj]
      exact ⟨beq_ne h.1.1, h.1.2⟩
    · exact freeHeap_look h.2 j o e
end Towline

/- The engine, part two: single operations, as functions of plain data, and that they say what the model does. Over any program. -/
namespace Towline
open Go Go.RowKit
set_option linter.unusedVariables false

inductive TyK
  | bool | int (k : IntKind) | string | slice (e : TypeId) | struct (fs : List (Nat × Nat × TypeId)) | array (n : Nat) (e : TypeId) | pointer (e : TypeId) | func | map (k e : TypeId) | other
structure TyD where
  kind : TyK
  size : Nat
  bytes : Nat
  zero : List D
def kindOf (P : Program) : TypeDesc → TyK
  | .bool => .bool
  | .int k => .int k
  | .string => .string
  | .slice e => .slice e
  | .struct fs => .struct (fs.toList.map fun f => (f.offset, match P.info? f.type with | some i => i.size | none => 0, f.type))
  | .array n e => .array n e
  | .pointer e => .pointer e
  | .func .. => .func
  | .map k e => .map k e
  | _ => .other
def D.val : D → Value
  | .i k n => .int k n
  | .b x => .bool x
  | .s l => .string ⟨l.toArray⟩
  | .v x => x
  | .sl .. => undef
  | .cl .. => undef
def isStr : TyK → Bool
  | .struct _ => true
  | .array _ _ => true
  | _ => false
def TyD.zeroVal (d : TyD) : Value := match isStr d.kind with
  | true => .agg (d.zero.map D.val).toArray
  | false => match d.zero with | [x] => x.val | _ => undef
def plainF (P : Program) (f : Field) : Bool := match P.underlying f.type with | some (.int _) => true | some .bool => true | some .string => true | _ => false
/-- A struct of plain numbers, truth values and texts may be compared as it stands. -/
def cmpOk (P : Program) (t : TypeId) : Bool := match P.underlying t with
  | some (.struct fs) => !(fs.toList.all (plainF P)) ||
      (fs.toList.all (fun f => f.name != "_") && !P.stoodInHeld t && !P.eqGuardType P.depth t)
  | some (.array _ e) => match P.underlying e with
    | some (.int _) => !P.eqGuardType P.depth t
    | _ => true
  | _ => true
/-- What the program says of type t. -/
structure TyOk (P : Program) (t : TypeId) (d : TyD) : Prop where
  info : (P.info? t).map (fun i => (i.zero, i.size, i.bytes)) = some (some d.zeroVal, d.size, d.bytes)
  kind : (P.underlying t).map (kindOf P) = some d.kind
  zlen : d.zero.length = d.size
  ceq : cmpOk P t = true
  fok : (match P.underlying t with | some (.struct fs) => fs.toList.all (fun f => (P.info? f.type).isSome) | _ => true) = true
  zwf : (isStr d.kind || d.zero.length == 1) = true
  zone : d.zero.all (fun x => x.val.oneCell' && match x with | .sl .. => false | .cl .. => false | _ => true) = true
def tagMem (t : Nat) : List Nat → Bool
  | [] => false
  | j :: r => match Nat.beq j t with | true => true | false => tagMem t r
/-- The table of types; do sums of 64 bits with a sign wrap too; which calls' answers (by their slots) are to be had for good: rows of the call's own that such a call is handed are given up; which functions are lent objects: the arguments marked true are given up instead; of which types' boxes the type is kept in mind. -/
structure Tys where
  l : List (Nat × TyD)
  wrap : Bool
  pub : List Nat
  lnt : List (Nat × List Bool)
  tg : List Nat
def lookL (i : Nat) : List (Nat × TyD) → Option TyD
  | [] => none
  | (j, v) :: r => match Nat.beq j i with | true => some v | false => lookL i r
def lookT (i : Nat) (T : Tys) : Option TyD := lookL i T.l
def TysOkL (P : Program) : List (Nat × TyD) → Prop
  | [] => True
  | (t, d) :: r => TyOk P t d ∧ TysOkL P r
def TysOk (P : Program) (T : Tys) : Prop := TysOkL P T.l
theorem TysOkL.get {P : Program} {t : Nat} {d : TyD} : ∀ {T : List (Nat × TyD)}, TysOkL P T → lookL t T = some d → TyOk P t d
  | [], _, e => by simp [lookL] at e
  | (j, v) :: r, h, e => by
    have eq : lookL t ((j, v) :: r) = (match Nat.beq j t with | true => some v | false => lookL t r) := rfl
    rw [eq] at e
    cases hb : Nat.beq j t with
    | true =>
      rw [hb] at e
      cases e
      rw [← Nat.eq_of_beq_eq_true hb]
      exact h.1
    | false =>
      rw [hb] at e
      exact TysOkL.get h.2 e
theorem TysOk.get {P : Program} {t : Nat} {d : TyD} {T : Tys} (h : TysOk P T) (e : lookT t T = some d) : TyOk P t d := TysOkL.get h e
theorem TyOk.info' {P : Program} {t : TypeId} {d : TyD} (h : TyOk P t d) : ∃ i, P.info? t = some i ∧ i.zero = some d.zeroVal ∧ i.size = d.size ∧ i.bytes = d.bytes := by
  have := h.info
  cases hi : P.info? t with
  | none => rw [hi] at this; cases this
  | some i =>
    rw [hi] at this
    simp only [Option.map_some, Option.some.injEq, Prod.mk.injEq] at this
    exact ⟨i, rfl, this.1, this.2.1, this.2.2⟩
theorem TyOk.und {P : Program} {t : TypeId} {d : TyD} (h : TyOk P t d) : ∃ u, P.underlying t = some u ∧ kindOf P u = d.kind := by
  have := h.kind
  cases hi : P.underlying t with
  | none => rw [hi] at this; cases this
  | some u =>
    rw [hi] at this
    simp only [Option.map_some, Option.some.injEq] at this
    exact ⟨u, rfl, this⟩
section
variable {P : Program} {t : TypeId} {d : TyD}
theorem TyOk.slice {e : TypeId} (h : TyOk P t d) (hk : d.kind = .slice e) : P.underlying t = some (.slice e) := by
  obtain ⟨u, h1, h2⟩ := h.und
  rw [hk] at h2
  cases u <;> simp [kindOf] at h2
  rw [h1, h2]
theorem TyOk.bool (h : TyOk P t d) (hk : d.kind = .bool) : P.underlying t = some .bool := by
  obtain ⟨u, h1, h2⟩ := h.und
  rw [hk] at h2
  cases u <;> simp [kindOf] at h2 <;> first | (subst h2; exact h1) | exact h1
theorem TyOk.string (h : TyOk P t d) (hk : d.kind = .string) : P.underlying t = some .string := by
  obtain ⟨u, h1, h2⟩ := h.und
  rw [hk] at h2
  cases u <;> simp [kindOf] at h2
  exact h1
theorem TyOk.int {k : IntKind} (h : TyOk P t d) (hk : d.kind = .int k) : P.underlying t = some (.int k) := by
  obtain ⟨u, h1, h2⟩ := h.und
  rw [hk] at h2
  cases u <;> simp [kindOf] at h2
  rw [h1, h2]
theorem TyOk.array {n : Nat} {e : TypeId} (h : TyOk P t d) (hk : d.kind = .array n e) : P.underlying t = some (.array n e) := by
  obtain ⟨u, h1, h2⟩ := h.und
  rw [hk] at h2
  cases u <;> simp [kindOf] at h2
  rw [h1, h2.1, h2.2]
theorem TyOk.struct {fs : List (Nat × Nat × TypeId)} (h : TyOk P t d) (hk : d.kind = .struct fs) : ∃ l, P.underlying t = some (.struct l) ∧ (l.toList.map fun f => (f.offset, match P.info? f.type with | some i => i.size | none => 0, f.type)) = fs := by
  obtain ⟨u, h1, h2⟩ := h.und
  rw [hk] at h2
  cases u with
  | struct l => refine ⟨l, h1, ?_⟩; simpa [kindOf] using h2
  | _ => simp [kindOf] at h2
theorem TyOk.map {k e : TypeId} (h : TyOk P t d) (hk : d.kind = .map k e) : P.underlying t = some (.map k e) := by
  obtain ⟨u, h1, h2⟩ := h.und
  rw [hk] at h2
  cases u <;> simp [kindOf] at h2
  rw [h1, h2.1, h2.2]
theorem TyOk.isAgg (h : TyOk P t d) (w : World) : (isAgg t).run P w = .ok (isStr d.kind) w := by
  obtain ⟨u, h1, h2⟩ := h.und
  cases u <;> simp [Go.isAgg, run_underlying h1, ← h2, kindOf, isStr]
theorem TyOk.sizeOf (h : TyOk P t d) (w : World) : (Go.sizeOf t).run P w = .ok d.size w := by
  obtain ⟨i, h1, h2, h3, h4⟩ := h.info'
  simp [Go.sizeOf, typeInfo, h1, h3]
theorem TyOk.zeroValue (h : TyOk P t d) (w : World) : (zeroValue t).run P w = .ok d.zeroVal w := by
  obtain ⟨i, h1, h2, h3, h4⟩ := h.info'
  simp [Go.zeroValue, typeInfo, h1, h2]
end

def takeF {α : Type} : Nat → List α → Option (List α)
  | 0, _ => some []
  | _ + 1, [] => none
  | n + 1, c :: r => match takeF n r with | some l => some (c :: l) | none => none
def dropF {α : Type} : Nat → List α → List α
  | 0, l => l
  | _ + 1, [] => []
  | n + 1, _ :: r => dropF n r
/-- l over cells from place off on. -/
def overF {α : Type} : List α → Nat → List α → Option (List α)
  | cs, 0, [] => some cs
  | _ :: cs, 0, x :: l => match overF cs 0 l with | some r => some (x :: r) | none => none
  | c :: cs, n + 1, l => match overF cs n l with | some r => some (c :: r) | none => none
  | [], _, _ => none
def liftF : List D → Option (List AVal)
  | [] => some []
  | x :: r => match liftF r with | some l => some (.d x :: l) | none => none
theorem takeF_eq {α : Type} : ∀ {n : Nat} {l m : List α}, takeF n l = some m → m = l.take n ∧ n ≤ l.length
  | 0, l, m, h => by simp [takeF] at h; subst h; simp
  | n + 1, [], m, h => by simp [takeF] at h
  | n + 1, c :: r, m, h => by
    simp only [takeF] at h
    cases hr : takeF n r with
    | none => rw [hr] at h; cases h
    | some l =>
      rw [hr] at h
      simp only [Option.some.injEq] at h
      obtain ⟨e1, e2⟩ := takeF_eq hr
      subst h
      rw [e1]
      exact ⟨rfl, by simp; omega⟩
theorem dropF_eq {α : Type} : ∀ (n : Nat) (l : List α), dropF n l = l.drop n
  | 0, l => rfl
  | n + 1, [] => by simp [dropF]
  | n + 1, c :: r => by simp only [dropF, List.drop_succ_cons]; exact dropF_eq n r
theorem liftF_eq : ∀ {l : List D} {m : List AVal}, liftF l = some m → m = l.map .d
  | [], m, h => by simp [liftF] at h; subst h; rfl
  | x :: r, m, h => by
    simp only [liftF] at h
    cases hr : liftF r with
    | none => rw [hr] at h; cases h
    | some l =>
      rw [hr] at h
      simp only [Option.some.injEq] at h
      subst h
      rw [liftF_eq hr]; rfl
theorem overF_eq {α : Type} : ∀ {cs : List α} {n : Nat} {l m : List α}, overF cs n l = some m → n + l.length ≤ cs.length ∧ m.length = cs.length ∧ ∀ i, m[i]? = if n ≤ i ∧ i < n + l.length then l[i - n]? else cs[i]?
  | cs, 0, [], m, h => by
    have h : some cs = some m := by cases cs <;> simpa [overF] using h
    cases h
    exact ⟨by simp, rfl, fun i => by rw [if_neg (by simp)]⟩
  | c :: cs, 0, x :: l, m, h => by
    simp only [overF] at h
    cases hr : overF cs 0 l with
    | none => rw [hr] at h; cases h
    | some r =>
      rw [hr] at h
      simp only [Option.some.injEq] at h
      subst h
      obtain ⟨h1, h2, h3⟩ := overF_eq hr
      refine ⟨by simp at h1 ⊢; omega, by simp [h2], fun i => ?_⟩
      cases i with
      | zero => simp
      | succ i =>
        have := h3 i
        simp only [Nat.zero_le, true_and, Nat.zero_add, Nat.sub_zero] at this
        simp only [List.getElem?_cons_succ, this, Nat.zero_le, true_and, Nat.zero_add, List.length_cons, Nat.add_lt_add_iff_right, Nat.sub_zero]
  | c :: cs, n + 1, l, m, h => by
    simp only [overF] at h
    cases hr : overF cs n l with
    | none => rw [hr] at h; cases h
    | some r =>
      rw [hr] at h
      simp only [Option.some.injEq] at h
      subst h
      obtain ⟨h1, h2, h3⟩ := overF_eq hr
      refine ⟨by simp; omega, by simp [h2], fun i => ?_⟩
      cases i with
      | zero => simp
      | succ i =>
        have e : (n + 1 ≤ i + 1 ∧ i + 1 < n + 1 + l.length) ↔ (n ≤ i ∧ i < n + l.length) := by omega
        simp only [List.getElem?_cons_succ, h3 i, e, Nat.add_sub_add_right]
  | [], n + 1, l, m, h => by simp [overF] at h
  | [], 0, x :: l, m, h => by simp [overF] at h
def aconst : Value → AVal
  | .int k n => .d (.i k n)
  | .bool b => .d (.b b)
  | .string s => .d (.s s.data.toList)
  | .agg _ => .any
  | .tuple _ => .any
  | v => .d (.v v)
theorem aconst_rep (w : World) (good : Nat → Prop) (L : Lay) (v : Value) : RepA w L good (aconst v) v := by
  cases v with
  | int k n => exact .d (.i k n)
  | bool b => exact .d (.b b)
  | string s => exact .d (by have := RepD.s (w := w) (good := good) s.data.toList; simpa using this)
  | agg _ => exact .any
  | tuple _ => exact .any
  | _ => exact .d (.v _ rfl)
def AVal.cells : AVal → List AVal
  | .agg l => l
  | v => [v]
inductive Res
  | val (v : AVal)
  | cond (v : AVal) (c : Prop)
  | new (o : AObj)
  | set (id : Nat) (o : AObj)
  | setc (id : Nat) (o : AObj) (c : Prop)
  | mkrow (t : TypeId) (sz n : Nat) (f : Nat → List D) (c : Option Prop)
  | app (old : Nat) (t : TypeId) (sz n : Nat) (f : Nat → List D) (c : Prop)
  | ndb (c : Bool → Prop)
  | str (c : List UInt8 → Prop)
  | pub (id : Nat) (v : AVal)

def wraps (T : Tys) : Bool := T.wrap
/-- A sum: 64 bits with a sign are added as they are, where that fits; the others wrap. -/
def arith (w : Bool) (k : IntKind) (n : Int) : Res :=
  match k with
  | .i64 => match w with
    | true => .val (.d (.i .i64 (IntKind.i64.wrap n)))
    | false => .cond (.d (.i .i64 n)) (-9223372036854775808 ≤ n ∧ n ≤ 9223372036854775807)
  | k => .val (.d (.i k (k.wrap n)))
def bitsOp (op : BinOp) (k : IntKind) (a b : Int) : Int :=
  let x := BitVec.ofInt k.bits a
  let y := BitVec.ofInt k.bits b
  match op with
  | .and => k.wrap (x &&& y).toNat
  | .or => k.wrap (x ||| y).toNat
  | .xor => k.wrap (x ^^^ y).toNat
  | _ => k.wrap (x &&& ~~~y).toNat
def kEq : IntKind → IntKind → Bool
  | .i8, .i8 => true | .i16, .i16 => true | .i32, .i32 => true | .i64, .i64 => true
  | .u8, .u8 => true | .u16, .u16 => true | .u32, .u32 => true | .u64, .u64 => true
  | _, _ => false
theorem kEq_eq {a b : IntKind} (h : kEq a b = true) : a = b := by cases a <;> cases b <;> simp_all [kEq]
def aBinI (w : Bool) (op : BinOp) (k : IntKind) (a b : Int) : Option Res :=
  match op with
  | .add => some (arith w k (a + b))
  | .sub => some (arith w k (a - b))
  | .mul => some (arith w k (a * b))
  | .eql => some (.val (.d (.b (a == b))))
  | .neq => some (.val (.d (.b (a != b))))
  | .lss => some (.val (.d (.b (decide (a < b)))))
  | .leq => some (.val (.d (.b (decide (a ≤ b)))))
  | .gtr => some (.val (.d (.b (decide (b < a)))))
  | .geq => some (.val (.d (.b (decide (b ≤ a)))))
  | .quo => some (.cond (.d (.i k (k.wrap (a.tdiv b)))) (b ≠ 0))
  | .rem => some (.cond (.d (.i k (a.tmod b))) (b ≠ 0))
  | .and => some (.val (.d (.i k (bitsOp .and k a b))))
  | .or => some (.val (.d (.i k (bitsOp .or k a b))))
  | .xor => some (.val (.d (.i k (bitsOp .xor k a b))))
  | .andNot => some (.val (.d (.i k (bitsOp .andNot k a b))))
  | _ => none
def shlOp (k : IntKind) (a b : Int) : Int := k.wrap (a * 2 ^ min b.toNat k.bits)
def shrOp (k : IntKind) (a b : Int) : Int := a.fdiv (2 ^ min b.toNat k.bits)
def aBin (w : Bool) (op : BinOp) : AVal → AVal → Option Res
  | .d (.i k a), .d (.i k' b) =>
    match op with
    | .shl => some (.cond (.d (.i k (shlOp k a b))) (0 ≤ b))
    | .shr => some (.cond (.d (.i k (shrOp k a b))) (0 ≤ b))
    | op => match kEq k k' with
      | true => aBinI w op k a b
      | false => none
  | .d (.s a), .d (.s b) =>
    match op with
    | .add => some (.cond (.d (.s (a ++ b))) (a.length + b.length ≤ 9223372036854775807))
    | .eql => some (.val (.d (.b (a == b))))
    | .neq => some (.val (.d (.b (a != b))))
    | .lss => some (.val (.d (.b (Op.bytesLess a b))))
    | _ => none
  | _, _ => none
def aLen : AVal → Option Int
  | .d (.s l) => some l.length
  | .d (.sl _ n _) => some n
  | .rsl _ _ _ n => some n
  | .d (.v (.slice none 0 _)) => some 0
  | _ => none
def mkCond (v : AVal) : Option Prop → Res
  | some c => .cond v c
  | none => .val v
/-- All cells from the pointed place on. -/
def aCells (h : Nat → Option AObj) : AVal → Option (List AVal × Option Prop)
  | .ptr id off => match h id with
    | some (.box cells _) => some (dropF off cells, none)
    | _ => none
  | .eptr _ _ f k off => match liftF (dropF off (f k)) with
    | some l => some (l, none)
    | none => none
  | .rptr id sz k off => match h id with
    | some (.row _ sz' n f) => match Nat.beq sz sz' with
      | true => match liftF (dropF off (f k)) with
        | some l => some (l, some (k < n))
        | none => none
      | false => none
    | _ => none
  | _ => none
def aPart (d : TyD) (l : List AVal) : Option AVal :=
  match takeF d.size l with
  | some l => match isStr d.kind with
    | true => some (.agg l)
    | false => match l with | [x] => some x | _ => none
  | none => none
def aLoad (h : Nat → Option AObj) (d : TyD) (p : AVal) : Option Res :=
  match aCells h p with
  | some (l, c) => match aPart d l with
    | some v => some (mkCond v c)
    | none => none
  | none => none
def AVal.sure : AVal → Bool
  | .any => false
  | .tup _ => false
  | .agg _ => false
  | _ => true
/-- The cells of a value that is stored. -/
def aStored (d : TyD) : AVal → Option (List AVal)
  | .agg l => match isStr d.kind with | true => some l | false => none
  | .any => none
  | .tup _ => none
  | v => match isStr d.kind with | true => none | false => some [v]
/-- One element of a row is another one. -/
def fupd (f : Nat → List D) (k : Nat) (r : List D) : Nat → List D := fun j => if j = k then r else f j
def unliftF : List AVal → Option (List D)
  | [] => some []
  | .d x :: r => match unliftF r with | some l => some (x :: l) | none => none
  | _ => none
theorem unliftF_eq : ∀ {l : List AVal} {m : List D}, unliftF l = some m → l = m.map .d
  | [], m, h => by simp [unliftF] at h; subst h; rfl
  | x :: r, m, h => by
    cases x with
    | d x =>
      simp only [unliftF] at h
      cases hr : unliftF r with
      | none => rw [hr] at h; cases h
      | some l =>
        rw [hr] at h
        simp only [Option.some.injEq] at h
        subst h
        rw [unliftF_eq hr]; rfl
    | _ => simp [unliftF] at h
def aStore (h : Nat → Option AObj) (d : TyD) (v : AVal) : AVal → Option Res
  | .ptr id off => match h id with
    | some (.box cells tag) => match aStored d v with
      | some vs => match Nat.beq vs.length d.size with
        | true => match overF cells off vs with
          | some l => some (.set id (.box l tag))
          | none => none
        | false => none
      | none => none
    | _ => none
  | .rptr id sz k off => match h id with
    | some (.row t sz' n f) => match Nat.beq sz sz' with
      | true => match aStored d v with
        | some vs => match Nat.beq vs.length d.size with
          | true => match unliftF vs with
            | some vs => match overF (f k) off vs with
              | some l => some (.setc id (.row t sz' n (fupd f k l)) (k < n))
              | none => none
            | none => none
          | false => none
        | none => none
      | false => none
    | _ => none
  | _ => none
def aAddr (n : Nat) : AVal → Option AVal
  | .ptr id off => some (.ptr id (Nat.add off n))
  | .eptr sz m f k off => some (.eptr sz m f k (Nat.add off n))
  | .rptr id sz k off => some (.rptr id sz k (Nat.add off n))
  | _ => none
def fieldAt : Nat → List (Nat × Nat × TypeId) → Option (Nat × Nat × TypeId)
  | 0, x :: _ => some x
  | n + 1, _ :: r => fieldAt n r
  | _, [] => none
def aIndex (es : Nat) : AVal → AVal → Option Res
  | .d (.sl sz n f), .d (.i _ k) => match Nat.beq es sz with
    | true => some (.cond (.eptr sz n f k.toNat 0) (0 ≤ k ∧ k < n))
    | false => none
  | .rsl id sz o n, .d (.i _ k) => match Nat.beq es sz with
    | true => some (.cond (.rptr id sz (o + k.toNat) 0) (0 ≤ k ∧ k < n))
    | false => none
  | _, _ => none
/-- A slice expression's bounds, as numbers. -/
def sliceOf (n : Nat) : Option Int → Option Int → Nat × Nat × Option Prop
  | none, none => (0, n, none)
  | some a, none => (a.toNat, n, some (0 ≤ a ∧ a ≤ n))
  | none, some b => (0, b.toNat, some (0 ≤ b ∧ b ≤ n))
  | some a, some b => (a.toNat, b.toNat, some (0 ≤ a ∧ a ≤ b ∧ b ≤ n))
def cutS (l : List UInt8) : Option Int → Option Int → List UInt8
  | none, none => l
  | some a, none => l.drop a.toNat
  | none, some b => l.take b.toNat
  | some a, some b => (l.take b.toNat).drop a.toNat
def aSlice : AVal → Option Int → Option Int → Option Res
  | .d (.s l), lo, hi => some (mkCond (.d (.s (cutS l lo hi))) (sliceOf l.length lo hi).2.2)
  | .d (.sl sz n f), lo, hi => match sliceOf n lo hi with
    | (a, b, c) => match a with
      | 0 => some (mkCond (.d (.sl sz b f)) c)
      | a => some (mkCond (.d (.sl sz (b - a) fun k => f (a + k))) c)
  | .rsl id sz o n, lo, hi => match sliceOf n lo hi with
    | (a, b, c) => match a with
      | 0 => some (mkCond (.rsl id sz o b) c)
      | a => some (mkCond (.rsl id sz (o + a) (b - a)) c)
  | _, _, _ => none
def opnd (g : Nat → AVal) : Operand → AVal
  | .tmp t => g t
  | .const v => aconst v
  | .func f => .fn f []
  | .global _ => .any
def optI (g : Nat → AVal) : Option Operand → Option (Option Int)
  | none => some none
  | some x => match opnd g x with
    | .d (.i _ n) => some (some n)
    | _ => none
def aParts (fs : List (Nat × Nat × TypeId)) (g : Nat → AVal) : List (Nat × Operand) → List AVal → Option (List AVal)
  | [], cs => some cs
  | (j, x) :: r, cs => match fieldAt j fs with
    | some (off, size, _) => match opnd g x with
      | .any => none
      | .tup _ => none
      | v => match Nat.beq v.cells.length size with
        | true => match overF cs off v.cells with
          | some cs' => aParts fs g r cs'
          | none => none
        | false => none
    | none => none
/-- The places of an array's elements. -/
def arrF (s e : Nat) : Nat → Nat → List (Nat × Nat × Nat)
  | 0, _ => []
  | n + 1, off => (off, s, e) :: arrF s e n (off + s)
/-- Values, made: each begins with its word. -/
def strictV : AVal → Option AVal
  | .any => some .any
  | .d x => some (.d x)
  | .agg l => some (.agg l)
  | .tup l => some (.tup l)
  | .ptr a b => some (.ptr a b)
  | .eptr a b c d e => some (.eptr a b c d e)
  | .rsl a b c d => some (.rsl a b c d)
  | .rptr a b c d => some (.rptr a b c d)
  | .fn a b => some (.fn a b)
  | .fresh a b c d => some (.fresh a b c d)
def strictL : List AVal → Option (List AVal)
  | [] => some []
  | x :: r => match strictV x with
    | some x => match strictL r with
      | some r => some (x :: r)
      | none => none
    | none => none
theorem strictL_eq : ∀ {l m : List AVal}, strictL l = some m → m = l
  | [], m, h => by simpa [strictL] using h.symm
  | x :: r, m, h => by
    have hx : strictV x = some x := by cases x <;> rfl
    rw [strictL, hx] at h
    simp only at h
    cases hr : strictL r with
    | none => rw [hr] at h; cases h
    | some r' =>
      rw [hr] at h
      cases h
      rw [strictL_eq hr]
def listAt {α : Type} : Nat → List α → Option α
  | 0, x :: _ => some x
  | n + 1, _ :: r => listAt n r
  | _, [] => none
def replF {α : Type} : Nat → α → List α
  | 0, _ => []
  | n + 1, x => x :: replF n x
def setF {α : Type} : Nat → α → List α → Option (List α)
  | _, _, [] => none
  | 0, x, _ :: r => some (x :: r)
  | n + 1, x, y :: r => match setF n x r with
    | some r' => some (y :: r')
    | none => none
theorem replF_eq {α : Type} (x : α) : ∀ n, replF n x = List.replicate n x
  | 0 => rfl
  | n + 1 => by simp only [replF, replF_eq x n, List.replicate_succ]
theorem setF_eq {α : Type} {x : α} : ∀ {n : Nat} {l m : List α}, setF n x l = some m → n < l.length ∧ m = l.set n x
  | n, [], m, h => by cases n <;> simp [setF] at h
  | 0, y :: r, m, h => by simp only [setF, Option.some.injEq] at h; subst h; simp
  | n + 1, y :: r, m, h => by
    simp only [setF] at h
    cases hr : setF n x r with
    | none => rw [hr] at h; cases h
    | some r' =>
      rw [hr] at h
      simp only [Option.some.injEq] at h
      subst h
      obtain ⟨h1, h2⟩ := setF_eq hr
      subst h2
      exact ⟨by simp; omega, rfl⟩
/-- The elements of a slice that is written out. -/
def aElems (d : TyD) (g : Nat → AVal) : List (Nat × Operand) → List (List D) → Option (List (List D))
  | [], l => some l
  | (j, x) :: r, l => match aStored d (opnd g x) with
    | some vs => match Nat.beq vs.length d.size with
      | true => match unliftF vs with
        | some us => match setF j us l with
          | some l' => aElems d g r l'
          | none => none
        | none => none
      | false => none
    | none => none
/-- One row behind another. -/
def fcat (f : Nat → List D) (n : Nat) (f2 : Nat → List D) : Nat → List D := fun k => if k < n then f k else f2 (k - n)
def aSrc (h : Nat → Option AObj) (sz : Nat) : AVal → Option (Nat × (Nat → List D) × Option Prop)
  | .d (.sl sz' m f) => match Nat.beq sz' sz with
    | true => some (m, f, none)
    | false => none
  | .d (.v (.slice none 0 _)) => some (0, fun _ => [], none)
  | .rsl id sz' o m => match o with
    | 0 => match h id with
      | some (.row _ sz2 n f) => match Nat.beq sz' sz with
        | true => match Nat.beq sz2 sz with
          | true => some (m, f, some (m ≤ n))
          | false => none
        | false => none
      | _ => none
    | _ => none
  | _ => none
def andC (p : Prop) : Option Prop → Prop
  | some q => p ∧ q
  | none => p
/-- The same type, and rows of it bear no mark. -/
def eqT (a b : Nat) : Bool := match Nat.beq a b with | true => Nat.blt b markT | false => false
theorem eqT_ok {a b : Nat} (h : eqT a b = true) : a = b ∧ b < markT := by
  unfold eqT at h
  cases hb : Nat.beq a b with
  | false => rw [hb] at h; cases h
  | true =>
    rw [hb] at h
    exact ⟨Nat.eq_of_beq_eq_true hb, Nat.le_of_ble_eq_true h⟩
def aAppend (e : TypeId) (d : TyD) (h : Nat → Option AObj) (s x : AVal) : Option Res :=
  match d.size with
  | 0 => none
  | _ + 1 => match aSrc h d.size x with
    | some (m, f2, c) => match s with
      | .d (.v (.slice none 0 0)) => some (.mkrow e d.size m f2 (some (andC (m ≤ 9223372036854775807 ∧ m * d.bytes ≤ 140737488355328) c)))
      | .rsl id sz o n => match o with
        | 0 => match h id with
          | some (.row e' sz' n' f) => match eqT e' e with
            | true => match Nat.beq sz' d.size with
              | true => match Nat.beq sz d.size with
                | true => some (.app id e d.size (n' + m) (fcat f n' f2) (andC (n = n' ∧ n' + m ≤ 9223372036854775807 ∧ (n' + m) * d.bytes ≤ 140737488355328) c))
                | false => none
              | false => none
            | false => none
          | _ => none
        | _ => none
      | _ => none
    | none => none
/-- Bytes, as elements. -/
def bytesF (l : List UInt8) : Nat → List D := fun k => [.i .u8 ((l.getD k 0).toNat : Nat)]
/-- m elements f2, put behind. -/
def aAppendX (e : TypeId) (d : TyD) (h : Nat → Option AObj) (s : AVal) (m : Nat) (f2 : Nat → List D) (c : Option Prop) : Option Res :=
  match d.size with
  | 0 => none
  | _ + 1 => match s with
    | .d (.v (.slice none 0 0)) => some (.mkrow e d.size m f2 (some (andC (m ≤ 9223372036854775807 ∧ m * d.bytes ≤ 140737488355328) c)))
    | .rsl id sz o n => match o with
      | 0 => match h id with
        | some (.row e' sz' n' f) => match eqT e' e with
          | true => match Nat.beq sz' d.size with
            | true => match Nat.beq sz d.size with
              | true => some (.app id e d.size (n' + m) (fcat f n' f2) (andC (n = n' ∧ n' + m ≤ 9223372036854775807 ∧ (n' + m) * d.bytes ≤ 140737488355328) c))
              | false => none
            | false => none
          | false => none
        | _ => none
      | _ => none
    | _ => none
def isNil : AVal → Bool
  | .d (.v (.slice none 0 0)) => true
  | _ => false
/-- A slice against nil: one with elements is not nil. -/
def aNil (op : BinOp) (x : AVal) : Option Res :=
  match x with
  | .d (.sl _ n _) => match op with
    | .eql => some (.ndb fun b => 0 < n → b = false)
    | .neq => some (.ndb fun b => 0 < n → b = true)
    | _ => none
  | .rsl _ _ _ n => match op with
    | .eql => some (.ndb fun b => 0 < n → b = false)
    | .neq => some (.ndb fun b => 0 < n → b = true)
    | _ => none
  | .d (.v (.slice none 0 0)) => match op with
    | .eql => some (.val (.d (.b true)))
    | .neq => some (.val (.d (.b false)))
    | _ => none
  | _ => none
/-- Two structs of plain fields. -/
def eqF (T : Tys) : List (Nat × Nat × TypeId) → List AVal → List AVal → Option Bool
  | [], _, _ => some true
  | (off, _, ft) :: r, l, m => match lookT ft T with
    | some ⟨.int _, _, _, _⟩ => match l[off]?, m[off]? with
      | some (.d (.i k a)), some (.d (.i k' b)) => match kEq k k' with
        | true => match eqF T r l m with
          | some c => some ((a == b) && c)
          | none => none
        | false => none
      | _, _ => none
    | some ⟨.bool, _, _, _⟩ => match l[off]?, m[off]? with
      | some (.d (.b a)), some (.d (.b b)) => match eqF T r l m with
        | some c => some ((a == b) && c)
        | none => none
      | _, _ => none
    | some ⟨.string, _, _, _⟩ => match l[off]?, m[off]? with
      | some (.d (.s a)), some (.d (.s b)) => match eqF T r l m with
        | some c => some ((a == b) && c)
        | none => none
      | _, _ => none
    | _ => none
/-- Two arrays of numbers. -/
def eqA : List Nat → List AVal → List AVal → Option Bool
  | [], _, _ => some true
  | i :: is, l, m => match l[i]?, m[i]? with
    | some (.d (.i k a)), some (.d (.i k' b)) => match kEq k k' with
      | true => match eqA is l m with
        | some c => some ((a == b) && c)
        | none => none
      | false => none
    | _, _ => none
def aCmp (T : Tys) (op : BinOp) (t : TypeId) (l m : List AVal) : Option Res :=
  match lookT t T with
  | some ⟨.struct fs, _, _, _⟩ => match eqF T fs l m with
    | some b => match op with
      | .eql => some (.val (.d (.b b)))
      | .neq => some (.val (.d (.b (!b))))
      | _ => none
    | none => none
  | some ⟨.array n e, _, _, _⟩ => match lookT e T with
    | some ⟨.int _, sz, _, _⟩ => match Nat.beq sz 1 with
      | true => match eqA (List.range n) l m with
        | some b => match op with
          | .eql => some (.val (.d (.b b)))
          | .neq => some (.val (.d (.b (!b))))
          | _ => none
        | none => none
      | false => none
    | _ => none
  | _ => none
/-- An operation that is no call of a function. -/
def tagOf (T : Tys) (t : TypeId) : Option TypeId := match tagMem t T.tg with | true => some t | false => none
def aop (T : Tys) (g : Nat → AVal) (h : Nat → Option AObj) (op : Op) : Option Res :=
  match op with
  | .move x => some (.val (opnd g x))
  | .assign x => some (.val (opnd g x))
  | .pick c a b => match opnd g c with
    | .d (.b true) => some (.val (opnd g a))
    | .d (.b false) => some (.val (opnd g b))
    | _ => none
  | .box _ x => match opnd g x with
    | .agg l => some (.new (.box l))
    | .any => none
    | .tup _ => none
    | v => some (.new (.box [v]))
  | .alloc t => match lookT t T with
    | some d => match liftF d.zero with
      | some l => some (.new (.box l (tagOf T t)))
      | none => none
    | none => none
  | .build t ps => match lookT t T with
    | some ⟨.struct fs, _, _, z⟩ => match liftF z with
      | some l => match aParts fs g ps.toList l with
        | some l => match strictL l with
          | some l => some (.val (.agg l))
          | none => none
        | none => none
      | none => none
    | some ⟨.array n e, _, _, z⟩ => match lookT e T with
      | some d => match liftF z with
        | some l => match aParts (arrF d.size e n 0) g ps.toList l with
          | some l => match strictL l with
            | some l => some (.val (.agg l))
            | none => none
          | none => none
        | none => none
      | none => none
    | _ => none
  | .load t x => match lookT t T with
    | some d => aLoad h d (opnd g x)
    | none => none
  | .store t p x => match lookT t T with
    | some d => aStore h d (opnd g x) (opnd g p)
    | none => none
  | .fieldAddr t x f => match lookT t T with
    | some ⟨.struct fs, _, _, _⟩ => match fieldAt f fs with
      | some (o, s, _) => match s with
        | 0 => none
        | _ + 1 => match aAddr o (opnd g x) with
          | some v => some (.val v)
          | none => none
      | none => none
    | _ => none
  | .indexAddr t x k => match lookT t T with
    | some ⟨.slice e, _, _, _⟩ => match lookT e T with
      | some d => aIndex d.size (opnd g x) (opnd g k)
      | none => none
    | some ⟨.array n e, _, _, _⟩ => match lookT e T, opnd g x, opnd g k with
      | some d, .ptr id off, .d (.i _ kk) => some (.cond (.ptr id (off + kk.toNat * d.size)) (0 ≤ kk ∧ kk < n))
      | some d, .eptr sz m f j off, .d (.i _ kk) => some (.cond (.eptr sz m f j (off + kk.toNat * d.size)) (0 ≤ kk ∧ kk < n))
      | some d, .rptr id sz j off, .d (.i _ kk) => some (.cond (.rptr id sz j (off + kk.toNat * d.size)) (0 ≤ kk ∧ kk < n))
      | _, _, _ => none
    | _ => none
  | .field t x f => match lookT t T with
    | some ⟨.struct fs, _, _, _⟩ => match fieldAt f fs with
      | some (o, _, ft) => match lookT ft T, opnd g x with
        | some d, .agg l => match aPart d (dropF o l) with
          | some v => some (.val v)
          | none => none
        | _, _ => none
      | none => none
    | _ => none
  | .index t x k => match lookT t T with
    | some ⟨.string, _, _, _⟩ => match opnd g x, opnd g k with
      | .d (.s l), .d (.i _ k) => some (.cond (.d (.i .u8 ((l.getD k.toNat 0).toNat : Nat))) (0 ≤ k ∧ k < l.length))
      | _, _ => none
    | _ => none
  | .nilCheck x => match opnd g x with
    | .ptr id o => some (.val (.ptr id o))
    | .eptr a b c d e => some (.val (.eptr a b c d e))
    | .rptr a b c d => some (.val (.rptr a b c d))
    | .fn f l => some (.val (.fn f l))
    | _ => none
  | .binOp op t x y _ => match isNil (opnd g y) with
    | true => match lookT t T with
      | some ⟨.slice _, _, _, _⟩ => aNil op (opnd g x)
      | _ => none
    | false => match opnd g x with
      | .agg l => match opnd g y with
        | .agg m => aCmp T op t l m
        | _ => none
      | .d (.b a) => match opnd g y with
        | .d (.b b) => match lookT t T with
          | some ⟨.bool, _, _, _⟩ => match op with
            | .eql => some (.val (.d (.b (a == b))))
            | .neq => some (.val (.d (.b (a != b))))
            | _ => none
          | _ => none
        | _ => none
      | u => aBin (wraps T) op u (opnd g y)
  | .unOp .not _ x => match opnd g x with
    | .d (.b x) => some (.val (.d (.b (!x))))
    | _ => none
  | .unOp .neg _ x => match opnd g x with
    | .d (.i k x) => some (arith (wraps T) k (0 - x))
    | _ => none
  | .unOp .xor _ x => match opnd g x with
    | .d (.i k x) => some (.val (.d (.i k (bitsOp .xor k (if k.signed then -1 else k.max) x))))
    | _ => none
  | .convert src dst x => match lookT src T, lookT dst T, opnd g x with
    | some _, some ⟨.int k, _, _, _⟩, .d (.i _ n) => some (arith (wraps T) k n)
    | some ⟨.string, _, _, _⟩, some ⟨.string, _, _, _⟩, .d (.s l) => some (.val (.d (.s l)))
    | some ⟨.slice e, _, _, _⟩, some ⟨.string, _, _, _⟩, .d (.sl sz n f) => match lookT e T with
      | some ⟨.int .u8, _, _, _⟩ => match Nat.beq sz 1 with
        | true => some (.str fun l => l.length = n ∧ ∀ k, k < n → f k = bytesF l k)
        | false => none
      | _ => none
    | some ⟨.slice e, _, _, _⟩, some ⟨.string, _, _, _⟩, .d (.v (.slice none 0 _)) => match lookT e T with
      | some ⟨.int .u8, _, _, _⟩ => some (.val (.d (.s [])))
      | _ => none
    | some ⟨.slice e, _, _, _⟩, some ⟨.string, _, _, _⟩, .rsl id sz o n => match lookT e T with
      | some ⟨.int .u8, _, _, _⟩ => match h id with
        | some (.row _ sz' n' f) => match Nat.beq sz 1 with
          | true => match Nat.beq sz' 1 with
            | true => some (.str fun l => l.length = n ∧ o + n ≤ n' ∧ ∀ k, k < n → f (o + k) = bytesF l k)
            | false => none
          | false => none
        | _ => none
      | _ => none
    | _, _, _ => none
  | .slice t x lo hi none => match lookT t T with
   | some ⟨.array n e, _, _, _⟩ => match lo, hi, lookT e T, opnd g x with
     | none, none, some d, .ptr id 0 => match h id with
       | some (.box cells _) => match unliftF cells with
         | some ds => match Nat.beq ds.length (n * d.size) with
           | true => match Nat.ble n 9223372036854775807 with
             | true => some (.pub id (.d (.sl d.size n fun k => (ds.drop (k * d.size)).take d.size)))
             | false => none
           | false => none
         | none => none
       | _ => none
     | _, _, _, _ => none
   | _ => match optI g lo, optI g hi with
    | some lo, some hi => match lookT t T with
      | some ⟨.string, _, _, _⟩ => match opnd g x with
        | .d (.s l) => aSlice (.d (.s l)) lo hi
        | _ => none
      | some ⟨.slice e, _, _, _⟩ => match lookT e T, opnd g x with
        | some d, .d (.sl sz n f) => match Nat.beq d.size sz with
          | true => aSlice (.d (.sl sz n f)) lo hi
          | false => none
        | some d, .rsl id sz o n => match Nat.beq d.size sz with
          | true => aSlice (.rsl id sz o n) lo hi
          | false => none
        | _, _ => none
      | _ => none
    | _, _ => none
  | .extract x k => match opnd g x with
    | .tup l => match listAt k l with
      | some v => some (.val v)
      | none => none
    | _ => none
  | .makeFunc (.func f) first caps => match first.toList with
    | [] => some (.val (.fn f (caps.toList.map (opnd g))))
    | _ => none
  | .call { callee := .builtin .len, args := as, argTypes := ts } => match as.toList, ts.toList with
    | [x], [t] => match lookT t T with
      | some ⟨.string, _, _, _⟩ => match opnd g x with
        | .d (.s l) => some (.val (.d (.i .i64 l.length)))
        | _ => none
      | some ⟨.slice _, _, _, _⟩ => match opnd g x with
        | .d (.sl _ n _) => some (.val (.d (.i .i64 n)))
        | .rsl _ _ _ n => some (.val (.d (.i .i64 n)))
        | .d (.v (.slice none 0 _)) => some (.val (.d (.i .i64 0)))
        | _ => none
      | _ => none
    | _, _ => none
  | .call { callee := .builtin .min, args := as, .. } => match as.toList with
    | [x, y] => match opnd g x, opnd g y with
      | .d (.i k a), .d (.i _ b) => some (.val (.d (.i k (min a b))))
      | _, _ => none
    | _ => none
  | .call { callee := .builtin .max, args := as, .. } => match as.toList with
    | [x, y] => match opnd g x, opnd g y with
      | .d (.i k a), .d (.i _ b) => some (.val (.d (.i k (max a b))))
      | _, _ => none
    | _ => none
  | .call { callee := .builtin .clear, args := as, argTypes := ts } => match as.toList, ts.toList with
    | [x], [t] => match lookT t T with
      | some ⟨.slice e, _, _, _⟩ => match lookT e T, opnd g x with
        | some d, .rsl id sz o n => match h id with
          | some (.row ty sz' n' f) => match Nat.beq sz sz' with
            | true => match Nat.beq d.size sz with
              | true => some (.setc id (.row ty sz' n' (fun k => if o ≤ k ∧ k < o + n then d.zero else f k)) (o + n ≤ n' ∧ 0 < n'))
              | false => none
            | false => none
          | _ => none
        | _, _ => none
      | _ => none
    | _, _ => none
  | .buildSlice t len ps => match lookT t T with
    | some ⟨.slice e, _, _, _⟩ => match lookT e T with
      | some d => match Nat.ble (len + len * d.size) 16777216 with
        | true => match aElems d g ps.toList (replF len d.zero) with
          | some l => some (.mkrow e d.size len (fun k => l.getD k []) none)
          | none => none
        | false => none
      | none => none
    | _ => none
  | .makeSlice t l c => match lookT t T with
    | some ⟨.slice e, _, _, _⟩ => match lookT e T, opnd g l, opnd g c with
      | some d, .d (.i _ n), .d (.i _ m) => some (.mkrow e d.size n.toNat (fun _ => d.zero) (some (0 ≤ n ∧ n ≤ m ∧ d.bytes * m ≤ 281474976710656 ∧ m ≤ 9223372036854775807)))
      | _, _, _ => none
    | _ => none
  | .call { callee := .builtin .append, args := as, argTypes := ts } => match as.toList, ts.toList with
    | [s, x], [t, t'] => match Nat.beq t t' with
      | true => match lookT t T with
        | some ⟨.slice e, _, _, _⟩ => match lookT e T with
          | some d => aAppend e d h (opnd g s) (opnd g x)
          | none => none
        | _ => none
      | false => match lookT t T with
        | some ⟨.slice e, _, _, _⟩ => match lookT e T, lookT t' T, opnd g x with
          | some d, some ⟨.string, _, _, _⟩, .d (.s l) => match Nat.beq d.size 1 with
            | true => aAppendX e d h (opnd g s) l.length (bytesF l) none
            | false => none
          | some d, some ⟨.int .i64, _, _, _⟩, .d (.i .i64 n) => aAppendX e d h (opnd g s) n.toNat (fun _ => d.zero) (some (0 ≤ n ∧ n.toNat ≤ 9223372036854775807 ∧ n.toNat * d.bytes ≤ 281474976710656))
          | _, _, _ => none
        | _ => none
    | _, _ => none
  | _ => none
end Towline

/- The engine, part three: a single operation does what its plain form says. Over any program. -/
namespace Towline
open Go Go.RowKit
set_option linter.unusedVariables false

/-- Slots and objects are held. -/
structure Holds (w : World) (gd : Nat → Prop) (L : Lay) (g : Nat → AVal) (h : Nat → Option AObj) (a : Act) : Prop where
  slot : ∀ t, RepA w L gd (g t) (a.tmps.getD t undef)
  obj : ∀ id o, h id = some o → RepO w gd L id o
section
variable {P : Program} {T : Tys} {w : World} {gd : Nat → Prop} {L : Lay} {g : Nat → AVal} {h : Nat → Option AObj} {a : Act}
theorem Holds.opnd (H : Holds w gd L g h a) (x : Operand) : RepA w L gd (opnd g x) (a.eval x) := by
  cases x with
  | tmp t => exact H.slot t
  | const v => exact aconst_rep w gd L v
  | global n => exact .any
  | func f => exact .fn rfl (fun i x hx => by simp at hx)
/-- An operation makes an object, and the value v. -/
def MakesOk (P : Program) (w : World) (gd : Nat → Prop) (L : Lay) (a : Act) (o : Oper) (d : Nat) (v : AVal) (ob : AObj) : Prop :=
  ∃ w' nb nc u, (execOp a.eval o).run P w = .ok (.value u) w' ∧ Below w.heap.size w w' ∧ (∀ b, nb = some b → w.heap.size ≤ b ∧ b < w'.heap.size) ∧
    ∀ gd', Stays w w' gd gd' → RepO w' gd' (L.upd d nb nc) d ob ∧ RepA w' (L.upd d nb nc) gd' v u
/-- An operation writes an object. -/
def WritesOk (P : Program) (w : World) (gd : Nat → Prop) (L : Lay) (a : Act) (o : Oper) (id : Nat) (ob : AObj) : Prop :=
  ∃ b w', L.blk id = some b ∧ ((execOp a.eval o).run P w = .ok .skip w' ∨ ∃ u, (execOp a.eval o).run P w = .ok (.value u) w') ∧ w'.os = w.os ∧ w'.tape = w.tape ∧ w'.output = w.output ∧ w'.heap.size = w.heap.size ∧ (∀ b', b' ≠ b → w'.heap[b']? = w.heap[b']?) ∧
    ∀ gd', Stays w w' gd gd' → (∀ b, L.old b → w'.heap[b]? = w.heap[b]?) → RepO w' gd' L id ob
/-- An operation puts more behind a row. -/
def MovesOk (P : Program) (w : World) (gd : Nat → Prop) (L : Lay) (a : Act) (o : Oper) (old : Nat) (t : TypeId) (sz n : Nat) (f : Nat → List D) : Prop :=
  ∃ w' nb nc u, (execOp a.eval o).run P w = .ok (.value u) w' ∧ w'.os = w.os ∧ w'.tape = w.tape ∧ w'.output = w.output ∧ w.heap.size ≤ w'.heap.size ∧ (∀ b, b < w.heap.size → some b ≠ L.blk old → w'.heap[b]? = w.heap[b]?) ∧
    (∀ b, nb = some b → b < w'.heap.size ∧ (some b = L.blk old ∨ w.heap.size ≤ b)) ∧
    ∀ d gd', Stays w w' gd gd' → RepO w' gd' (L.upd d nb nc) d (.row t sz n f) ∧ RepA w' (L.upd d nb nc) gd' (.rsl d sz 0 n) u
/-- What an operation is found to do. -/
def Res.Ok (P : Program) (w : World) (gd : Nat → Prop) (L : Lay) (g : Nat → AVal) (h : Nat → Option AObj) (a : Act) (o : Oper) : Res → Prop
  | .val v => ∃ u, (execOp a.eval o).run P w = .ok (.value u) w ∧ RepA w L gd v u
  | .cond v c => c → ∃ u, (execOp a.eval o).run P w = .ok (.value u) w ∧ RepA w L gd v u
  | .new ob => ∀ d, (∀ t, (g t).free d = true) → MakesOk P w gd L a o d (.ptr d 0) ob
  | .set id ob => (∃ o0, h id = some o0) ∧ WritesOk P w gd L a o id ob
  | .setc id ob c => (∃ o0, h id = some o0) ∧ (c → WritesOk P w gd L a o id ob)
  | .mkrow t sz n f c => (∀ q, c = some q → q) → ∀ d, MakesOk P w gd L a o d (.rsl d sz 0 n) (.row t sz n f)
  | .app old t sz n f c => (∃ t0 sz0 n0 f0, h old = some (.row t0 sz0 n0 f0)) ∧ (c → (∀ b, L.blk old = some b → ¬ gd b) → MovesOk P w gd L a o old t sz n f)
  | .ndb c => ∃ b, (execOp a.eval o).run P w = .ok (.value (.bool b)) w ∧ c b
  | .str c => ∀ l, c l → ∃ u, (execOp a.eval o).run P w = .ok (.value u) w ∧ RepA w L gd (.d (.s l)) u
  | .pub id v => (∃ o0, h id = some o0) ∧ ∃ u, (execOp a.eval o).run P w = .ok (.value u) w ∧ ∀ gd' : Nat → Prop, (∀ b, gd b → gd' b) → (∀ b, L.blk id = some b → gd' b ∧ b < w.heap.size) → RepA w L gd' v u

theorem repA_agg {l : List AVal} {v : Value} (hv : RepA w L gd (.agg l) v) : ∃ vs : Array Value, v = .agg vs ∧ vs.size = l.length ∧ (∀ i, i < l.length → (vs.getD i undef).oneCell' = true) ∧ ∀ i x, l[i]? = some x → RepA w L gd x (vs.getD i undef) := by
  cases hv with
  | agg hz h1 h => exact ⟨_, rfl, hz, h1, h⟩
theorem repA_i {k : IntKind} {n : Int} {v : Value} (hv : RepA w L gd (.d (.i k n)) v) : v = .int k n := by
  cases hv with | d h => cases h; rfl
theorem repA_b {x : Bool} {v : Value} (hv : RepA w L gd (.d (.b x)) v) : v = .bool x := by
  cases hv with | d h => cases h; rfl
theorem repA_s {l : List UInt8} {v : Value} (hv : RepA w L gd (.d (.s l)) v) : v = .string ⟨l.toArray⟩ := by
  cases hv with | d h => cases h; rfl
theorem repA_v {x v : Value} (hv : RepA w L gd (.d (.v x)) v) : v = x := by
  cases hv with | d h => cases h; rfl
theorem repA_sl {sz n : Nat} {f : Nat → List D} {v : Value} (hv : RepA w L gd (.d (.sl sz n f)) v) : RepD w gd (.sl sz n f) v := by
  cases hv with | d h => exact h
theorem repD_sl_len {sz n : Nat} {f : Nat → List D} {v : Value} (hv : RepD w gd (.sl sz n f) v) : ∃ A c, v = .slice A n c := by
  cases hv with
  | sl0 => exact ⟨_, _, rfl⟩
  | sl => exact ⟨_, _, rfl⟩
/-- A value that is one cell. -/
theorem repA_one {x : AVal} {v : Value} (hv : RepA w L gd x v) (h1 : x.sure = true) : v.oneCell' = true := by
  cases hv with
  | any => cases h1
  | d h => exact h.one
  | agg => cases h1
  | tup => cases h1
  | ptr => rfl
  | eptr => rfl
  | rsl => rfl
  | rptr => rfl
  | fn => rfl
theorem addr_add0 (b o i : Nat) : (⟨b, o, none⟩ : Addr).add i = ⟨b, o + i, none⟩ := Addr.add_lit b o i
theorem getD_eq_of {α : Type} {l : Array α} {i : Nat} {x y : α} (h : l[i]? = some x) : l.getD i y = x := by
  rw [Array.getD_eq_getD_getElem?, h]; rfl
/-- The cells that a pointer points to. -/
theorem aCells_ok (H : Holds w gd L g h a) {p : AVal} {v : Value} (hv : RepA w L gd p v) {l : List AVal} {c : Option Prop} (hl : aCells h p = some (l, c)) (hc : ∀ q, c = some q → q) :
    ∃ b o, v = .pointer (some ⟨b, o, none⟩) ∧ ∀ i x, l[i]? = some x → ∃ u, w.cell? ⟨b, o + i, none⟩ = some u ∧ u.oneCell' = true ∧ RepA w L gd x u := by
  cases hv with
  | @ptr _ id off b hb =>
    simp only [aCells] at hl
    cases ho : h id with
    | none => rw [ho] at hl; cases hl
    | some ob =>
      rw [ho] at hl
      cases ob with
      | row => cases hl
      | box cells tag0 =>
        simp only [Option.some.injEq, Prod.mk.injEq] at hl
        obtain ⟨rfl, _⟩ := hl
        refine ⟨b, off, rfl, fun i x hx => ?_⟩
        have hr := H.obj id _ ho
        cases hr with
        | @box _ tag cs t b' htag hb' hh hz h1 hrep =>
          rw [hb] at hb'
          cases hb'
          rw [dropF_eq, List.getElem?_drop] at hx
          have hlt : off + i < cells.length := (List.getElem?_eq_some_iff.1 hx).1
          refine ⟨cs.getD (off + i) undef, ?_, h1 _ hlt, hrep _ _ hx⟩
          rw [cell_of_row w b (off + i) cs t (0, 0) hh, Array.getD_eq_getD_getElem?, Array.getElem?_eq_getElem (by omega)]
          rfl
  | @eptr _ sz n f k off b o c' m hs hk =>
    simp only [aCells] at hl
    cases hlf : liftF (dropF off (f k)) with
    | none => rw [hlf] at hl; cases hl
    | some l' =>
      rw [hlf] at hl
      simp only [Option.some.injEq, Prod.mk.injEq] at hl
      obtain ⟨rfl, _⟩ := hl
      refine ⟨b, o + k * sz + off, rfl, fun i x hx => ?_⟩
      rw [liftF_eq hlf, dropF_eq, List.getElem?_map, List.getElem?_drop] at hx
      cases hs with
      | sl0 => omega
      | sl _ _ _ _ _ _ cs hn hc' hm hg hb hz hcell hrep =>
        cases hfx : (f k)[off + i]? with
        | none => rw [hfx] at hx; cases hx
        | some y =>
          rw [hfx] at hx
          simp only [Option.map_some, Option.some.injEq] at hx
          subst hx
          have hlt : off + i < sz := by rw [← hz k hk]; exact (List.getElem?_eq_some_iff.1 hfx).1
          have hr := hrep k hk _ _ hfx
          exact ⟨cs k (off + i), by rw [Nat.add_assoc]; exact hcell k hk _ hlt, hr.one, .d hr⟩
  | @rptr _ id sz k off b hb =>
    simp only [aCells] at hl
    cases ho : h id with
    | none => rw [ho] at hl; cases hl
    | some ob =>
      rw [ho] at hl
      cases ob with
      | box => cases hl
      | row t sz' n f =>
        simp only at hl
        cases hbq : Nat.beq sz sz' with
        | false => rw [hbq] at hl; cases hl
        | true =>
          rw [hbq] at hl
          have := Nat.eq_of_beq_eq_true hbq
          subst this
          simp only at hl
          cases hlf : liftF (dropF off (f k)) with
          | none => rw [hlf] at hl; cases hl
          | some l' =>
            rw [hlf] at hl
            simp only [Option.some.injEq, Prod.mk.injEq] at hl
            obtain ⟨rfl, rfl⟩ := hl
            have hk : k < n := hc _ rfl
            refine ⟨b, k * sz + off, rfl, fun i x hx => ?_⟩
            rw [liftF_eq hlf, dropF_eq, List.getElem?_map, List.getElem?_drop] at hx
            cases hfx : (f k)[off + i]? with
            | none => rw [hfx] at hx; cases hx
            | some y =>
              rw [hfx] at hx
              simp only [Option.map_some, Option.some.injEq] at hx
              subst hx
              have hr := H.obj id _ ho
              cases hr with
              | row0 => omega
              | @row _ _ _ _ cs b' t2 mk hb' hh hn hm hz hf hrep hty hmk =>
                rw [hb] at hb'
                cases hb'
                have hlt : off + i < sz := by rw [← hf k hk]; exact (List.getElem?_eq_some_iff.1 hfx).1
                have hr := hrep k hk _ _ hfx
                refine ⟨cs.getD (k * sz + (off + i)) undef, ?_, hr.one, .d hr⟩
                have hsz : k * sz + (off + i) < cs.size := by
                  have := Nat.mul_le_mul_right sz (show k + 1 ≤ L.cap id from by omega)
                  rw [Nat.add_mul] at this; omega
                rw [Nat.add_assoc, cell_of_row w b _ cs t2 mk hh, Array.getD_eq_getD_getElem?, Array.getElem?_eq_getElem hsz]
                rfl
  | _ => simp [aCells] at hl
/-- A whole variable is read. -/
theorem loadAt_ok (hT : TysOk P T) {t : TypeId} {d : TyD} (ht : lookT t T = some d) {b o : Nat} {l : List AVal} {x : AVal} (hx : aPart d l = some x)
    (hl : ∀ i x, l[i]? = some x → ∃ u, w.cell? ⟨b, o + i, none⟩ = some u ∧ u.oneCell' = true ∧ RepA w L gd x u) :
    ∃ u, (Instr.loadAt t (.pointer (some ⟨b, o, none⟩))).run P w = .ok u w ∧ RepA w L gd x u := by
  have hd := hT.get ht
  unfold aPart at hx
  cases htk : takeF d.size l with
  | none => rw [htk] at hx; cases hx
  | some m =>
    rw [htk] at hx
    obtain ⟨hm, hlen⟩ := takeF_eq htk
    have hcell : ∀ j, j < d.size → ∃ u, w.cell? ⟨b, o + j, none⟩ = some u ∧ u.oneCell' = true ∧ ∀ x, m[j]? = some x → RepA w L gd x u := by
      intro j hj
      obtain ⟨u, h1, h2, h3⟩ := hl j l[j] (List.getElem?_eq_getElem (by omega))
      refine ⟨u, h1, h2, fun x hx => ?_⟩
      rw [hm, List.getElem?_take, if_pos hj, List.getElem?_eq_getElem (by omega)] at hx
      cases hx
      exact h3
    have hmlen : m.length = d.size := by rw [hm, List.length_take]; omega
    let us : Nat → Value := fun j => (w.cell? ⟨b, o + j, none⟩).getD undef
    have hus : ∀ j, j < d.size → w.cell? ((⟨b, o, none⟩ : Addr).add j) = some (us j) := by
      intro j hj
      obtain ⟨u, h1, _⟩ := hcell j hj
      rw [addr_add0]
      show _ = some ((w.cell? ⟨b, o + j, none⟩).getD undef)
      rw [h1]; rfl
    have hrun := run_loadCells (P := P) w ⟨b, o, none⟩ d.size us hus
    have hisAgg := hd.isAgg w
    cases hs : isStr d.kind with
    | true =>
      rw [hs] at hx hisAgg
      simp only [Option.some.injEq] at hx
      subst hx
      refine ⟨_, by simp [Instr.loadAt, Instr.sureAddr, loadVar, hisAgg, hd.sizeOf w, hrun]; rfl, ?_⟩
      refine .agg (by simp [hmlen]) (fun i hi => ?_) (fun i x hx => ?_)
      · have hi' : i < d.size := by omega
        obtain ⟨u, h1, h2, _⟩ := hcell i hi'
        have : us i = u := by show (w.cell? ⟨b, o + i, none⟩).getD undef = u; rw [h1]; rfl
        rw [Array.getD_eq_getD_getElem?]
        simp [hi', this, h2]
      · have hi' : i < d.size := by rw [← hmlen]; exact (List.getElem?_eq_some_iff.1 hx).1
        obtain ⟨u, h1, h2, h3⟩ := hcell i hi'
        have : us i = u := by show (w.cell? ⟨b, o + i, none⟩).getD undef = u; rw [h1]; rfl
        rw [Array.getD_eq_getD_getElem?]
        simp [hi', this]
        exact h3 x hx
    | false =>
      rw [hs] at hx hisAgg
      cases m with
      | nil => cases hx
      | cons y r =>
        cases r with
        | cons z r => cases hx
        | nil =>
          simp only [Option.some.injEq] at hx
          subst hx
          have hz : d.size = 1 := by simpa using hmlen.symm
          obtain ⟨u, h1, h2, h3⟩ := hcell 0 (by omega)
          refine ⟨u, ?_, h3 _ rfl⟩
          simp only [Nat.add_zero] at h1
          simp [Instr.loadAt, Instr.sureAddr, loadVar, hisAgg, h1]
theorem aLoad_ok (hT : TysOk P T) (H : Holds w gd L g h a) {t : TypeId} {d : TyD} (ht : lookT t T = some d) {p : Operand} {r : Res} (hr : aLoad h d (opnd g p) = some r) {o : Oper} (ho : o.op = .load t p) :
    r.Ok P w gd L g h a o := by
  have hv := H.opnd p
  unfold aLoad at hr
  cases hc : aCells h (opnd g p) with
  | none => rw [hc] at hr; cases hr
  | some lc =>
    obtain ⟨l, c⟩ := lc
    rw [hc] at hr
    simp only at hr
    cases hp : aPart d l with
    | none => rw [hp] at hr; cases hr
    | some v =>
      rw [hp] at hr
      simp only [Option.some.injEq] at hr
      subst hr
      have key : (∀ q, c = some q → q) → ∃ u, (execOp a.eval o).run P w = .ok (.value u) w ∧ RepA w L gd v u := by
        intro hq
        obtain ⟨b, off, hv', hl⟩ := aCells_ok H hv hc hq
        obtain ⟨u, h1, h2⟩ := loadAt_ok (P := P) hT ht hp hl
        exact ⟨u, by simp [execOp, ho, hv', h1], h2⟩
      cases c with
      | none => exact key (fun q hq => by cases hq)
      | some c => exact fun hc => key (fun q hq => by cases hq; exact hc)
end
end Towline

/- The engine, part four: every single operation does what its plain form says. Over any program. -/
namespace Towline
open Go Go.RowKit
set_option linter.unusedVariables false
section
variable {P : Program} {T : Tys} {w : World} {gd : Nat → Prop} {L : Lay} {g : Nat → AVal} {h : Nat → Option AObj} {a : Act}
theorem stays_alloc (w : World) (o : Obj) (gd : Nat → Prop) : Stays w (w.alloc o) gd gd := fun b hb hg => ⟨hg, heap_alloc_old w o hb⟩
/-- The cells of a value that is stored. -/
theorem aStored_ok (hT : TysOk P T) {t : TypeId} {d : TyD} (ht : lookT t T = some d) {x : AVal} {v : Value} (hv : RepA w L gd x v) {vs : List AVal} (hs : aStored d x = some vs) :
    v.cells.size = vs.length ∧ (∀ i, i < vs.length → (v.cells.getD i undef).oneCell' = true) ∧ ∀ i y, vs[i]? = some y → RepA w L gd y (v.cells.getD i undef) := by
  have one : ∀ {x : AVal} {v : Value}, RepA w L gd x v → x.sure = true → vs = [x] →
      v.cells.size = vs.length ∧ (∀ i, i < vs.length → (v.cells.getD i undef).oneCell' = true) ∧ ∀ i y, vs[i]? = some y → RepA w L gd y (v.cells.getD i undef) := by
    intro x v hv hx hvs
    have h1 := repA_one hv hx
    have hc : v.cells = #[v] := by cases v <;> first | rfl | cases h1
    rw [hc, hvs]
    refine ⟨rfl, fun i hi => ?_, fun i y hy => ?_⟩
    · have : i = 0 := by simpa using hi
      subst this; exact h1
    · cases i with
      | zero => simp only [List.getElem?_cons_zero, Option.some.injEq] at hy; subst hy; exact hv
      | succ i => simp at hy
  cases hk : isStr d.kind with
  | true =>
    cases x with
    | agg l =>
      simp only [aStored, hk, Option.some.injEq] at hs
      subst hs
      obtain ⟨ws, rfl, h1, h2, h3⟩ := repA_agg hv
      exact ⟨h1, h2, h3⟩
    | any => simp [aStored] at hs
    | tup => simp [aStored] at hs
    | _ => simp [aStored, hk] at hs
  | false =>
    cases x with
    | agg l => simp [aStored, hk] at hs
    | any => simp [aStored] at hs
    | tup => simp [aStored] at hs
    | _ =>
      simp only [aStored, hk, Option.some.injEq] at hs
      exact one hv rfl hs.symm
theorem run_storeCells_mk (P : Program) (g o : Nat) (t : TypeId) (mk : Nat × Nat) : ∀ (vs : List Value) (i : Nat) (cur : Array Value) (w : World), w.heap[g]? = some (.cells cur t mk) → (mk = (0, 0) ∨ cur.size ≤ mk.1) → o + i + vs.length ≤ cur.size → (∀ v ∈ vs, v.oneCell' = true) →
    (storeCells ⟨g, o, none⟩ vs i).run P w = .ok () (w.setRow g (cur.toList.take (o + i) ++ vs ++ cur.toList.drop (o + i + vs.length)).toArray)
  | [], i, cur, w, hg, _, _, _ => by
    simp only [storeCells, List.append_nil, List.length_nil, Nat.add_zero, List.take_append_drop, Array.toArray_toList]
    rw [setRow_self w g cur t mk hg]
    rfl
  | v :: rest, i, cur, w, hg, hk, hl, h1 => by
    have hi : o + i < cur.size := by simp at hl; omega
    have hadd : (⟨g, o, none⟩ : Addr).add i = ⟨g, o + i, none⟩ := by unfold Addr.add; split <;> simp_all
    have hcell : w.cell? ⟨g, o + i, none⟩ = some cur[o + i] := by simp [World.cell?, hg, hi]
    have hfro : w.frozen? ⟨g, o + i, none⟩ = false := by
      obtain ⟨lo, hh⟩ := mk
      rcases hk with hk | hk
      · cases hk; simp [World.frozen?, hg]
      · have hk : cur.size ≤ lo := hk
        simp [World.frozen?, hg, show ¬ lo ≤ o + i from by omega]
    have hst : (store ((⟨g, o, none⟩ : Addr).add i) v).run P w = .ok () (w.setRow g (cur.setIfInBounds (o + i) v)) := by
      rw [hadd, run_store P w _ v _ (h1 v (by simp)), hcell]
      simp [hfro, setCell_eq_setRow w g (o + i) cur t mk v hg]
    have ih := run_storeCells_mk P g o t mk rest (i + 1) (cur.setIfInBounds (o + i) v) (w.setRow g (cur.setIfInBounds (o + i) v)) (setRow_heap w g cur _ t _ hg) (by simpa using hk) (by simp at hl ⊢; omega) (fun x hx => h1 x (by simp [hx]))
    simp only [storeCells, Sem.run_bind, hst, Result.andThen_ok, ih, setRow_setRow]
    congr 3
    have e := list_seg_step cur.toList (o + i) v rest (by simp at hl ⊢; omega)
    simpa [Array.toList_setIfInBounds, Nat.add_assoc] using e
theorem storeAt_run (hT : TysOk P T) {t : TypeId} {d : TyD} (ht : lookT t T = some d) {v : Value} (hz : v.cells.size = d.size) {b o : Nat} {e : TypeId} {cur : Array Value} {mk : Nat × Nat} (hb : w.heap[b]? = some (.cells cur e mk)) (hk : mk = (0, 0) ∨ cur.size ≤ mk.1)
    (hfit : o + v.cells.size ≤ cur.size) (h1 : ∀ u ∈ v.cells.toList, u.oneCell' = true) :
    (Instr.storeAt t (.pointer (some ⟨b, o, none⟩)) v).run P w = .ok () (w.setRow b (cur.toList.take o ++ v.cells.toList ++ cur.toList.drop (o + v.cells.size)).toArray) := by
  have hd := hT.get ht
  have hst := run_storeCells_mk P b o e mk v.cells.toList 0 cur w hb hk (by simpa using hfit) h1
  simp only [Nat.add_zero, Array.length_toList] at hst
  simp [Instr.storeAt, Instr.sureAddr, storeVar, hd.sizeOf w, hz, hst]
theorem over_getD (cur : Array Value) (o : Nat) (vs : List Value) (hfit : o + vs.length ≤ cur.size) (i : Nat) :
    (cur.toList.take o ++ vs ++ cur.toList.drop (o + vs.length)).toArray.getD i undef = if o ≤ i ∧ i < o + vs.length then vs.getD (i - o) undef else cur.getD i undef := by
  rw [Array.getD_eq_getD_getElem?]
  simp only [List.getElem?_toArray, List.getElem?_append, List.length_append, List.length_take, Array.length_toList, Nat.min_eq_left (show o ≤ cur.size from by omega)]
  by_cases h1 : i < o
  · rw [if_pos (by omega), if_pos h1, if_neg (by omega), List.getElem?_take, if_pos h1]
    simp [Array.getD_eq_getD_getElem?]
  · by_cases h2 : i < o + vs.length
    · rw [if_pos h2, if_neg h1, if_pos ⟨by omega, h2⟩]
      simp [List.getD_eq_getElem?_getD]
    · rw [if_neg h2, if_neg (by omega), List.getElem?_drop]
      rw [show o + vs.length + (i - (o + vs.length)) = i from by omega]
      simp [Array.getD_eq_getD_getElem?]
theorem cells_mem {v : Value} {n : Nat} (hn : v.cells.size = n) (h : ∀ i, i < n → (v.cells.getD i undef).oneCell' = true) : ∀ u ∈ v.cells.toList, u.oneCell' = true := by
  intro u hu
  obtain ⟨i, hi, rfl⟩ := List.mem_iff_getElem.1 hu
  have := h i (by simpa [hn] using hi)
  rw [Array.getD_eq_getD_getElem?] at this
  simpa [show i < v.cells.size from by simpa using hi] using this
theorem aStore_ok (hT : TysOk P T) (H : Holds w gd L g h a) {t : TypeId} {d : TyD} (ht : lookT t T = some d) {p x : Operand} {r : Res} (hr : aStore h d (opnd g x) (opnd g p) = some r) {o : Oper} (ho : o.op = .store t p x) :
    r.Ok P w gd L g h a o := by
  have hv := H.opnd x
  have hp := H.opnd p
  generalize opnd g x = xv at *
  generalize opnd g p = pv at *
  generalize hpv : a.eval p = pval at *
  cases hp with
  | @ptr _ id off b hb =>
    simp only [aStore] at hr
    cases hobj : h id with
    | none => rw [hobj] at hr; cases hr
    | some ob =>
      rw [hobj] at hr
      cases ob with
      | row => cases hr
      | box cells tag0 =>
        simp only at hr
        cases hs : aStored d xv with
        | none => rw [hs] at hr; cases hr
        | some vs =>
          rw [hs] at hr
          simp only at hr
          cases hbq : Nat.beq vs.length d.size with
          | false => rw [hbq] at hr; cases hr
          | true =>
            rw [hbq] at hr
            simp only at hr
            cases hov : overF cells off vs with
            | none => rw [hov] at hr; cases hr
            | some l =>
              rw [hov] at hr
              simp only [Option.some.injEq] at hr
              subst hr
              have hlen := Nat.eq_of_beq_eq_true hbq
              obtain ⟨e1, e2, e3⟩ := overF_eq hov
              obtain ⟨s1, s2, s3⟩ := aStored_ok hT ht hv hs
              have hro := H.obj id _ hobj
              cases hro with
              | @box _ tag cs ty b' htag hb' hh hz h1 hrep =>
                rw [hb] at hb'
                cases hb'
                have hfit : off + (a.eval x).cells.size ≤ cs.size := by omega
                have hrun := storeAt_run (P := P) hT ht (by omega) hh (.inl rfl) hfit (cells_mem s1 s2)
                have hg := over_getD cs off (a.eval x).cells.toList (by simpa using hfit)
                simp only [Array.length_toList] at hg
                refine ⟨⟨_, hobj⟩, b, (w.setRow b (cs.toList.take off ++ (a.eval x).cells.toList ++ cs.toList.drop (off + (a.eval x).cells.size)).toArray), hb, .inl (by simp [execOp, ho, hpv, hrun]), rfl, rfl, rfl, by simp, fun b' hne => setRow_other w b b' _ hne, fun gd' hst htop => ?_⟩
                refine .box htag hb (setRow_heap w b cs _ ty (0, 0) hh) (by simp; omega) (fun i hi => ?_) (fun i y hy => ?_)
                · rw [hg]
                  split
                  · have := s2 (i - off) (by omega)
                    simpa [List.getD_eq_getElem?_getD, Array.getD_eq_getD_getElem?] using this
                  · exact h1 i (by omega)
                · rw [hg]
                  rw [e3] at hy
                  have hsz : w.heap.size ≤ (w.setRow b (cs.toList.take off ++ (a.eval x).cells.toList ++ cs.toList.drop (off + (a.eval x).cells.size)).toArray).heap.size := by simp
                  by_cases hc : off ≤ i ∧ i < off + vs.length
                  · rw [if_pos hc] at hy
                    rw [if_pos (by omega)]
                    have := (s3 (i - off) y hy).mono1 hsz hst htop
                    simpa [List.getD_eq_getElem?_getD, Array.getD_eq_getD_getElem?] using this
                  · rw [if_neg hc] at hy
                    rw [if_neg (by omega)]
                    exact (hrep i y hy).mono1 hsz hst htop
  | @rptr _ id sz k off b hb =>
    simp only [aStore] at hr
    cases hobj : h id with
    | none => rw [hobj] at hr; cases hr
    | some ob =>
      rw [hobj] at hr
      cases ob with
      | box => cases hr
      | row ty sz' n f =>
        simp only at hr
        cases hsq : Nat.beq sz sz' with
        | false => rw [hsq] at hr; cases hr
        | true =>
          rw [hsq] at hr
          simp only at hr
          have := Nat.eq_of_beq_eq_true hsq
          subst this
          cases hs : aStored d xv with
          | none => rw [hs] at hr; cases hr
          | some vs =>
            rw [hs] at hr
            simp only at hr
            cases hbq : Nat.beq vs.length d.size with
            | false => rw [hbq] at hr; cases hr
            | true =>
              rw [hbq] at hr
              simp only at hr
              cases hul : unliftF vs with
              | none => rw [hul] at hr; cases hr
              | some us =>
                rw [hul] at hr
                simp only at hr
                cases hov : overF (f k) off us with
                | none => rw [hov] at hr; cases hr
                | some l =>
                  rw [hov] at hr
                  simp only [Option.some.injEq] at hr
                  subst hr
                  refine ⟨⟨_, hobj⟩, fun hk => ?_⟩
                  have hlen := Nat.eq_of_beq_eq_true hbq
                  obtain ⟨e1, e2, e3⟩ := overF_eq hov
                  obtain ⟨s1, s2, s3⟩ := aStored_ok hT ht hv hs
                  have hul' := unliftF_eq hul
                  have hul2 : vs.length = us.length := by rw [hul']; simp
                  have hro := H.obj id _ hobj
                  cases hro with
                  | row0 => omega
                  | @row _ _ _ _ cs b' t2 mk hb' hh hn hm hz hf hrep hty hmk =>
                    rw [hb] at hb'
                    cases hb'
                    have hfk := hf k hk
                    have hcap : k * sz + sz ≤ cs.size := by
                      have := Nat.mul_le_mul_right sz (show k + 1 ≤ L.cap id from by omega)
                      rw [Nat.add_mul] at this; omega
                    have hfit : k * sz + off + (a.eval x).cells.size ≤ cs.size := by omega
                    have hrun := storeAt_run (P := P) hT ht (by omega) hh (hmk.imp (fun h => h) fun h => h.2) hfit (cells_mem s1 s2)
                    have hg := over_getD cs (k * sz + off) (a.eval x).cells.toList (by simpa using hfit)
                    simp only [Array.length_toList] at hg
                    refine ⟨b, (w.setRow b (cs.toList.take (k * sz + off) ++ (a.eval x).cells.toList ++ cs.toList.drop (k * sz + off + (a.eval x).cells.size)).toArray), hb, .inl (by simp [execOp, ho, hpv, hrun]), rfl, rfl, rfl, by simp, fun b' hne => setRow_other w b b' _ hne, fun gd' hst htop => ?_⟩
                    have hsz : w.heap.size ≤ (w.setRow b (cs.toList.take (k * sz + off) ++ (a.eval x).cells.toList ++ cs.toList.drop (k * sz + off + (a.eval x).cells.size)).toArray).heap.size := by simp
                    refine .row hb (setRow_heap w b cs _ t2 mk hh) hn hm (by simp; omega) (fun j hj => ?_) (fun j hj i y hy => ?_) hty (hmk.imp (fun h => h) fun h => ⟨h.1, by have := h.2; simp; omega⟩)
                    · unfold fupd
                      split
                      · rw [e2]; rename_i e; exact hfk
                      · exact hf j hj
                    · rw [hg]
                      unfold fupd at hy
                      by_cases hjk : j = k
                      · subst hjk
                        rw [if_pos rfl, e3] at hy
                        by_cases hc : off ≤ i ∧ i < off + us.length
                        · rw [if_pos hc] at hy
                          rw [if_pos (by omega)]
                          have h3 := s3 (i - off) (.d y) (by rw [hul', List.getElem?_map, hy]; rfl)
                          rw [show j * sz + i - (j * sz + off) = i - off from by omega]
                          have h3' := h3.mono1 hsz hst htop
                          cases h3' with
                          | d h3' => simpa [List.getD_eq_getElem?_getD, Array.getD_eq_getD_getElem?] using h3'
                        · rw [if_neg hc] at hy
                          have hi : i < sz := by rw [← hfk]; exact (List.getElem?_eq_some_iff.1 hy).1
                          rw [if_neg (by omega)]
                          exact (hrep j hj i y hy).mono hsz hst
                      · rw [if_neg hjk] at hy
                        have hi : i < sz := by rw [← hf j hj]; exact (List.getElem?_eq_some_iff.1 hy).1
                        have hne : ¬(k * sz + off ≤ j * sz + i ∧ j * sz + i < k * sz + off + (a.eval x).cells.size) := by
                          rintro ⟨h1, h2⟩
                          rcases Nat.lt_or_gt_of_ne hjk with h3 | h3
                          · have := Nat.mul_le_mul_right sz (show j + 1 ≤ k from h3)
                            rw [Nat.add_mul] at this; omega
                          · have := Nat.mul_le_mul_right sz (show k + 1 ≤ j from h3)
                            rw [Nat.add_mul] at this; omega
                        rw [if_neg hne]
                        exact (hrep j hj i y hy).mono hsz hst
  | _ => simp [aStore] at hr
end
end Towline

/- The engine, part five: all plain operations in one theorem. Over any program. -/
namespace Towline
open Go Go.RowKit
set_option linter.unusedVariables false
section
variable {P : Program} {T : Tys} {w : World} {gd : Nat → Prop} {L : Lay} {g : Nat → AVal} {h : Nat → Option AObj} {a : Act}
theorem box_ok {o : Oper} {l : List AVal} {tag : Option TypeId} {cs : Array Value} {t : TypeId} (htag : ∀ t', tag = some t' → t = t') (hrun : (execOp a.eval o).run P w = .ok (.value (.pointer (some ⟨w.heap.size, 0, none⟩))) (w.alloc (.cells cs t)))
    (hz : cs.size = l.length) (h1 : ∀ i, i < l.length → (cs.getD i undef).oneCell' = true) (hr : ∀ i x, l[i]? = some x → RepA w L gd x (cs.getD i undef)) (d : Nat) (hf : ∀ (i : Nat) (x : AVal), l[i]? = some x → x.free d = true) :
    MakesOk P w gd L a o d (.ptr d 0) (.box l tag) := by
  refine ⟨_, some w.heap.size, 0, _, hrun, (Below.refl _ _).alloc (Nat.le_refl _) _, fun b hb => by cases hb; simp, fun gd' hst => ⟨?_, ?_⟩⟩
  · refine .box htag (by simp [Lay.upd]) (heap_alloc_new w _) hz h1 fun i x hx => ?_
    refine RepA.mono (L := L) (L' := L.upd d (some w.heap.size) 0) (by simp) (· != d) (fun j hj => ?_) (fun b hlt hb => ⟨hb, heap_alloc_old w _ hlt⟩) (hr i x hx) hst (fun j hj => ?_)
    · have : j ≠ d := by simpa using hj
      simp [Lay.upd, this]
    · have : j = d := by simpa using hj
      rw [this]; exact hf i x hx
  · exact .ptr (by simp [Lay.upd])
theorem opnd_free {d : Nat} (hf : ∀ t, (g t).free d = true) (x : Operand) : (opnd g x).free d = true := by
  cases x with
  | tmp t => exact hf t
  | const v => cases v <;> rfl
  | global n => rfl
  | func f => rfl
theorem cells_one {v : Value} (h : v.oneCell' = true) : v.cells = #[v] := by cases v <;> first | rfl | cases h
theorem dval_rep {x : D} (h : (x.val.oneCell' && match x with | .sl .. => false | .cl .. => false | _ => true) = true) : RepD w gd x x.val := by
  cases x with
  | i k n => exact .i k n
  | b x => exact .b x
  | s l => exact .s l
  | v x => exact .v x (by simpa [D.val] using h)
  | sl => simp at h
  | cl => simp at h
theorem zeroVal_cells {t : TypeId} {d : TyD} (hok : TyOk P t d) : d.zeroVal.cells.size = d.zero.length ∧ ∀ (i : Nat) (x : D), d.zero[i]? = some x → d.zeroVal.cells.getD i undef = x.val ∧ x.val.oneCell' = true ∧ RepD w gd x x.val := by
  have hall := hok.zone
  rw [List.all_eq_true] at hall
  have hone : ∀ (i : Nat) (x : D), d.zero[i]? = some x → x.val.oneCell' = true ∧ RepD w gd x x.val := by
    intro i x hx
    have := hall x (List.mem_of_getElem? hx)
    exact ⟨by simp at this; exact this.1, dval_rep this⟩
  unfold TyD.zeroVal
  cases hs : isStr d.kind with
  | true =>
    refine ⟨by simp [Value.cells], fun i x hx => ⟨?_, hone i x hx⟩⟩
    simp only [Value.cells, Array.getD_eq_getD_getElem?, List.getElem?_toArray, List.getElem?_map, hx]
    rfl
  | false =>
    have hw := hok.zwf
    rw [hs] at hw
    have hl : d.zero.length = 1 := by simpa using hw
    obtain ⟨y, hy⟩ := List.length_eq_one_iff.1 hl
    have h1 := hone 0 y (by rw [hy]; rfl)
    simp only [hy]
    rw [cells_one h1.1]
    refine ⟨rfl, fun i x hx => ?_⟩
    cases i with
    | zero => simp only [List.getElem?_cons_zero, Option.some.injEq] at hx; subst hx; exact ⟨rfl, h1⟩
    | succ i => simp at hx
theorem fieldAt_get : ∀ {n : Nat} {l : List (Nat × Nat × TypeId)} {x}, fieldAt n l = some x → l[n]? = some x
  | 0, x :: _, y, h => by simpa [fieldAt] using h
  | n + 1, _ :: r, y, h => by simp only [fieldAt] at h; simpa using fieldAt_get h
  | 0, [], y, h => by simp [fieldAt] at h
  | n + 1, [], y, h => by simp [fieldAt] at h
theorem listAt_get {α : Type} : ∀ {n : Nat} {l : List α} {x}, listAt n l = some x → l[n]? = some x
  | 0, x :: _, y, h => by simpa [listAt] using h
  | n + 1, _ :: r, y, h => by simp only [listAt] at h; simpa using listAt_get h
  | 0, [], y, h => by simp [listAt] at h
  | n + 1, [], y, h => by simp [listAt] at h
/-- What is filled into a struct. -/
theorem fold_over (vs : List Value) : ∀ (j off : Nat) (cs : Array Value), off + j + vs.length ≤ cs.size →
    ((vs.zipIdx j).foldl (fun cs (p : Value × Nat) => cs.setIfInBounds (off + p.2) p.1) cs).size = cs.size ∧
    ∀ i, ((vs.zipIdx j).foldl (fun cs (p : Value × Nat) => cs.setIfInBounds (off + p.2) p.1) cs).getD i undef = if off + j ≤ i ∧ i < off + j + vs.length then vs.getD (i - (off + j)) undef else cs.getD i undef := by
  induction vs with
  | nil => intro j off cs _; exact ⟨rfl, fun i => by rw [if_neg (by simp)]; rfl⟩
  | cons v vs ih =>
    intro j off cs hle
    simp only [List.length_cons] at hle
    obtain ⟨h1, h2⟩ := ih (j + 1) off (cs.setIfInBounds (off + j) v) (by simp; omega)
    simp only [List.zipIdx_cons, List.foldl_cons]
    refine ⟨by rw [h1]; simp, fun i => ?_⟩
    rw [h2 i]
    by_cases hi : i = off + j
    · subst hi
      rw [if_neg (by omega), if_pos (by simp)]
      simp [Array.getD_eq_getD_getElem?, show off + j < cs.size from by omega]
    · by_cases hc : off + (j + 1) ≤ i ∧ i < off + (j + 1) + vs.length
      · rw [if_pos hc, if_pos (by simp; omega)]
        rw [show i - (off + j) = (i - (off + (j + 1))) + 1 from by omega]
        simp
      · rw [if_neg hc, if_neg (by simp; omega)]
        simp only [Array.getD_eq_getD_getElem?, Array.getElem?_setIfInBounds]
        rw [if_neg (by omega)]
theorem aParts_ok (H : Holds w gd L g h a) {fs : List (Nat × Nat × TypeId)} {place : Nat → Option (Nat × Nat)} (hpl : ∀ (j : Nat) (x : Nat × Nat × TypeId), fs[j]? = some x → place j = some (x.1, x.2.1)) :
    ∀ (ps : List (Nat × Operand)) (l l' : List AVal) (cs : Array Value), aParts fs g ps l = some l' → cs.size = l.length → (∀ i, i < l.length → (cs.getD i undef).oneCell' = true) → (∀ i x, l[i]? = some x → RepA w L gd x (cs.getD i undef)) →
      ∃ cs', Instr.fill place cs (ps.map fun p => (p.1, a.eval p.2)) = some cs' ∧ cs'.size = l'.length ∧ (∀ i, i < l'.length → (cs'.getD i undef).oneCell' = true) ∧ ∀ i x, l'[i]? = some x → RepA w L gd x (cs'.getD i undef) := by
  intro ps
  induction ps with
  | nil => intro l l' cs hp hz h1 hr; simp only [aParts, Option.some.injEq] at hp; subst hp; exact ⟨cs, rfl, hz, h1, hr⟩
  | cons p ps ih =>
    intro l l' cs hp hz h1 hr
    obtain ⟨j, x⟩ := p
    simp only [aParts] at hp
    cases hf : fieldAt j fs with
    | none => rw [hf] at hp; cases hp
    | some fx =>
      obtain ⟨off, size, ft⟩ := fx
      rw [hf] at hp
      simp only at hp
      have hv := H.opnd x
      have hplace := hpl j _ (fieldAt_get hf)
      have key : ∀ vs : List AVal, (a.eval x).cells.size = vs.length → (∀ i, i < vs.length → ((a.eval x).cells.getD i undef).oneCell' = true) → (∀ i y, vs[i]? = some y → RepA w L gd y ((a.eval x).cells.getD i undef)) →
          vs.length = size → ∀ m, overF l off vs = some m → aParts fs g ps m = some l' →
          ∃ cs', Instr.fill place cs (((j, x) :: ps).map fun p => (p.1, a.eval p.2)) = some cs' ∧ cs'.size = l'.length ∧ (∀ i, i < l'.length → (cs'.getD i undef).oneCell' = true) ∧ ∀ i x, l'[i]? = some x → RepA w L gd x (cs'.getD i undef) := by
        intro vs k1 k2 k3 k4 m hm hrest
        obtain ⟨e1, e2, e3⟩ := overF_eq hm
        obtain ⟨f1, f2⟩ := fold_over (a.eval x).cells.toList 0 off cs (by simp; omega)
        simp only [Nat.add_zero, Array.length_toList] at f1 f2
        obtain ⟨cs', r1, r2⟩ := ih m l' _ hrest (by rw [f1]; omega) (fun i hi => by
            rw [f2 i]
            split
            · have := k2 (i - off) (by omega)
              simpa [List.getD_eq_getElem?_getD, Array.getD_eq_getD_getElem?] using this
            · exact h1 i (by omega)) (fun i y hy => by
            rw [f2 i]
            rw [e3] at hy
            by_cases hc : off ≤ i ∧ i < off + vs.length
            · rw [if_pos hc] at hy
              rw [if_pos (by omega)]
              have := k3 (i - off) y hy
              simpa [List.getD_eq_getElem?_getD, Array.getD_eq_getD_getElem?] using this
            · rw [if_neg hc] at hy
              rw [if_neg (by omega)]
              exact hr i y hy)
        refine ⟨cs', ?_, r2⟩
        simp only [List.map_cons, Instr.fill, hplace]
        rw [if_neg (by simp; omega)]
        rw [← Array.foldl_toList, Array.toList_zipIdx]
        exact r1
      cases hx : opnd g x with
      | any => rw [hx] at hp; cases hp
      | tup => rw [hx] at hp; cases hp
      | agg vl =>
        rw [hx] at hp hv
        simp only [AVal.cells] at hp
        cases hb : Nat.beq vl.length size with
        | false => rw [hb] at hp; cases hp
        | true =>
          rw [hb] at hp
          simp only at hp
          cases hm : overF l off vl with
          | none => rw [hm] at hp; cases hp
          | some m =>
            rw [hm] at hp
            obtain ⟨ws, hw, k1, k2, k3⟩ := repA_agg hv
            refine key vl ?_ ?_ ?_ (Nat.eq_of_beq_eq_true hb) m hm hp
            · rw [hw]; exact k1
            · rw [hw]; exact k2
            · rw [hw]; exact k3
      | _ =>
        rw [hx] at hp hv
        have hone := repA_one hv rfl
        have hcell := cells_one hone
        simp only [AVal.cells] at hp
        cases hb : Nat.beq (List.length [_]) size with
        | false => rw [hb] at hp; cases hp
        | true =>
          rw [hb] at hp
          simp only at hp
          cases hm : overF l off [_] with
          | none => rw [hm] at hp; cases hp
          | some m =>
            rw [hm] at hp
            refine key _ ?_ ?_ ?_ (Nat.eq_of_beq_eq_true hb) m hm hp
            · rw [hcell]; rfl
            · rw [hcell]; intro i hi; have : i = 0 := by simpa using hi
              subst this; exact hone
            · rw [hcell]; intro i y hy
              cases i with
              | zero => simp only [List.getElem?_cons_zero, Option.some.injEq] at hy; subst hy; exact hv
              | succ i => simp at hy
theorem places_of (P : Program) : ∀ (l : List Field), l.all (fun f => (P.info? f.type).isSome) = true →
    l.mapM (fun f => (P.info? f.type).map fun i => (f.offset, i.size)) = some ((l.map fun f => (f.offset, match P.info? f.type with | some i => i.size | none => 0, f.type)).map fun x => (x.1, x.2.1))
  | [], _ => rfl
  | f :: r, h => by
    simp only [List.all_cons, Bool.and_eq_true] at h
    obtain ⟨i, hi⟩ := Option.isSome_iff_exists.1 h.1
    simp only [List.mapM_cons, hi, Option.map_some, places_of P r h.2, Option.bind_eq_bind, Option.bind_some, Option.pure_def, List.map_cons]
theorem build_ok (hT : TysOk P T) (H : Holds w gd L g h a) {t : TypeId} {fs : List (Nat × Nat × TypeId)} {sz by_ : Nat} {z : List D} (ht : lookT t T = some ⟨.struct fs, sz, by_, z⟩) {ps : Array (Nat × Operand)} {l l' : List AVal}
    (hl : liftF z = some l) (hp : aParts fs g ps.toList l = some l') {o : Oper} (ho : o.op = .build t ps) : (Res.val (.agg l')).Ok P w gd L g h a o := by
  have hd := hT.get ht
  obtain ⟨fields, hu, hfs⟩ := hd.struct rfl
  obtain ⟨c1, c2⟩ := zeroVal_cells (w := w) (gd := gd) hd
  have hl' := liftF_eq hl
  generalize hd0 : (⟨.struct fs, sz, by_, z⟩ : TyD) = d0 at *
  have hz0 : d0.zero = z := by rw [← hd0]
  have hlen : d0.zeroVal.cells.size = l.length := by rw [c1, hl', hz0]; simp
  have hfok := hd.fok
  rw [hu] at hfok
  have hplaces : (fields.toList.mapM fun f => Functor.map (Prod.mk f.offset) (Go.sizeOf f.type)).run P w = .ok (fs.map fun x => (x.1, x.2.1)) w := by
    rw [← hfs]
    exact run_places (P := P) w fields.toList _ (places_of P fields.toList hfok)
  have hget : ∀ (i : Nat) (x : AVal), l[i]? = some x → ∃ y, d0.zero[i]? = some y ∧ x = .d y := by
    intro i x hx
    rw [hl', List.getElem?_map] at hx
    rw [hz0]
    cases hy : z[i]? with
    | none => rw [hy] at hx; cases hx
    | some y => rw [hy] at hx; simp only [Option.map_some, Option.some.injEq] at hx; exact ⟨y, rfl, hx.symm⟩
  obtain ⟨cs', r1, r2, r3, r4⟩ := aParts_ok H (fs := fs) (place := ((fs.map fun x => (x.1, x.2.1)).toArray[·]?)) (fun j x hj => by simp [hj]) ps.toList l l' d0.zeroVal.cells hp hlen
    (fun i hi => by
      obtain ⟨y, hy, _⟩ := hget i l[i] (List.getElem?_eq_getElem hi)
      obtain ⟨e1, e2, _⟩ := c2 i y hy
      rw [e1]; exact e2)
    (fun i x hx => by
      obtain ⟨y, hy, rfl⟩ := hget i x hx
      obtain ⟨e1, _, e3⟩ := c2 i y hy
      rw [e1]; exact .d e3)
  refine ⟨.agg cs', ?_, .agg r2 r3 r4⟩
  have hparts : (ps.map fun p => (p.1, a.eval p.2)).toList = ps.toList.map fun p => (p.1, a.eval p.2) := by simp
  simp only [execOp, ho, Instr.build, Sem.run_bind, hd.zeroValue w, run_underlying hu, Result.andThen_ok, Array.mapM_eq_mapM_toList, Sem.run_map, Sem.run_pure]
  have e : (fields.toList.mapM fun f => do pure (f.offset, ← Go.sizeOf f.type)) = (fields.toList.mapM fun f => Functor.map (Prod.mk f.offset) (Go.sizeOf f.type)) := by
    congr 1
  rw [show (List.mapM (fun f => do let __do_lift ← Go.sizeOf f.type; pure (f.offset, __do_lift)) fields.toList) = (fields.toList.mapM fun f => Functor.map (Prod.mk f.offset) (Go.sizeOf f.type)) from e, hplaces]
  simp only [Result.andThen_ok]
  rw [hparts, r1]
  rfl
theorem arrF_get (s e : Nat) : ∀ (n off j : Nat) (x : Nat × Nat × Nat), (arrF s e n off)[j]? = some x → some (off + j * s, s) = some (x.1, x.2.1)
  | 0, off, j, x, h => by simp [arrF] at h
  | n + 1, off, 0, x, h => by
    simp only [arrF, List.getElem?_cons_zero, Option.some.injEq] at h
    subst h
    simp
  | n + 1, off, j + 1, x, h => by
    simp only [arrF, List.getElem?_cons_succ] at h
    rw [← arrF_get s e n (off + s) j x h, Nat.add_mul]
    congr 2
    omega
theorem buildA_ok (hT : TysOk P T) (H : Holds w gd L g h a) {t e : TypeId} {n sz by_ : Nat} {z : List D} (ht : lookT t T = some ⟨.array n e, sz, by_, z⟩) {de : TyD} (he : lookT e T = some de) {ps : Array (Nat × Operand)} {l l' : List AVal}
    (hl : liftF z = some l) (hp : aParts (arrF de.size e n 0) g ps.toList l = some l') {o : Oper} (ho : o.op = .build t ps) : (Res.val (.agg l')).Ok P w gd L g h a o := by
  have hd := hT.get ht
  have hu := hd.array rfl
  have hsz := (hT.get he).sizeOf w
  obtain ⟨c1, c2⟩ := zeroVal_cells (w := w) (gd := gd) hd
  have hl' := liftF_eq hl
  generalize hd0 : (⟨.array n e, sz, by_, z⟩ : TyD) = d0 at *
  have hz0 : d0.zero = z := by rw [← hd0]
  have hlen : d0.zeroVal.cells.size = l.length := by rw [c1, hl', hz0]; simp
  have hget : ∀ (i : Nat) (x : AVal), l[i]? = some x → ∃ y, d0.zero[i]? = some y ∧ x = .d y := by
    intro i x hx
    rw [hl', List.getElem?_map] at hx
    rw [hz0]
    cases hy : z[i]? with
    | none => rw [hy] at hx; cases hx
    | some y => rw [hy] at hx; simp only [Option.map_some, Option.some.injEq] at hx; exact ⟨y, rfl, hx.symm⟩
  obtain ⟨cs', r1, r2, r3, r4⟩ := aParts_ok H (fs := arrF de.size e n 0) (place := fun i => some (i * de.size, de.size)) (fun j x hj => by have := arrF_get _ _ _ _ _ _ hj; rw [Nat.zero_add] at this; exact this) ps.toList l l' d0.zeroVal.cells hp hlen
    (fun i hi => by
      obtain ⟨y, hy, _⟩ := hget i l[i] (List.getElem?_eq_getElem hi)
      obtain ⟨e1, e2, _⟩ := c2 i y hy
      rw [e1]; exact e2)
    (fun i x hx => by
      obtain ⟨y, hy, rfl⟩ := hget i x hx
      obtain ⟨e1, _, e3⟩ := c2 i y hy
      rw [e1]; exact .d e3)
  refine ⟨.agg cs', ?_, .agg r2 r3 r4⟩
  have hparts : (ps.map fun p => (p.1, a.eval p.2)).toList = ps.toList.map fun p => (p.1, a.eval p.2) := by simp
  simp only [execOp, ho, Instr.build, Sem.run_bind, hd.zeroValue w, run_underlying hu, Result.andThen_ok, hsz, Sem.run_pure]
  rw [hparts, r1]
  rfl
end
end Towline

/- The engine, part six: addresses, numbers, texts; then all plain operations in one theorem. Over any program. -/
namespace Towline
open Go Go.RowKit
set_option linter.unusedVariables false
section
variable {P : Program} {T : Tys} {w : World} {gd : Nat → Prop} {L : Lay} {g : Nat → AVal} {h : Nat → Option AObj} {a : Act}
theorem aAddr_ok {n : Nat} {x y : AVal} {v : Value} (hv : RepA w L gd x v) (hy : aAddr n x = some y) : ∃ b o, v = .pointer (some ⟨b, o, none⟩) ∧ RepA w L gd y (.pointer (some ⟨b, o + n, none⟩)) := by
  cases hv with
  | ptr hb => simp only [aAddr, Option.some.injEq] at hy; subst hy; exact ⟨_, _, rfl, .ptr hb⟩
  | eptr hs hk => simp only [aAddr, Option.some.injEq] at hy; subst hy; exact ⟨_, _, rfl, by rw [Nat.add_assoc]; exact .eptr hs hk⟩
  | rptr hb => simp only [aAddr, Option.some.injEq] at hy; subst hy; exact ⟨_, _, rfl, by rw [Nat.add_assoc]; exact .rptr hb⟩
  | _ => simp [aAddr] at hy
theorem fieldAddr_ok (hT : TysOk P T) (H : Holds w gd L g h a) {t : TypeId} {fs : List (Nat × Nat × TypeId)} {sz by_ : Nat} {z : List D} (ht : lookT t T = some ⟨.struct fs, sz, by_, z⟩) {x : Operand} {f off s : Nat} {ft : TypeId} {v : AVal}
    (hf : fieldAt f fs = some (off, s + 1, ft)) (hv : aAddr off (opnd g x) = some v) {o : Oper} (ho : o.op = .fieldAddr t x f) : (Res.val v).Ok P w gd L g h a o := by
  obtain ⟨fields, hu, hfs⟩ := (hT.get ht).struct rfl
  obtain ⟨b, off', hx, hrep⟩ := aAddr_ok (H.opnd x) hv
  have hg := fieldAt_get hf
  rw [← hfs, List.getElem?_map] at hg
  cases hfd : fields.toList[f]? with
  | none => rw [hfd] at hg; cases hg
  | some fd =>
    rw [hfd] at hg
    simp only [Option.map_some, Option.some.injEq, Prod.mk.injEq] at hg
    obtain ⟨e1, e2, e3⟩ := hg
    have hfd' : fields[f]? = some fd := by simpa using hfd
    cases hi : P.info? fd.type with
    | none => rw [hi] at e2; simp at e2
    | some i =>
      rw [hi] at e2
      simp only at e2
      refine ⟨_, ?_, hrep⟩
      simp [execOp, ho, Instr.fieldAt, run_underlying hu, hfd', Instr.sureAddr, hx, fieldPlace, Go.sizeOf, typeInfo, hi, e2, addr_add0, e1]
theorem indexAddr_ok (hT : TysOk P T) (H : Holds w gd L g h a) {t e : TypeId} {sz by_ : Nat} {z : List D} (ht : lookT t T = some ⟨.slice e, sz, by_, z⟩) {d : TyD} (he : lookT e T = some d) {x k : Operand} {r : Res}
    (hr : aIndex d.size (opnd g x) (opnd g k) = some r) {o : Oper} (ho : o.op = .indexAddr t x k) : r.Ok P w gd L g h a o := by
  have hu := (hT.get ht).slice rfl
  have hsz := (hT.get he).sizeOf w
  have hx := H.opnd x
  have hk := H.opnd k
  generalize hxv : a.eval x = xv at hx
  generalize hkv : a.eval k = kv at hk
  unfold aIndex at hr
  split at hr
  · rename_i szz n f kk kn e1 e2
    rw [e1] at hx
    rw [e2] at hk
    have := repA_i hk
    subst this
    cases hb : Nat.beq d.size szz with
    | false => rw [hb] at hr; cases hr
    | true =>
      rw [hb] at hr
      simp only [Option.some.injEq] at hr
      subst hr
      have hd := Nat.eq_of_beq_eq_true hb
      intro ⟨h0, h1⟩
      have hs := repA_sl hx
      have hs' := hs
      cases hs with
      | sl0 => omega
      | sl _ _ _ b off c cs hn hc hm hg hbb hz hcell hrep =>
        refine ⟨.pointer (some ⟨b, off + kn.toNat * szz + 0, none⟩), ?_, .eptr hs' (by omega)⟩
        simp [execOp, ho, Instr.indexAt, hkv, hxv, asIntOf, run_underlying hu, h0, h1, hsz, addr_add0, hd]
  · rename_i id szz off n kk kn e1 e2
    rw [e1] at hx
    rw [e2] at hk
    have := repA_i hk
    subst this
    cases hb : Nat.beq d.size szz with
    | false => rw [hb] at hr; cases hr
    | true =>
      rw [hb] at hr
      simp only [Option.some.injEq] at hr
      subst hr
      have hd := Nat.eq_of_beq_eq_true hb
      intro ⟨h0, h1⟩
      cases hx with
      | rsl hc hbb ha =>
        obtain ⟨b, hblk⟩ := hbb (by omega)
        have ha := ha (.inr (by omega))
        subst ha
        refine ⟨.pointer (some ⟨b, (off + kn.toNat) * szz + 0, none⟩), ?_, .rptr hblk⟩
        simp [execOp, ho, Instr.indexAt, hkv, hxv, asIntOf, run_underlying hu, h0, h1, hsz, hblk, addr_add0, hd, Nat.add_mul]
  · cases hr
/-- Numbers. -/
theorem arith_ok {wr : Bool} {k : IntKind} {n : Int} {o : Oper} (hrun : (execOp a.eval o).run P w = .ok (.value (.int k (k.wrap n))) w) : (arith wr k n).Ok P w gd L g h a o := by
  cases k <;> cases wr <;> first
    | exact ⟨_, hrun, .d (.i _ _)⟩
    | (intro hc; rw [IntWalk.i64_in n hc] at hrun; exact ⟨_, hrun, .d (.i _ _)⟩)
theorem bin_run {op : BinOp} {t t' : TypeId} {x y : Operand} {u v r : Value} {o : Oper} (ho : o.op = .binOp op t x y t') (hx : a.eval x = u) (hy : a.eval y = v) (hg : eqGuard op t x y u v = pure ())
    (hr : (binOp op t u v).run P w = .ok r w) : (execOp a.eval o).run P w = .ok (.value r) w := by
  simp [execOp, ho, hx, hy, hg, hr]
theorem aBin_ok (H : Holds w gd L g h a) {wr : Bool} {op : BinOp} {t t' : TypeId} {x y : Operand} {r : Res} (hr : aBin wr op (opnd g x) (opnd g y) = some r) {o : Oper} (ho : o.op = .binOp op t x y t') : r.Ok P w gd L g h a o := by
  have hx := H.opnd x
  have hy := H.opnd y
  unfold aBin at hr
  split at hr
  · rename_i k a1 k' b1 e1 e2
    rw [e1] at hx
    rw [e2] at hy
    have hx := repA_i hx
    have hy := repA_i hy
    have run := fun {r : Value} (hr : (binOp op t (.int k a1) (.int k' b1)).run P w = .ok r w) => bin_run (P := P) (w := w) ho hx hy (by cases op <;> rfl) hr
    split at hr
    · simp only [Option.some.injEq] at hr
      subst hr
      intro hc
      exact ⟨_, run (by simp [binOp, Op.shift, show ¬ b1 < 0 from by omega]; rfl), .d (.i _ _)⟩
    · simp only [Option.some.injEq] at hr
      subst hr
      intro hc
      exact ⟨_, run (by simp [binOp, Op.shift, show ¬ b1 < 0 from by omega]; rfl), .d (.i _ _)⟩
    · cases hk : kEq k k' with
      | false => rw [hk] at hr; cases hr
      | true =>
        rw [hk] at hr
        have := kEq_eq hk
        subst this
        simp only at hr
        unfold aBinI at hr
        split at hr <;> first | (cases hr; done) | (simp only [Option.some.injEq] at hr; subst hr) 
        · exact arith_ok (run (by simp [binOp, Op.intArith]))
        · exact arith_ok (run (by simp [binOp, Op.intArith]))
        · exact arith_ok (run (by simp [binOp, Op.intArith]))
        · exact ⟨.bool (a1 == b1), run (by simp [binOp, Op.intCmp]), .d (.b _)⟩
        · exact ⟨.bool (a1 != b1), run (by simp [binOp, Op.intCmp]), .d (.b _)⟩
        · exact ⟨.bool (decide (a1 < b1)), run (by simp [binOp, Op.intCmp]), .d (.b _)⟩
        · exact ⟨.bool (decide (a1 ≤ b1)), run (by simp [binOp, Op.intCmp]), .d (.b _)⟩
        · exact ⟨.bool (decide (b1 < a1)), run (by simp [binOp, Op.intCmp]), .d (.b _)⟩
        · exact ⟨.bool (decide (b1 ≤ a1)), run (by simp [binOp, Op.intCmp]), .d (.b _)⟩
        · exact fun hc => ⟨_, run (by simp [binOp, Op.intDiv, hc]), .d (.i _ _)⟩
        · exact fun hc => ⟨_, run (by simp [binOp, Op.intDiv, hc]), .d (.i _ _)⟩
        · exact ⟨_, run (by simp [binOp, Op.intBits, bitsOp]), .d (.i _ _)⟩
        · exact ⟨_, run (by simp [binOp, Op.intBits, bitsOp]), .d (.i _ _)⟩
        · exact ⟨_, run (by simp [binOp, Op.intBits, bitsOp]), .d (.i _ _)⟩
        · exact ⟨_, run (by simp [binOp, Op.intBits, bitsOp]), .d (.i _ _)⟩
  · rename_i a1 b1 e1 e2
    rw [e1] at hx
    rw [e2] at hy
    have hx := repA_s hx
    have hy := repA_s hy
    have run := fun {r : Value} (hr : (binOp op t (.string ⟨a1.toArray⟩) (.string ⟨b1.toArray⟩)).run P w = .ok r w) => bin_run (P := P) (w := w) ho hx hy (by cases op <;> rfl) hr
    split at hr <;> first | (cases hr; done) | (simp only [Option.some.injEq] at hr; subst hr)
    · intro hc
      have hc' : ¬ 9223372036854775807 < (a1.length : Int) + b1.length := by omega
      refine ⟨.string (⟨a1.toArray⟩ ++ ⟨b1.toArray⟩), run (by simp [binOp, Op.stringOp, ByteArray.size_mk', hc']), ?_⟩
      have e : (⟨a1.toArray⟩ ++ ⟨b1.toArray⟩ : ByteArray) = ⟨(a1 ++ b1).toArray⟩ := by apply ByteArray.ext; simp
      rw [e]
      exact .d (.s _)
    · exact ⟨.bool (a1 == b1), run (by simp [binOp, Op.stringOp]), .d (.b _)⟩
    · exact ⟨.bool (a1 != b1), run (by simp [binOp, Op.stringOp, bne]), .d (.b _)⟩
    · exact ⟨.bool (Op.bytesLess a1 b1), run (by simp [binOp, Op.stringOp]), .d (.b _)⟩
  · cases hr
theorem part1 {t : TypeId} {d : TyD} (hd : TyOk P t d) (hs : isStr d.kind = false) {vs : Array Value} {off : Nat} (h : off < vs.size) : (part t vs off).run P w = .ok (vs.getD off undef) w := by
  have hisAgg := hd.isAgg w
  rw [hs] at hisAgg
  simp [part, hisAgg, h]
theorem eqF_ok (hT : TysOk P T) {l m : List AVal} {xs ys : Array Value} (hx1 : xs.size = l.length) (hx2 : ∀ i x, l[i]? = some x → RepA w L gd x (xs.getD i undef)) (hy1 : ys.size = m.length) (hy2 : ∀ i x, m[i]? = some x → RepA w L gd x (ys.getD i undef)) {n : Nat} :
    ∀ (fields : List Field) (b : Bool), (fields.all fun f => f.name != "_") = true → eqF T (fields.map fun f => (f.offset, match P.info? f.type with | some i => i.size | none => 0, f.type)) l m = some b →
      (Op.eqFields (n + 1) xs ys fields).run P w = .ok b w ∧ (fields.all (plainF P)) = true := by
  intro fields
  induction fields with
  | nil => intro b _ h; simp only [List.map_nil, eqF, Option.some.injEq] at h; subst h; exact ⟨by simp [Op.eqFields], rfl⟩
  | cons f fs ih =>
    intro b hn h
    simp only [List.all_cons, Bool.and_eq_true] at hn
    have hne : f.name ≠ "_" := by simpa using hn.1
    simp only [List.map_cons, eqF] at h
    have step : ∀ {d : TyD} {u v : Value} {e c : Bool}, lookT f.type T = some d → isStr d.kind = false → f.offset < xs.size → f.offset < ys.size → xs.getD f.offset undef = u → ys.getD f.offset undef = v → (Op.equalIn (n + 1) f.type u v).run P w = .ok e w →
        eqF T (fs.map fun f => (f.offset, match P.info? f.type with | some i => i.size | none => 0, f.type)) l m = some c → plainF P f = true →
        (Op.eqFields (n + 1) xs ys (f :: fs)).run P w = .ok (e && c) w ∧ ((f :: fs).all (plainF P)) = true := by
      intro d u v e c ht hs hlx hly hu hv he hc hp
      obtain ⟨i1, i2⟩ := ih c hn.2 hc
      refine ⟨?_, by simp only [List.all_cons, hp, i2]; rfl⟩
      simp only [Op.eqFields, if_pos hne, Sem.run_bind, part1 (hT.get ht) hs hlx, part1 (hT.get ht) hs hly, hu, hv, he, Result.andThen_ok]
      cases e
      · simp
      · simp [i1]
    split at h
    · rename_i k0 _ _ _ ht
      split at h
      · rename_i k a k' b' ea eb
        split at h
        · rename_i hk
          split at h
          · rename_i c hc
            simp only [Option.some.injEq] at h
            subst h
            have hk := kEq_eq hk
            subst hk
            have h1 := repA_i (hx2 _ _ ea)
            have h2 := repA_i (hy2 _ _ eb)
            have hu := (hT.get ht).int rfl
            exact step ht rfl (by rw [hx1]; exact (List.getElem?_eq_some_iff.1 ea).1) (by rw [hy1]; exact (List.getElem?_eq_some_iff.1 eb).1) h1 h2 (run_equalIn_int w n _ k k0 a b' hu) hc (by unfold plainF; rw [hu])
          · cases h
        · cases h
      · cases h
    · rename_i ht
      split at h
      · rename_i a b' ea eb
        split at h
        · rename_i c hc
          simp only [Option.some.injEq] at h
          subst h
          have h1 := repA_b (hx2 _ _ ea)
          have h2 := repA_b (hy2 _ _ eb)
          have hu := (hT.get ht).bool rfl
          exact step ht rfl (by rw [hx1]; exact (List.getElem?_eq_some_iff.1 ea).1) (by rw [hy1]; exact (List.getElem?_eq_some_iff.1 eb).1) h1 h2 (run_equalIn_bool' w n _ a b' hu) hc (by unfold plainF; rw [hu])
        · cases h
      · cases h
    · rename_i ht
      split at h
      · rename_i a b' ea eb
        split at h
        · rename_i c hc
          simp only [Option.some.injEq] at h
          subst h
          have h1 := repA_s (hx2 _ _ ea)
          have h2 := repA_s (hy2 _ _ eb)
          have hu := (hT.get ht).string rfl
          refine step ht rfl (by rw [hx1]; exact (List.getElem?_eq_some_iff.1 ea).1) (by rw [hy1]; exact (List.getElem?_eq_some_iff.1 eb).1) h1 h2 ?_ hc (by unfold plainF; rw [hu])
          rw [run_equalIn_string w n _ _ _ hu, ByteArray.toList_eq, ByteArray.toList_eq]
        · cases h
      · cases h
    · cases h
theorem eqF_plain (hT : TysOk P T) {l m : List AVal} : ∀ (fields : List Field) (b : Bool), eqF T (fields.map fun f => (f.offset, match P.info? f.type with | some i => i.size | none => 0, f.type)) l m = some b →
      (fields.all (plainF P)) = true := by
  intro fields
  induction fields with
  | nil => intro b _; rfl
  | cons f fs ih =>
    intro b h
    simp only [List.map_cons, eqF] at h
    simp only [List.all_cons, Bool.and_eq_true]
    split at h
    · rename_i ht
      split at h
      · split at h
        · split at h
          · rename_i c hc; exact ⟨by unfold plainF; rw [(hT.get ht).int rfl], ih c hc⟩
          · cases h
        · cases h
      · cases h
    · rename_i ht
      split at h
      · split at h
        · rename_i c hc; exact ⟨by unfold plainF; rw [(hT.get ht).bool rfl], ih c hc⟩
        · cases h
      · cases h
    · rename_i ht
      split at h
      · split at h
        · rename_i c hc; exact ⟨by unfold plainF; rw [(hT.get ht).string rfl], ih c hc⟩
        · cases h
      · cases h
    · cases h
theorem eqA_ok (hT : TysOk P T) {e : TypeId} {k0 : IntKind} {by_ : Nat} {z : List D} (he : lookT e T = some ⟨.int k0, 1, by_, z⟩) {l m : List AVal} {xs ys : Array Value} (hx1 : xs.size = l.length) (hx2 : ∀ i x, l[i]? = some x → RepA w L gd x (xs.getD i undef)) (hy1 : ys.size = m.length) (hy2 : ∀ i x, m[i]? = some x → RepA w L gd x (ys.getD i undef)) {n : Nat} :
    ∀ (is : List Nat) (b : Bool), eqA is l m = some b → (Op.eqItems (n + 1) e 1 xs ys is).run P w = .ok b w := by
  intro is
  induction is with
  | nil => intro b h; simp only [eqA, Option.some.injEq] at h; subst h; simp [Op.eqItems]
  | cons i is ih =>
    intro b h
    simp only [eqA] at h
    split at h
    · rename_i k a k' b' ea eb
      split at h
      · rename_i hk
        split at h
        · rename_i c hc
          simp only [Option.some.injEq] at h
          subst h
          have hk := kEq_eq hk
          subst hk
          have h1 := repA_i (hx2 _ _ ea)
          have h2 := repA_i (hy2 _ _ eb)
          have hu := (hT.get he).int rfl
          have hlx : i < xs.size := by rw [hx1]; exact (List.getElem?_eq_some_iff.1 ea).1
          have hly : i < ys.size := by rw [hy1]; exact (List.getElem?_eq_some_iff.1 eb).1
          simp only [Op.eqItems, Nat.mul_one, Sem.run_bind, part1 (hT.get he) rfl hlx, part1 (hT.get he) rfl hly, h1, h2, run_equalIn_int w n e k k0 a b' hu, Result.andThen_ok]
          cases hab : (a == b')
          · simp
          · simp [ih c hc]
        · cases h
      · cases h
    · cases h
theorem indexArr_ok (hT : TysOk P T) (H : Holds w gd L g h a) {t e : TypeId} {n sz by_ : Nat} {z : List D} (ht : lookT t T = some ⟨.array n e, sz, by_, z⟩) {d : TyD} (he : lookT e T = some d) {x k : Operand} {id off : Nat} {kk : IntKind} {kn : Int} (hx : opnd g x = .ptr id off) (hk : opnd g k = .d (.i kk kn)) {o : Oper} (ho : o.op = .indexAddr t x k) :
    (Res.cond (.ptr id (off + kn.toNat * d.size)) (0 ≤ kn ∧ kn < n)).Ok P w gd L g h a o := by
  intro ⟨h0, h1⟩
  have hu := (hT.get ht).array rfl
  have hsz := (hT.get he).sizeOf w
  have hv := H.opnd x
  rw [hx] at hv
  have hkv := repA_i (hk ▸ H.opnd k)
  generalize hxv : a.eval x = xv at hv
  cases hv with
  | @ptr _ _ _ b hb =>
    refine ⟨.pointer (some ⟨b, off + kn.toNat * d.size, none⟩), ?_, .ptr hb⟩
    simp [execOp, ho, Instr.indexAt, hkv, hxv, asIntOf, run_underlying hu, h0, h1, hsz, addr_add0, Instr.sureAddr]
theorem indexArrE_ok (hT : TysOk P T) (H : Holds w gd L g h a) {t e : TypeId} {n sz by_ : Nat} {z : List D} (ht : lookT t T = some ⟨.array n e, sz, by_, z⟩) {d : TyD} (he : lookT e T = some d) {x k : Operand} {esz m : Nat} {f : Nat → List D} {j off : Nat} {kk : IntKind} {kn : Int} (hx : opnd g x = .eptr esz m f j off) (hk : opnd g k = .d (.i kk kn)) {o : Oper} (ho : o.op = .indexAddr t x k) :
    (Res.cond (.eptr esz m f j (off + kn.toNat * d.size)) (0 ≤ kn ∧ kn < n)).Ok P w gd L g h a o := by
  intro ⟨h0, h1⟩
  have hu := (hT.get ht).array rfl
  have hsz := (hT.get he).sizeOf w
  have hv := H.opnd x
  rw [hx] at hv
  have hkv := repA_i (hk ▸ H.opnd k)
  generalize hxv : a.eval x = xv at hv
  cases hv with
  | @eptr _ _ _ _ _ _ b o' _ _ hb hj =>
    refine ⟨.pointer (some ⟨b, o' + j * esz + (off + kn.toNat * d.size), none⟩), ?_, .eptr hb hj⟩
    simp [execOp, ho, Instr.indexAt, hkv, hxv, asIntOf, run_underlying hu, h0, h1, hsz, addr_add0, Instr.sureAddr, Nat.add_assoc]
theorem indexArrR_ok (hT : TysOk P T) (H : Holds w gd L g h a) {t e : TypeId} {n sz by_ : Nat} {z : List D} (ht : lookT t T = some ⟨.array n e, sz, by_, z⟩) {d : TyD} (he : lookT e T = some d) {x k : Operand} {id esz j off : Nat} {kk : IntKind} {kn : Int} (hx : opnd g x = .rptr id esz j off) (hk : opnd g k = .d (.i kk kn)) {o : Oper} (ho : o.op = .indexAddr t x k) :
    (Res.cond (.rptr id esz j (off + kn.toNat * d.size)) (0 ≤ kn ∧ kn < n)).Ok P w gd L g h a o := by
  intro ⟨h0, h1⟩
  have hu := (hT.get ht).array rfl
  have hsz := (hT.get he).sizeOf w
  have hv := H.opnd x
  rw [hx] at hv
  have hkv := repA_i (hk ▸ H.opnd k)
  generalize hxv : a.eval x = xv at hv
  cases hv with
  | @rptr _ _ _ _ _ b hb =>
    refine ⟨.pointer (some ⟨b, j * esz + (off + kn.toNat * d.size), none⟩), ?_, .rptr hb⟩
    simp [execOp, ho, Instr.indexAt, hkv, hxv, asIntOf, run_underlying hu, h0, h1, hsz, addr_add0, Instr.sureAddr, Nat.add_assoc]
theorem cmp_ok (hT : TysOk P T) (H : Holds w gd L g h a) {op : BinOp} {t t' : TypeId} {x y : Operand} {l m : List AVal} (hx : opnd g x = .agg l) (hy : opnd g y = .agg m) {r : Res} (hr : aCmp T op t l m = some r) {o : Oper} (ho : o.op = .binOp op t x y t') : r.Ok P w gd L g h a o := by
  obtain ⟨xs, ex, x1, _, x3⟩ := repA_agg (hx ▸ H.opnd x)
  obtain ⟨ys, ey, y1, _, y3⟩ := repA_agg (hy ▸ H.opnd y)
  unfold aCmp at hr
  split at hr
  · rename_i fs sz by_ z ht
    split at hr
    · rename_i b hb
      obtain ⟨fields, hu, hfs⟩ := (hT.get ht).struct rfl
      have hc := (hT.get ht).ceq
      unfold cmpOk at hc
      rw [hu] at hc
      have hfo : P.fieldsOf t = fields := by unfold Program.fieldsOf; rw [hu]
      rw [← hfs] at hb
      have hall : (fields.toList.all (plainF P)) = true := eqF_plain hT fields.toList b hb
      simp only [hall, Bool.not_true, Bool.false_or, Bool.and_eq_true, Bool.not_eq_true'] at hc
      obtain ⟨⟨c1, c2⟩, c3⟩ := hc
      obtain ⟨e1, _⟩ := eqF_ok hT x1 x3 y1 y3 (n := 9998) fields.toList b c1 hb
      have he : (Op.equalIn 10000 t (.agg xs) (.agg ys)).run P w = .ok b w := by
        rw [run_equalIn_struct w 9999 t xs ys (by rw [hfo]; exact hu) c2, hfo]; exact e1
      have hg := fun op => run_eqGuard_agg (P := P) w op t x y xs ys c3
      split at hr <;> first | (cases hr; done) | (simp only [Option.some.injEq] at hr; subst hr)
      · refine ⟨.bool b, ?_, .d (.b _)⟩
        simp [execOp, ho, ex, ey, hg, run_eql_struct, he]
      · refine ⟨.bool (!b), ?_, .d (.b _)⟩
        simp [execOp, ho, ex, ey, hg, run_neq_struct, he]
    · cases hr
  · rename_i n e sz by_ z ht
    split at hr
    · rename_i k0 sz2 by2 z2 he
      split at hr
      · rename_i hsz
        split at hr
        · rename_i b hb
          have := Nat.eq_of_beq_eq_true hsz
          subst this
          have hu := (hT.get ht).array rfl
          have hue := (hT.get he).int rfl
          have hc := (hT.get ht).ceq
          unfold cmpOk at hc
          rw [hu] at hc
          simp only [hue, Bool.not_eq_true'] at hc
          obtain ⟨i, i1, _, i3, _⟩ := (hT.get he).info'
          have hcell : P.cellsOf e = 1 := by simp [Program.cellsOf, i1, i3]
          have hq : (Op.equalIn 10000 t (.agg xs) (.agg ys)).run P w = .ok b w := by
            rw [run_equalIn_array (P := P) (w := w) 9999 xs ys hu i1, hcell]
            exact eqA_ok hT he x1 x3 y1 y3 (n := 9998) _ b hb
          have hg := fun op => run_eqGuard_agg (P := P) w op t x y xs ys hc
          split at hr <;> first | (cases hr; done) | (simp only [Option.some.injEq] at hr; subst hr)
          · refine ⟨.bool b, ?_, .d (.b _)⟩
            simp [execOp, ho, ex, ey, hg, run_eql_struct, hq]
          · refine ⟨.bool (!b), ?_, .d (.b _)⟩
            simp [execOp, ho, ex, ey, hg, run_neq_struct, hq]
        · cases hr
      · cases hr
    · cases hr
  · cases hr
theorem nil_ok (hT : TysOk P T) (H : Holds w gd L g h a) {op : BinOp} {t t' e : TypeId} {sz by_ : Nat} {z : List D} (ht : lookT t T = some ⟨.slice e, sz, by_, z⟩) {x y : Operand} (hy : isNil (opnd g y) = true) {r : Res} (hr : aNil op (opnd g x) = some r) {o : Oper} (ho : o.op = .binOp op t x y t') : r.Ok P w gd L g h a o := by
  have hu := (hT.get ht).slice rfl
  have hx := H.opnd x
  have hyv : a.eval y = .slice none 0 0 := by
    have hv := H.opnd y
    unfold isNil at hy
    split at hy
    · rename_i e; rw [e] at hv; exact repA_v hv
    · cases hy
  have sl : ∀ (A : Option Addr) (n c : Nat), a.eval x = .slice A n c → (op = .eql → (execOp a.eval o).run P w = .ok (.value (.bool A.isNone)) w) ∧ (op = .neq → (execOp a.eval o).run P w = .ok (.value (.bool (!A.isNone))) w) := by
    intro A n c hxv
    refine ⟨fun hop => ?_, fun hop => ?_⟩
    · subst hop
      have := Lib.run_eql_slice_nil (P := P) w t e A n c 0 0 hu
      exact bin_run ho hxv hyv rfl this
    · subst hop
      have := run_neq_slice_nil (P := P) w t e A n c hu
      exact bin_run ho hxv hyv rfl this
  unfold aNil at hr
  split at hr
  · rename_i sz' n f e
    rw [e] at hx
    have hs := repA_sl hx
    generalize hxv : a.eval x = xv at hs
    have key : ∃ A c, xv = .slice A n c ∧ (0 < n → A.isNone = false) := by
      cases hs with
      | sl0 => exact ⟨_, _, rfl, fun h => by omega⟩
      | sl => exact ⟨_, _, rfl, fun _ => rfl⟩
    obtain ⟨A, c, rfl, hA⟩ := key
    obtain ⟨k1, k2⟩ := sl A n c hxv
    split at hr <;> first | (cases hr; done) | (simp only [Option.some.injEq] at hr; subst hr)
    · exact ⟨_, k1 rfl, hA⟩
    · exact ⟨_, k2 rfl, fun h => by rw [hA h]; rfl⟩
  · rename_i id sz' q n e
    rw [e] at hx
    generalize hxv : a.eval x = xv at hx
    have key : ∃ A c, xv = .slice A n c ∧ (0 < n → A.isNone = false) := by
      cases hx with
      | rsl hc hb ha =>
        refine ⟨_, _, rfl, fun h => ?_⟩
        obtain ⟨b, hb⟩ := hb h
        rw [ha (.inr (by omega)), hb]; rfl
    obtain ⟨A, c, rfl, hA⟩ := key
    obtain ⟨k1, k2⟩ := sl A n c hxv
    split at hr <;> first | (cases hr; done) | (simp only [Option.some.injEq] at hr; subst hr)
    · exact ⟨_, k1 rfl, hA⟩
    · exact ⟨_, k2 rfl, fun h => by rw [hA h]; rfl⟩
  · rename_i e
    rw [e] at hx
    obtain ⟨k1, k2⟩ := sl none 0 0 (repA_v hx)
    split at hr <;> first | (cases hr; done) | (simp only [Option.some.injEq] at hr; subst hr)
    · exact ⟨_, k1 rfl, .d (.b _)⟩
    · exact ⟨_, k2 rfl, .d (.b _)⟩
  · cases hr
theorem unNot_ok (H : Holds w gd L g h a) {t : TypeId} {x : Operand} {b : Bool} (hx : opnd g x = .d (.b b)) {o : Oper} (ho : o.op = .unOp .not t x) : (Res.val (.d (.b (!b)))).Ok P w gd L g h a o := by
  have := repA_b (hx ▸ H.opnd x)
  exact ⟨.bool (!b), by simp [execOp, ho, this, Op.unary], .d (.b _)⟩
theorem unNeg_ok (H : Holds w gd L g h a) {wr : Bool} {t : TypeId} {x : Operand} {k : IntKind} {n : Int} (hx : opnd g x = .d (.i k n)) {o : Oper} (ho : o.op = .unOp .neg t x) : (arith wr k (0 - n)).Ok P w gd L g h a o := by
  have := repA_i (hx ▸ H.opnd x)
  exact arith_ok (by simp [execOp, ho, this, Op.unary, Op.intArith])
theorem convInt_ok (hT : TysOk P T) (H : Holds w gd L g h a) {wr : Bool} {src dst : TypeId} {ds : TyD} {k k' : IntKind} {sz by_ : Nat} {z : List D} (hs : lookT src T = some ds) (hd : lookT dst T = some ⟨.int k, sz, by_, z⟩) {x : Operand} {n : Int} (hx : opnd g x = .d (.i k' n)) {o : Oper}
    (ho : o.op = .convert src dst x) : (arith wr k n).Ok P w gd L g h a o := by
  have hv := repA_i (hx ▸ H.opnd x)
  obtain ⟨u, hu, _⟩ := (hT.get hs).und
  exact arith_ok (by simp [execOp, ho, hv, convert, run_underlying hu, run_underlying ((hT.get hd).int rfl), Conv.intToInt])
theorem convStr_ok (hT : TysOk P T) (H : Holds w gd L g h a) {src dst : TypeId} {sz by_ sz' by_' : Nat} {z z' : List D} (hs : lookT src T = some ⟨.string, sz', by_', z'⟩) (hd : lookT dst T = some ⟨.string, sz, by_, z⟩) {x : Operand} {l : List UInt8} (hx : opnd g x = .d (.s l)) {o : Oper}
    (ho : o.op = .convert src dst x) : (Res.val (.d (.s l))).Ok P w gd L g h a o := by
  have hv := repA_s (hx ▸ H.opnd x)
  exact ⟨_, by simp [execOp, ho, hv, convert, run_underlying ((hT.get hs).string rfl), run_underlying ((hT.get hd).string rfl)], .d (.s _)⟩
theorem extract_mk' (l : List UInt8) (x y : Nat) (h : x ≤ y) : (ByteArray.mk l.toArray).extract x y = ⟨((l.take y).drop x).toArray⟩ := by
  rw [ByteArray.extract_mk, List.drop_take]
theorem optI_ok (H : Holds w gd L g h a) {x : Option Operand} {r : Option Int} (hx : optI g x = some r) : (x.map a.eval = none ∧ r = none) ∨ ∃ k n, x.map a.eval = some (.int k n) ∧ r = some n := by
  cases x with
  | none => left; simp [optI] at hx; exact ⟨rfl, hx.symm⟩
  | some x =>
    right
    have hv := H.opnd x
    simp only [optI] at hx
    split at hx
    · rename_i k n e
      rw [e] at hv
      simp only [Option.some.injEq] at hx
      exact ⟨k, n, by simp [repA_i hv], hx.symm⟩
    · cases hx
theorem bounds_ok {lo hi : Option Value} {ra rb : Option Int} (hlo : (lo = none ∧ ra = none) ∨ ∃ k n, lo = some (.int k n) ∧ ra = some n) (hhi : (hi = none ∧ rb = none) ∨ ∃ k n, hi = some (.int k n) ∧ rb = some n) (n c : Nat) (hn : n ≤ c) (isS : Bool) (w : World)
    (hq : ∀ q, (sliceOf n ra rb).2.2 = some q → q) : (Instr.sliceBounds isS n c lo hi none).run P w = .ok ((sliceOf n ra rb).1, (sliceOf n ra rb).2.1, c) w ∧ (sliceOf n ra rb).1 ≤ (sliceOf n ra rb).2.1 ∧ (sliceOf n ra rb).2.1 ≤ n := by
  rcases hlo with ⟨rfl, rfl⟩ | ⟨k, x, rfl, rfl⟩ <;> rcases hhi with ⟨rfl, rfl⟩ | ⟨k', y, rfl, rfl⟩
  · exact ⟨by simp [Instr.sliceBounds, sliceOf], by simp [sliceOf], by simp [sliceOf]⟩
  · have hc : 0 ≤ y ∧ y ≤ (n : Int) := hq _ rfl
    refine ⟨?_, by simp [sliceOf], by simp only [sliceOf]; omega⟩
    simp only [Instr.sliceBounds, Instr.sliceBound, sliceOf, asIntOf, Sem.run_bind, Sem.run_pure, Result.andThen_ok, Sem.run_ite, if_pos (show 0 ≤ y ∧ y ≤ (c : Int) from by omega)]
  · have hc : 0 ≤ x ∧ x ≤ (n : Int) := hq _ rfl
    refine ⟨?_, by simp only [sliceOf]; omega, by simp [sliceOf]⟩
    simp only [Instr.sliceBounds, Instr.sliceBound, sliceOf, asIntOf, Sem.run_bind, Sem.run_pure, Result.andThen_ok, Sem.run_ite, if_pos (show 0 ≤ x ∧ x ≤ (n : Int) from hc)]
  · have hc : 0 ≤ x ∧ x ≤ y ∧ y ≤ (n : Int) := hq _ rfl
    refine ⟨?_, by simp only [sliceOf]; omega, by simp only [sliceOf]; omega⟩
    simp only [Instr.sliceBounds, Instr.sliceBound, sliceOf, asIntOf, Sem.run_bind, Sem.run_pure, Result.andThen_ok, Sem.run_ite, if_pos (show 0 ≤ y ∧ y ≤ (c : Int) from by omega),
      if_pos (show 0 ≤ x ∧ x ≤ ((y.toNat : Nat) : Int) from by omega)]
theorem mkCond_ok {v : AVal} {c : Option Prop} {o : Oper} (h1 : (∀ q, c = some q → q) → ∃ u, (execOp a.eval o).run P w = .ok (.value u) w ∧ RepA w L gd v u) : (mkCond v c).Ok P w gd L g h a o := by
  cases c with
  | none => exact h1 (fun q hq => by cases hq)
  | some c => exact fun hc => h1 (fun q hq => by cases hq; exact hc)
theorem cutS_eq (l : List UInt8) (ra rb : Option Int) : cutS l ra rb = (l.take (sliceOf l.length ra rb).2.1).drop (sliceOf l.length ra rb).1 := by
  cases ra <;> cases rb <;> simp [cutS, sliceOf]
theorem sliceStr_ok (hT : TysOk P T) (H : Holds w gd L g h a) {t : TypeId} {sz by_ : Nat} {z : List D} (ht : lookT t T = some ⟨.string, sz, by_, z⟩) {x : Operand} {lo hi : Option Operand} {ra rb : Option Int} {l : List UInt8} (hx : opnd g x = .d (.s l)) {r : Res}
    (hlo : optI g lo = some ra) (hhi : optI g hi = some rb) (hr : aSlice (.d (.s l)) ra rb = some r) {o : Oper} (ho : o.op = .slice t x lo hi none) : r.Ok P w gd L g h a o := by
  have hv := repA_s (hx ▸ H.opnd x)
  have hu := (hT.get ht).string rfl
  have hsz : (ByteArray.mk l.toArray).size = l.length := by simp [ByteArray.size]
  simp only [aSlice, Option.some.injEq] at hr
  subst hr
  refine mkCond_ok fun hq => ?_
  obtain ⟨h1, h2, h3⟩ := bounds_ok (P := P) (optI_ok H hlo) (optI_ok H hhi) l.length l.length (Nat.le_refl _) false w hq
  refine ⟨.string ⟨(cutS l ra rb).toArray⟩, ?_, .d (.s _)⟩
  rw [cutS_eq, ← extract_mk' l _ _ h2]
  simp [execOp, ho, hv, Instr.sliceAt, Instr.slice, run_underlying hu, hsz, h1]
theorem sliceSl_ok (hT : TysOk P T) (H : Holds w gd L g h a) {t e : TypeId} {sz' by_ : Nat} {z : List D} (ht : lookT t T = some ⟨.slice e, sz', by_, z⟩) {d : TyD} (he : lookT e T = some d) {x : Operand} {lo hi : Option Operand} {ra rb : Option Int} {sz n : Nat} {f : Nat → List D} (hd : d.size = sz) (hx : opnd g x = .d (.sl sz n f)) {r : Res}
    (hlo : optI g lo = some ra) (hhi : optI g hi = some rb) (hr : aSlice (.d (.sl sz n f)) ra rb = some r) {o : Oper} (ho : o.op = .slice t x lo hi none) : r.Ok P w gd L g h a o := by
  have hu := (hT.get ht).slice rfl
  have hsize := (hT.get he).sizeOf w
  have hv := H.opnd x
  rw [hx] at hv
  have hs := repA_sl hv
  generalize hxv : a.eval x = xv at hs
  have key : (∀ q, (sliceOf n ra rb).2.2 = some q → q) → ∃ u, (execOp a.eval o).run P w = .ok (.value u) w ∧ RepA w L gd (.d (.sl sz ((sliceOf n ra rb).2.1 - (sliceOf n ra rb).1) fun k => f ((sliceOf n ra rb).1 + k))) u := by
    intro hq
    generalize hA : (sliceOf n ra rb).1 = A at *
    generalize hB : (sliceOf n ra rb).2.1 = B at *
    cases hs with
    | sl0 _ _ ad c hc =>
      obtain ⟨h1, h2, h3⟩ := bounds_ok (P := P) (optI_ok H hlo) (optI_ok H hhi) 0 c (Nat.zero_le _) true w hq
      rw [hA, hB] at h1 h2
      rw [hB] at h3
      have : B = 0 := by omega
      subst this
      have : A = 0 := by omega
      subst this
      refine ⟨.slice (if c = 0 then ad else ad.map (·.add (0 * d.size))) (0 - 0) (c - 0), ?_, .d (.sl0 _ _ _ _ hc)⟩
      simp [execOp, ho, hxv, Instr.sliceAt, Instr.slice, run_underlying hu, h1, hsize]
    | sl _ _ _ b off c cs hn hc hm hg hb hz hcell hrep =>
      obtain ⟨h1, h2, h3⟩ := bounds_ok (P := P) (optI_ok H hlo) (optI_ok H hhi) n c hc true w hq
      rw [hA, hB] at h1 h2
      rw [hB] at h3
      refine ⟨.slice (if c = A then some ⟨b, off, none⟩ else some ⟨b, off + A * d.size, none⟩) (B - A) (c - A), ?_, ?_⟩
      · simp only [execOp, ho, hxv, Option.map_none, Instr.sliceAt, Instr.slice, run_underlying hu, Sem.run_bind, Sem.run_pure, Result.andThen_ok, h1, hsize]
        by_cases hcA : c = A
        · simp [hcA]
        · simp [hcA, addr_add0]
      · by_cases hz0 : B - A = 0
        · rw [hz0]; exact .d (.sl0 _ _ _ _ (by omega))
        · rw [if_neg (by omega), hd]
          refine .d (.sl _ _ _ b _ _ (fun k j => cs (A + k) j) (by omega) (by omega) (by omega) hg hb (fun k hk => hz _ (by omega)) (fun k hk j hj => ?_) (fun k hk => hrep _ (by omega)))
          rw [← hcell (A + k) (by omega) j hj, Nat.add_mul]
          congr 2
          omega
  unfold aSlice at hr
  simp only at hr
  generalize hso : sliceOf n ra rb = so at hr key
  obtain ⟨A, B, c⟩ := so
  simp only at hr key
  cases A with
  | zero =>
    simp only [Option.some.injEq] at hr
    subst hr
    refine mkCond_ok fun hq => ?_
    have := key hq
    simpa using this
  | succ A =>
    simp only [Option.some.injEq] at hr
    subst hr
    exact mkCond_ok key
theorem sliceRsl_ok (hT : TysOk P T) (H : Holds w gd L g h a) {t e : TypeId} {sz' by_ : Nat} {z : List D} (ht : lookT t T = some ⟨.slice e, sz', by_, z⟩) {d : TyD} (he : lookT e T = some d) {x : Operand} {lo hi : Option Operand} {ra rb : Option Int} {id sz q n : Nat} (hd : d.size = sz) (hx : opnd g x = .rsl id sz q n) {r : Res}
    (hlo : optI g lo = some ra) (hhi : optI g hi = some rb) (hr : aSlice (.rsl id sz q n) ra rb = some r) {o : Oper} (ho : o.op = .slice t x lo hi none) : r.Ok P w gd L g h a o := by
  have hu := (hT.get ht).slice rfl
  have hsize := (hT.get he).sizeOf w
  have hv := H.opnd x
  rw [hx] at hv
  generalize hxv : a.eval x = xv at hv
  have key : (∀ q, (sliceOf n ra rb).2.2 = some q → q) → ∃ u, (execOp a.eval o).run P w = .ok (.value u) w ∧ RepA w L gd (.rsl id sz (q + (sliceOf n ra rb).1) ((sliceOf n ra rb).2.1 - (sliceOf n ra rb).1)) u := by
    intro hq
    generalize hA : (sliceOf n ra rb).1 = A at *
    generalize hB : (sliceOf n ra rb).2.1 = B at *
    cases hv with
    | @rsl _ _ _ _ _ ad hc hb ha =>
      obtain ⟨h1, h2, h3⟩ := bounds_ok (P := P) (optI_ok H hlo) (optI_ok H hhi) n (L.cap id - q) (by omega) true w hq
      rw [hA, hB] at h1 h2
      rw [hB] at h3
      refine ⟨.slice (if L.cap id - q = A then ad else ad.map (·.add (A * d.size))) (B - A) (L.cap id - q - A), ?_, ?_⟩
      · simp [execOp, ho, hxv, Instr.sliceAt, Instr.slice, run_underlying hu, h1, hsize]
      · rw [Nat.sub_sub]
        refine .rsl (by omega) (fun h => hb (by omega)) fun h => ?_
        rcases h with h | h
        · have hq0 : q = 0 := by omega
          have hA0 : A = 0 := by omega
          subst hq0
          subst hA0
          have := ha (.inl rfl)
          subst this
          split
          · simp
          · cases L.blk id <;> simp [addr_add0]
        · have := ha (.inr (by omega))
          subst this
          rw [if_neg (by omega)]
          cases L.blk id with
          | none => simp
          | some b => simp [hd, Nat.add_mul, addr_add0]
  unfold aSlice at hr
  simp only at hr
  generalize hso : sliceOf n ra rb = so at hr key
  obtain ⟨A, B, c⟩ := so
  simp only at hr key
  cases A with
  | zero =>
    simp only [Option.some.injEq] at hr
    subst hr
    refine mkCond_ok fun hq => ?_
    have := key hq
    simpa using this
  | succ A =>
    simp only [Option.some.injEq] at hr
    subst hr
    exact mkCond_ok key
theorem index_ok (hT : TysOk P T) (H : Holds w gd L g h a) {t : TypeId} {sz by_ : Nat} {z : List D} (ht : lookT t T = some ⟨.string, sz, by_, z⟩) {x k : Operand} {l : List UInt8} {kk : IntKind} {n : Int} (hx : opnd g x = .d (.s l)) (hk : opnd g k = .d (.i kk n)) {o : Oper} (ho : o.op = .index t x k) :
    (Res.cond (.d (.i .u8 ((l.getD n.toNat 0).toNat : Nat))) (0 ≤ n ∧ n < l.length)).Ok P w gd L g h a o := by
  intro ⟨h0, h1⟩
  have hv := repA_s (hx ▸ H.opnd x)
  have hkv := repA_i (hk ▸ H.opnd k)
  have hlt : n.toNat < l.length := by omega
  refine ⟨_, ?_, .d (.i _ _)⟩
  have hget : (ByteArray.mk l.toArray)[n.toNat]? = some (l.getD n.toNat 0) := by
    have hs : n.toNat < (ByteArray.mk l.toArray).size := by simpa [ByteArray.size] using hlt
    rw [getElem?_pos (ByteArray.mk l.toArray) n.toNat hs]
    simp [ByteArray.getElem_eq_getElem_data, List.getD_eq_getElem?_getD, hlt]
  simp [execOp, ho, hv, hkv, Instr.index, asIntOf, run_underlying ((hT.get ht).string rfl), h0, hget]
theorem field_ok (hT : TysOk P T) (H : Holds w gd L g h a) {t ft : TypeId} {fs : List (Nat × Nat × TypeId)} {sz by_ : Nat} {z : List D} (ht : lookT t T = some ⟨.struct fs, sz, by_, z⟩) {x : Operand} {f off s : Nat} {v : AVal} {l : List AVal} {d : TyD}
    (hf : fieldAt f fs = some (off, s, ft)) (hft : lookT ft T = some d) (hx : opnd g x = .agg l) (hv : aPart d (dropF off l) = some v) {o : Oper} (ho : o.op = .field t x f) : (Res.val v).Ok P w gd L g h a o := by
  obtain ⟨fields, hu, hfs⟩ := (hT.get ht).struct rfl
  obtain ⟨vs, hvs, k1, k2, k3⟩ := repA_agg (hx ▸ H.opnd x)
  have hg := fieldAt_get hf
  have hd := hT.get hft
  rw [← hfs, List.getElem?_map] at hg
  cases hfd : fields.toList[f]? with
  | none => rw [hfd] at hg; cases hg
  | some fd =>
    rw [hfd] at hg
    simp only [Option.map_some, Option.some.injEq, Prod.mk.injEq] at hg
    obtain ⟨e1, e2, e3⟩ := hg
    have hfd' : fields[f]? = some fd := by simpa using hfd
    unfold aPart at hv
    rw [dropF_eq] at hv
    cases htk : takeF d.size (l.drop off) with
    | none => rw [htk] at hv; cases hv
    | some m =>
      rw [htk] at hv
      obtain ⟨hm, hlen⟩ := takeF_eq htk
      rw [List.length_drop] at hlen
      have hisAgg := hd.isAgg w
      have hmlen : m.length = d.size := by rw [hm, List.length_take, List.length_drop]; omega
      have hmget : ∀ (i : Nat) (y : AVal), m[i]? = some y → l[off + i]? = some y ∧ i < d.size := by
        intro i y hy
        have hi : i < d.size := by rw [← hmlen]; exact (List.getElem?_eq_some_iff.1 hy).1
        rw [hm, List.getElem?_take, if_pos hi, List.getElem?_drop] at hy
        exact ⟨hy, hi⟩
      cases hs : isStr d.kind with
      | true =>
        rw [hs] at hv hisAgg
        simp only [Option.some.injEq] at hv
        subst hv
        have hext : ∀ i, i < d.size → off + i < vs.size → (vs.extract off (off + d.size)).getD i undef = vs.getD (off + i) undef := by
          intro i hi hv
          rw [Array.getD_eq_getD_getElem?, Array.getD_eq_getD_getElem?, Array.getElem?_extract, if_pos (by omega)]
        refine ⟨.agg (vs.extract off (off + d.size)), ?_, .agg (by simp; omega) (fun i hi => ?_) (fun i y hy => ?_)⟩
        · simp [execOp, ho, hvs, Instr.field, run_underlying hu, hfd', part, asAgg, e1, e3, hisAgg, hd.sizeOf w]
        · rw [hext i (by omega) (by omega)]; exact k2 _ (by omega)
        · obtain ⟨h1, h2⟩ := hmget i y hy
          rw [hext i h2 (by omega)]; exact k3 _ _ h1
      | false =>
        rw [hs] at hv hisAgg
        cases m with
        | nil => cases hv
        | cons y r =>
          cases r with
          | cons _ _ => cases hv
          | nil =>
            simp only [Option.some.injEq] at hv
            subst hv
            obtain ⟨h1, h2⟩ := hmget 0 y rfl
            have hlt : off < vs.size := by omega
            refine ⟨vs.getD off undef, ?_, k3 _ _ h1⟩
            simp [execOp, ho, hvs, Instr.field, run_underlying hu, hfd', part, asAgg, e1, e3, hisAgg, hlt]
theorem minmax_ok (H : Holds w gd L g h a) {x y : Operand} {k k' : IntKind} {n m : Int} (hx : opnd g x = .d (.i k n)) (hy : opnd g y = .d (.i k' m)) {as : Array Operand} (has : as.toList = [x, y]) {ts : Array TypeId} {o : Oper} :
    (o.op = .call { callee := .builtin .min, args := as, argTypes := ts } → (Res.val (.d (.i k (min n m)))).Ok P w gd L g h a o) ∧ (o.op = .call { callee := .builtin .max, args := as, argTypes := ts } → (Res.val (.d (.i k (max n m)))).Ok P w gd L g h a o) := by
  have hv := repA_i (hx ▸ H.opnd x)
  have hw := repA_i (hy ▸ H.opnd y)
  obtain ⟨l⟩ := as
  simp only at has
  subst has
  refine ⟨fun ho => ⟨_, ?_, .d (.i _ _)⟩, fun ho => ⟨_, ?_, .d (.i _ _)⟩⟩
  · have : (if m < n then m else n) = min n m := by omega
    simp [execOp, ho, resolve, invoke, builtin, Builtin.min_, Builtin.min2, hv, hw, this]
  · have : (if n < m then m else n) = max n m := by omega
    simp [execOp, ho, resolve, invoke, builtin, Builtin.max_, Builtin.max2, hv, hw, this]
theorem lenStr_ok (hT : TysOk P T) (H : Holds w gd L g h a) {t : TypeId} {sz by_ : Nat} {z : List D} (ht : lookT t T = some ⟨.string, sz, by_, z⟩) {x : Operand} {l : List UInt8} (hx : opnd g x = .d (.s l)) {as : Array Operand} {ts : Array TypeId} (has : as.toList = [x]) (hts : ts.toList = [t]) {o : Oper}
    (ho : o.op = .call { callee := .builtin .len, args := as, argTypes := ts }) : (Res.val (.d (.i .i64 l.length))).Ok P w gd L g h a o := by
  have hv := repA_s (hx ▸ H.opnd x)
  obtain ⟨l1⟩ := as
  obtain ⟨l2⟩ := ts
  simp only at has hts
  subst has hts
  have hsz : (ByteArray.mk l.toArray).size = l.length := by simp [ByteArray.size]
  exact ⟨.int .i64 l.length, by simp [execOp, ho, resolve, invoke, builtin, Builtin.len_, hv, run_underlying ((hT.get ht).string rfl), goInt, hsz], .d (.i _ _)⟩
theorem lenSl_ok (hT : TysOk P T) {t e : TypeId} {sz by_ : Nat} {z : List D} (ht : lookT t T = some ⟨.slice e, sz, by_, z⟩) {x : Operand} {A : Option Addr} {n c : Nat} (hx : a.eval x = .slice A n c) {as : Array Operand} {ts : Array TypeId} (has : as.toList = [x]) (hts : ts.toList = [t]) {o : Oper}
    (ho : o.op = .call { callee := .builtin .len, args := as, argTypes := ts }) : (Res.val (.d (.i .i64 n))).Ok P w gd L g h a o := by
  obtain ⟨l1⟩ := as
  obtain ⟨l2⟩ := ts
  simp only at has hts
  subst has hts
  exact ⟨.int .i64 n, by simp [execOp, ho, resolve, invoke, builtin, Builtin.len_, hx, run_underlying ((hT.get ht).slice rfl), goInt], .d (.i _ _)⟩
end
end Towline
