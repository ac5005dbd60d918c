/- The engine, part one: what a Go value is as plain data (D), as a place in a frame (AVal), as an object of the call's own (AObj), and when a world holds it. Over any program. -/
import Derived.Calls
import Derived.Tactics
import Derived.Below
import Derived.Laws.OwnMore
namespace Towline
open Go Go.RowKit
set_option linter.unusedVariables false

/-- Data that stays as it is: numbers, truth values, texts, any other value of one cell, and slices (size of an element in cells, how many, the elements). -/
inductive D
  | i (k : IntKind) (n : Int)
  | b (x : Bool)
  | s (l : List UInt8)
  | v (x : Value)
  | sl (sz n : Nat) (f : Nat → List D)
  /-- A closure that has taken hold of n boxes that nobody turns. -/
  | cl (f n : Nat) (ds : Nat → List D)
  /-- Something of one cell, of which nothing is known. -/
  | o
  /-- A pointer to a variable that nobody turns; its cells, the first ones. -/
  | pt (ds : List D)
inductive AVal
  | any
  | d (x : D)
  | agg (l : List AVal)
  | tup (l : List AVal)
  | ptr (id off : Nat)
  | eptr (sz n : Nat) (f : Nat → List D) (k off : Nat)
  | rsl (id sz o n : Nat)
  | rptr (id sz k off : Nat)
  /-- A map of the call's own. -/
  | mref (id : Nat)
  | fn (f : FuncId) (caps : List AVal)
  | fresh (t : TypeId) (sz n : Nat) (f : Nat → List D)
inductive AObj
  | box (cells : List AVal) (tag : Option TypeId := none)
  | row (t : TypeId) (sz n : Nat) (f : Nat → List D)
  /-- A map: its keys and what they lead to, in the order in which they came. -/
  | mp (l : List (D × AVal))
  /-- A row whose elements have one cell each, which may be objects of the call's own. -/
  | vrow (t : TypeId) (cells : List AVal)
  /-- A map of data. -/
  | dmp (l : List (D × D))
abbrev Env := List (Nat × AVal)
abbrev Heap := List (Nat × AObj)

def look (i : Nat) : Env → AVal
  | [] => .any
  | (j, v) :: r => match Nat.beq j i with | true => v | false => look i r
def lookO (i : Nat) : Heap → Option AObj
  | [] => none
  | (j, v) :: r => match Nat.beq j i with | true => some v | false => lookO i r
def setO (i : Nat) (o : AObj) : Heap → Option Heap
  | [] => none
  | (j, v) :: r => match Nat.beq j i with
    | true => some ((j, o) :: r)
    | false => match setO i o r with | some r' => some ((j, v) :: r') | none => none
theorem beq_self (i : Nat) : Nat.beq i i = true := Nat.beq_refl i
theorem beq_false {i j : Nat} (h : i ≠ j) : Nat.beq i j = false := by rw [Bool.eq_false_iff]; exact fun e => h (Nat.eq_of_beq_eq_true e)
theorem look_eq (j : Nat) (v : AVal) (r : Env) (i : Nat) : look i ((j, v) :: r) = (match Nat.beq j i with | true => v | false => look i r) := rfl
theorem lookO_eq (j : Nat) (v : AObj) (r : Heap) (i : Nat) : lookO i ((j, v) :: r) = (match Nat.beq j i with | true => some v | false => lookO i r) := rfl
theorem setO_eq (i : Nat) (o : AObj) (j : Nat) (v : AObj) (r : Heap) : setO i o ((j, v) :: r) = (match Nat.beq j i with
    | true => some ((j, o) :: r)
    | false => match setO i o r with | some r' => some ((j, v) :: r') | none => none) := rfl
theorem look_cons (t : Nat) (v : AVal) (env : Env) (j : Nat) : look j ((t, v) :: env) = if j = t then v else look j env := by
  rw [look_eq]
  by_cases h : j = t
  · subst h; simp
  · rw [beq_false (fun e => h e.symm)]; simp [h]
theorem lookO_cons (t : Nat) (v : AObj) (h : Heap) (j : Nat) : lookO j ((t, v) :: h) = if j = t then some v else lookO j h := by
  rw [lookO_eq]
  by_cases h : j = t
  · subst h; simp
  · rw [beq_false (fun e => h e.symm)]; simp [h]
theorem lookO_setO {i : Nat} {o : AObj} : ∀ {h h' : Heap}, setO i o h = some h' → ∀ j, lookO j h' = if j = i then some o else lookO j h
  | [], _, e, _ => by simp [setO] at e
  | (k, v) :: r, h', e, j => by
    rw [setO_eq] at e
    by_cases hk : k = i
    · subst hk
      rw [beq_self] at e
      simp only [Option.some.injEq] at e
      subst e
      rw [lookO_cons, lookO_cons]
      by_cases hj : j = k
      · simp [hj]
      · simp [hj]
    · rw [beq_false hk] at e
      simp only at e
      cases hs : setO i o r with
      | none => rw [hs] at e; cases e
      | some r' =>
        rw [hs] at e
        simp only [Option.some.injEq] at e
        subst e
        rw [lookO_cons, lookO_cons, lookO_setO hs j]
        by_cases hj : j = k
        · have : j ≠ i := by omega
          simp [hj, hk]
        · simp [hj]

/-- A world holds the data x as value v: all that it looks at lies in good blocks. -/
inductive RepD (w : World) (good : Nat → Prop) : D → Value → Prop
  | i (k n) : RepD w good (.i k n) (.int k n)
  | b (x) : RepD w good (.b x) (.bool x)
  | s (l : List UInt8) : RepD w good (.s l) (.string ⟨l.toArray⟩)
  | v (x : Value) (h : x.oneCell' = true) : RepD w good (.v x) x
  | o (x : Value) (h : x.oneCell' = true) : RepD w good .o x
  | sl0 (sz f A c) (h : c ≤ maxLen) : RepD w good (.sl sz 0 f) (.slice A 0 c)
  | sl (sz n : Nat) (f : Nat → List D) (b o c : Nat) (cs : Nat → Nat → Value) (hn : 0 < n) (hc : n ≤ c) (hm : c ≤ maxLen) (hg : good b) (hb : b < w.heap.size)
      (hz : ∀ k, k < n → (f k).length = sz)
      (hcell : ∀ k, k < n → ∀ j, j < sz → w.cell? ⟨b, o + k * sz + j, none⟩ = some (cs k j))
      (hrep : ∀ k, k < n → ∀ j x, (f k)[j]? = some x → RepD w good x (cs k j)) : RepD w good (.sl sz n f) (.slice (some ⟨b, o, none⟩) n c)
  | pt (ds : List D) (b : Nat) (hr : RepD w good (.sl ds.length 1 fun _ => ds) (.slice (some ⟨b, 0, none⟩) 1 1)) : RepD w good (.pt ds) (.pointer (some ⟨b, 0, none⟩))
  | cl (f n : Nat) (ds : Nat → List D) (bs : Nat → Nat) (vs : Array Value) (hz : vs.size = n) (hv : ∀ i, i < n → vs.getD i undef = .pointer (some ⟨bs i, 0, none⟩))
      (hr : ∀ i, i < n → RepD w good (.sl (ds i).length 1 fun _ => ds i) (.slice (some ⟨bs i, 0, none⟩) 1 1)) : RepD w good (.cl f n ds) (.func (.func f) #[] vs)
theorem RepD.one {w : World} {good : Nat → Prop} {x : D} {v : Value} (h : RepD w good x v) : v.oneCell' = true := by
  cases h <;> first | rfl | assumption
/-- What was held is held where the good blocks are as they were. -/
theorem RepD.mono {w w' : World} {good good' : Nat → Prop} (hs : w.heap.size ≤ w'.heap.size) (hg : ∀ b, b < w.heap.size → good b → good' b ∧ w'.heap[b]? = w.heap[b]?) :
    ∀ {x : D} {v : Value}, RepD w good x v → RepD w' good' x v := by
  intro x v h
  induction h with
  | i k n => exact .i k n
  | b x => exact .b x
  | s l => exact .s l
  | v x h => exact .v x h
  | o x h => exact .o x h
  | sl0 sz f A c h => exact .sl0 sz f A c h
  | cl f n ds bs vs hz hv hr ih => exact .cl f n ds bs vs hz hv ih
  | pt ds b hr ih => exact .pt ds b ih
  | sl sz n f b o c cs hn hc hm hgb hb hz hcell hrep ih =>
    obtain ⟨h1, h2⟩ := hg b hb hgb
    exact .sl sz n f b o c cs hn hc hm h1 (by omega) hz (fun k hk j hj => by rw [← hcell k hk j hj]; exact World.cell?_of_block (w := w) h2) ih

/-- Where the objects of the call lie, and how much room rows have; the 'old' blocks do not change while the call runs. -/
structure Lay where
  blk : Nat → Option Nat
  cap : Nat → Nat
  old : Nat → Prop
inductive RepA (w : World) (L : Lay) : (Nat → Prop) → AVal → Value → Prop
  | any {good v} : RepA w L good .any v
  | d {good x v} (h : RepD w good x v) : RepA w L good (.d x) v
  | agg {good} {l : List AVal} {vs : Array Value} (hz : vs.size = l.length) (h1 : ∀ i, i < l.length → (vs.getD i undef).oneCell' = true)
      (h : ∀ i x, l[i]? = some x → RepA w L good x (vs.getD i undef)) : RepA w L good (.agg l) (.agg vs)
  | tup {good} {l : List AVal} {vs : Array Value} (hz : vs.size = l.length) (h : ∀ i x, l[i]? = some x → RepA w L good x (vs.getD i undef)) : RepA w L good (.tup l) (.tuple vs)
  | ptr {good id off b} (h : L.blk id = some b) : RepA w L good (.ptr id off) (.pointer (some ⟨b, off, none⟩))
  | eptr {good sz n f k off b o c m} (h : RepD w good (.sl sz n f) (.slice (some ⟨b, o, none⟩) m c)) (hk : k < n) : RepA w L good (.eptr sz n f k off) (.pointer (some ⟨b, o + k * sz + off, none⟩))
  | rsl {good id sz o n ad} (hc : o + n ≤ L.cap id) (hb : 0 < n → ∃ b, L.blk id = some b) (ha : o = 0 ∨ o < L.cap id → ad = (L.blk id).map fun b => ⟨b, o * sz, none⟩) : RepA w L good (.rsl id sz o n) (.slice ad n (L.cap id - o))
  | rptr {good id sz k off b} (h : L.blk id = some b) : RepA w L good (.rptr id sz k off) (.pointer (some ⟨b, k * sz + off, none⟩))
  | mref {good id b} (h : L.blk id = some b) : RepA w L good (.mref id) (.map (some b))
  | fn {good f caps} {vs : Array Value} (hz : vs.size = caps.length) (h : ∀ i x, caps[i]? = some x → RepA w L (fun b => good b ∨ L.old b) x (vs.getD i undef)) : RepA w L good (.fn f caps) (.func (.func f) #[] vs)
mutual
/-- Does a value not speak of object id? -/
def AVal.free (id : Nat) : AVal → Bool
  | .any => true
  | .d _ => true
  | .eptr .. => true
  | .agg l => AVal.freeL id l
  | .tup l => AVal.freeL id l
  | .ptr j _ => !Nat.beq j id
  | .rsl j _ _ _ => !Nat.beq j id
  | .rptr j _ _ _ => !Nat.beq j id
  | .mref j => !Nat.beq j id
  | .fn _ l => AVal.freeL id l
  | .fresh .. => true
def AVal.freeL (id : Nat) : List AVal → Bool
  | [] => true
  | x :: r => AVal.free id x && AVal.freeL id r
end
theorem AVal.freeL_get {id : Nat} : ∀ {l : List AVal}, AVal.freeL id l = true → ∀ (i : Nat) (x : AVal), l[i]? = some x → x.free id = true
  | [], _, i, x, e => by simp at e
  | y :: r, h, i, x, e => by
    simp only [AVal.freeL, Bool.and_eq_true] at h
    cases i with
    | zero =>
      simp only [List.getElem?_cons_zero, Option.some.injEq] at e
      rw [← e]; exact h.1
    | succ i =>
      simp only [List.getElem?_cons_succ] at e
      exact AVal.freeL_get h.2 i x e
theorem beq_ne {i j : Nat} (h : (!Nat.beq i j) = true) : i ≠ j := by
  intro e; subst e; simp [Nat.beq_refl] at h
/-- Held where the good blocks are as they were and the objects that it speaks of lie where they lay. -/
theorem RepA.mono {w w' : World} {L L' : Lay} (hs : w.heap.size ≤ w'.heap.size) (p : Nat → Bool) (hL : ∀ id, p id = true → L'.blk id = L.blk id ∧ L'.cap id = L.cap id)
    (ht : ∀ b, b < w.heap.size → L.old b → L'.old b ∧ w'.heap[b]? = w.heap[b]?) :
    ∀ {good : Nat → Prop} {x : AVal} {v : Value}, RepA w L good x v → ∀ {good' : Nat → Prop}, (∀ b, b < w.heap.size → good b → good' b ∧ w'.heap[b]? = w.heap[b]?) → (∀ id, p id = false → x.free id = true) → RepA w' L' good' x v := by
  intro good x v h
  have key : ∀ j : Nat, (∀ id, p id = false → (!Nat.beq j id) = true) → p j = true := by
    intro j hj
    cases hp : p j with
    | true => rfl
    | false => have := hj j hp; simp [Nat.beq_refl] at this
  induction h with
  | any => intro _ _ _; exact .any
  | d h => intro _ hg _; exact .d (h.mono hs hg)
  | agg hz h1 h ih => intro _ hg hp; exact .agg hz h1 fun i x hx => ih i x hx hg fun id hid => AVal.freeL_get (hp id hid) i x hx
  | tup hz h ih => intro _ hg hp; exact .tup hz fun i x hx => ih i x hx hg fun id hid => AVal.freeL_get (hp id hid) i x hx
  | ptr h => intro _ hg hp; exact .ptr ((hL _ (key _ hp)).1.trans h)
  | eptr h hk => intro _ hg _; exact .eptr (h.mono hs hg) hk
  | @rsl good id sz o n ad hc hb ha =>
    intro _ hg hp
    obtain ⟨e1, e2⟩ := hL _ (key id hp)
    rw [← e2]
    rw [← e2] at hc ha
    rw [← e1] at ha
    exact .rsl hc (fun h0 => (hb h0).imp fun b h => e1.trans h) ha
  | rptr h => intro _ hg hp; exact .rptr ((hL _ (key _ hp)).1.trans h)
  | mref h => intro _ hg hp; exact .mref ((hL _ (key _ hp)).1.trans h)
  | fn hz h ih =>
    intro _ hg hp
    exact .fn hz fun i x hx => ih i x hx (fun b hlt hb => by
      rcases hb with hb | hb
      · exact ⟨.inl (hg b hlt hb).1, (hg b hlt hb).2⟩
      · exact ⟨.inr (ht b hlt hb).1, (ht b hlt hb).2⟩) fun id hid => AVal.freeL_get (hp id hid) i x hx
theorem RepA.mono1 {w w' : World} {good good' : Nat → Prop} {L : Lay} (hs : w.heap.size ≤ w'.heap.size) (hg : ∀ b, b < w.heap.size → good b → good' b ∧ w'.heap[b]? = w.heap[b]?) (ht : ∀ b, L.old b → w'.heap[b]? = w.heap[b]?)
    {x : AVal} {v : Value} (h : RepA w L good x v) : RepA w' L good' x v :=
  h.mono hs (fun _ => true) (fun _ _ => ⟨rfl, rfl⟩) (fun b _ hb => ⟨hb, ht b hb⟩) hg (fun _ h => by cases h)
/-- Rows of this type were made of a text: their blocks bear a mark; nothing is put behind them. -/
abbrev markT : Nat := 1000000000
/-- An array of n elements that is kept as a row. -/
abbrev arT : Nat := 5000000000
/-- A key of a map, as a value. -/
def keyV : D → Option Value
  | .i k n => some (.int k n)
  | .s l => some (.string ⟨l.toArray⟩)
  | _ => none
/-- An object of the call's own is held. -/
inductive RepO (w : World) (good : Nat → Prop) (L : Lay) (id : Nat) : AObj → Prop
  | box {cells : List AVal} {tag : Option TypeId} {cs : Array Value} {t : TypeId} {b : Nat} (htag : ∀ t', tag = some t' → t = t') (hb : L.blk id = some b) (hh : w.heap[b]? = some (.cells cs t (0, 0))) (hz : cs.size = cells.length)
      (h1 : ∀ i, i < cells.length → (cs.getD i undef).oneCell' = true) (h : ∀ i x, cells[i]? = some x → RepA w L good x (cs.getD i undef)) : RepO w good L id (.box cells tag)
  | row0 {t sz f} (hb : L.blk id = none) (hc : L.cap id = 0) : RepO w good L id (.row t sz 0 f)
  | row {t sz n : Nat} {f : Nat → List D} {cs : Array Value} {b : Nat} {t2 : Nat} {mk : Nat × Nat} (hb : L.blk id = some b) (hh : w.heap[b]? = some (.cells cs t2 mk)) (hn : n ≤ L.cap id) (hm : L.cap id ≤ maxLen)
      (hz : cs.size = L.cap id * sz) (hf : ∀ k, k < n → (f k).length = sz) (h : ∀ k, k < n → ∀ j x, (f k)[j]? = some x → RepD w good x (cs.getD (k * sz + j) undef))
      (hty : t < markT → t2 = t) (hmk : mk = (0, 0) ∨ (t = markT ∧ cs.size ≤ mk.1)) (hcap : ∀ m, t = arT + m → L.cap id = m) : RepO w good L id (.row t sz n f)
  | mp {l : List (D × AVal)} {es : Array MapEntry} {clock b : Nat} (hb : L.blk id = some b) (hh : w.heap[b]? = some (.map es clock)) (hz : es.size = l.length)
      (hk : ∀ (i : Nat) (x : D × AVal) (e : MapEntry), l[i]? = some x → es[i]? = some e → keyV x.1 = some e.key)
      (h1 : ∀ (i : Nat) (e : MapEntry), es[i]? = some e → e.val.oneCell' = true)
      (h : ∀ (i : Nat) (x : D × AVal) (e : MapEntry), l[i]? = some x → es[i]? = some e → RepA w L good x.2 e.val) : RepO w good L id (.mp l)
  | vrow0 {t : TypeId} (hb : L.blk id = none) (hc : L.cap id = 0) : RepO w good L id (.vrow t [])
  | vrow {t : TypeId} {cells : List AVal} {cs : Array Value} {b : Nat} (hb : L.blk id = some b) (hh : w.heap[b]? = some (.cells cs t (0, 0))) (hn : cells.length ≤ L.cap id) (hm : L.cap id ≤ maxLen) (hz : cs.size = L.cap id)
      (h1 : ∀ i, i < cells.length → (cs.getD i undef).oneCell' = true) (h : ∀ i x, cells[i]? = some x → RepA w L good x (cs.getD i undef)) : RepO w good L id (.vrow t cells)
  | dmp {l : List (D × D)} {es : Array MapEntry} {clock b : Nat} (hb : L.blk id = some b) (hh : w.heap[b]? = some (.map es clock)) (hz : es.size = l.length)
      (hk : ∀ (i : Nat) (x : D × D) (e : MapEntry), l[i]? = some x → es[i]? = some e → keyV x.1 = some e.key)
      (h : ∀ (i : Nat) (x : D × D) (e : MapEntry), l[i]? = some x → es[i]? = some e → RepD w good x.2 e.val) : RepO w good L id (.dmp l)
/-- A map of data, as any map. -/
def liftM (l : List (D × D)) : List (D × AVal) := l.map fun x => (x.1, .d x.2)
theorem liftM_get {l : List (D × D)} {i : Nat} {x : D × AVal} (h : (liftM l)[i]? = some x) : ∃ y, l[i]? = some y ∧ x = (y.1, .d y.2) := by
  unfold liftM at h
  rw [List.getElem?_map] at h
  obtain ⟨y, hy, rfl⟩ := Option.map_eq_some_iff.1 h
  exact ⟨y, hy, rfl⟩
theorem RepO.dmp_mp {w : World} {good : Nat → Prop} {L : Lay} {id : Nat} {l : List (D × D)} (h : RepO w good L id (.dmp l)) : RepO w good L id (.mp (liftM l)) := by
  cases h with
  | dmp hb hh hz hk h =>
    refine .mp hb hh (by simpa [liftM] using hz) (fun i x e hx he => ?_) (fun i e he => ?_) fun i x e hx he => ?_
    · obtain ⟨y, hy, rfl⟩ := liftM_get hx
      exact hk i y e hy he
    · have hlt := (Array.getElem?_eq_some_iff.1 he).1
      exact (h i _ e (List.getElem?_eq_getElem (by omega)) he).one
    · obtain ⟨y, hy, rfl⟩ := liftM_get hx
      exact .d (h i y e hy he)
theorem RepO.mp_dmp {w : World} {good : Nat → Prop} {L : Lay} {id : Nat} {l : List (D × D)} (h : RepO w good L id (.mp (liftM l))) : RepO w good L id (.dmp l) := by
  cases h with
  | mp hb hh hz hk h1 h =>
    have hget : ∀ {i : Nat} {x : D × D}, l[i]? = some x → (liftM l)[i]? = some (x.1, .d x.2) := fun hx => by unfold liftM; rw [List.getElem?_map, hx]; rfl
    refine .dmp hb hh (by simpa [liftM] using hz) (fun i x e hx he => hk i _ e (hget hx) he) fun i x e hx he => ?_
    cases h i _ e (hget hx) he with
    | d h => exact h
def freeM (id : Nat) : List (D × AVal) → Bool
  | [] => true
  | (_, v) :: r => v.free id && freeM id r
theorem freeM_get {id : Nat} : ∀ {l : List (D × AVal)}, freeM id l = true → ∀ (i : Nat) (x : D × AVal), l[i]? = some x → x.2.free id = true
  | [], _, i, x, e => by simp at e
  | (k, y) :: r, h, i, x, e => by
    simp only [freeM, Bool.and_eq_true] at h
    cases i with
    | zero =>
      simp only [List.getElem?_cons_zero, Option.some.injEq] at e
      rw [← e]; exact h.1
    | succ i =>
      simp only [List.getElem?_cons_succ] at e
      exact freeM_get h.2 i x e
def AObj.free (id : Nat) : AObj → Bool
  | .box l _ => AVal.freeL id l
  | .row .. => true
  | .mp l => freeM id l
  | .vrow _ l => AVal.freeL id l
  | .dmp _ => true
theorem RepO.mono {w w' : World} {good good' : Nat → Prop} {L L' : Lay} {id : Nat} {o : AObj} (h : RepO w good L id o) (hs : w.heap.size ≤ w'.heap.size)
    (hg : ∀ b, b < w.heap.size → good b → good' b ∧ w'.heap[b]? = w.heap[b]?) (hb : ∀ b, L.blk id = some b → w'.heap[b]? = w.heap[b]?) (ht : ∀ b, b < w.heap.size → L.old b → L'.old b ∧ w'.heap[b]? = w.heap[b]?)
    (p : Nat → Bool) (hL : ∀ id, p id = true → L'.blk id = L.blk id ∧ L'.cap id = L.cap id) (hp : p id = true) (hf : ∀ id, p id = false → o.free id = true) : RepO w' good' L' id o := by
  obtain ⟨e1, e2⟩ := hL id hp
  cases h with
  | box htag hb1 hh hz h1 h =>
    exact .box htag (e1.trans hb1) ((hb _ hb1).trans hh) hz h1 fun i x hx => (h i x hx).mono hs p hL ht hg fun id hid => AVal.freeL_get (hf id hid) i x hx
  | row0 hb1 hc => exact .row0 (e1.trans hb1) (e2.trans hc)
  | mp hb1 hh hz hk h1 h =>
    exact .mp (e1.trans hb1) ((hb _ hb1).trans hh) hz hk h1 fun i x e hx he => (h i x e hx he).mono hs p hL ht hg fun id hid => freeM_get (hf id hid) i x hx
  | row hb1 hh hn hm hz hfl h hty hmk hcap => exact .row (e1.trans hb1) ((hb _ hb1).trans hh) (e2 ▸ hn) (e2 ▸ hm) (e2 ▸ hz) hfl (fun k hk j x hx => (h k hk j x hx).mono hs hg) hty hmk fun m hm => e2.trans (hcap m hm)
  | vrow0 hb1 hc => exact .vrow0 (e1.trans hb1) (e2.trans hc)
  | vrow hb1 hh hn hm hz h1 h =>
    exact .vrow (e1.trans hb1) ((hb _ hb1).trans hh) (e2 ▸ hn) (e2 ▸ hm) (e2 ▸ hz) h1 fun i x hx => (h i x hx).mono hs p hL ht hg fun id hid => AVal.freeL_get (hf id hid) i x hx
  | dmp hb1 hh hz hk h =>
    exact .dmp (e1.trans hb1) ((hb _ hb1).trans hh) hz hk fun i x e hx he => (h i x e hx he).mono hs hg

/-- Tables that are variables of the program and that contracts may read: which one, of which kind, the numbers. -/
def engTabs : List (Nat × IntKind × List Int) :=
  (2, .u8, [0, 1, 56, 2, 57, 49, 28, 3, 61, 58, 42, 50, 38, 29, 17, 4, 62, 47, 59, 36, 45, 43, 51, 22, 53, 39, 33, 30, 24, 18, 12, 5, 63, 55, 48, 27, 60, 41, 37, 16, 46, 35, 44, 21, 52, 32, 23, 11, 54, 26, 40, 15, 34, 20, 31, 10, 25, 14, 19, 9, 13, 8, 7, 6]) ::
  []
def lookG (i : Nat) : List (Nat × IntKind × List Int) → Option (IntKind × List Int)
  | [] => none
  | (j, v) :: r => match Nat.beq j i with | true => some v | false => lookG i r
/-- Such a table, as the place where it lies. -/
def globV (n : Nat) : AVal := match lookG n engTabs with
  | some (k, l) => .eptr l.length 1 (fun _ => l.map (D.i k)) 0 0
  | none => .any
/-- The tables lie in the world, and may be read. -/
def GoodW (w : World) (R : Nat → Prop) : Prop := ∀ n k l, lookG n engTabs = some (k, l) → R n ∧ ∃ ty mk, w.heap[n]? = some (.cells (l.map (Value.int k)).toArray ty mk)
theorem GoodW.mono {w w' : World} {R R' : Nat → Prop} (h : GoodW w R) (hm : ∀ n k l, lookG n engTabs = some (k, l) → R n → n < w.heap.size → R' n ∧ w'.heap[n]? = w.heap[n]?) : GoodW w' R' := fun n k l e => by
  obtain ⟨h1, ty, mk, h2⟩ := h n k l e
  have hlt : n < w.heap.size := (Array.getElem?_eq_some_iff.1 h2).1
  obtain ⟨h3, h4⟩ := hm n k l e h1 hlt
  exact ⟨h3, ty, mk, h4.trans h2⟩
theorem GoodW.empty (h : engTabs = []) (w : World) (R : Nat → Prop) : GoodW w R := fun n k l e => by rw [h] at e; cases e
theorem globV_free (n id : Nat) : (globV n).free id = true := by
  unfold globV
  split <;> rfl
theorem GoodW.rep {w : World} {R : Nat → Prop} (h : GoodW w R) (L : Lay) (n : Nat) : RepA w L R (globV n) (.pointer (some ⟨n, 0, none⟩)) := by
  unfold globV
  split
  · rename_i k l e
    obtain ⟨h1, ty, mk, h2⟩ := h n k l e
    have hlt : n < w.heap.size := (Array.getElem?_eq_some_iff.1 h2).1
    have hsl : RepD w R (.sl l.length 1 fun _ => l.map (D.i k)) (.slice (some ⟨n, 0, none⟩) 1 1) := by
      refine .sl _ _ _ n 0 1 (fun _ j => (l.map (Value.int k)).getD j undef) (by decide) (Nat.le_refl _) (by decide) h1 hlt (fun _ _ => by simp) (fun i hi j hj => ?_) fun i hi j x hx => ?_
      · have hi0 : i = 0 := by omega
        subst hi0
        have hj' : j < (l.map (Value.int k)).length := by simpa using hj
        simp [World.cell?, h2, hj]
      · rw [List.getElem?_map] at hx
        obtain ⟨z, hz, rfl⟩ := Option.map_eq_some_iff.1 hx
        have : (l.map (Value.int k)).getD j undef = .int k z := by simp [List.getD_eq_getElem?_getD, hz]
        rw [this]
        exact .i k z
    have := RepA.eptr (L := L) (off := 0) hsl (k := 0) (by decide)
    simpa using this
  · exact .any
def GoodC (w0 : World) (R0 : Nat → Prop) (lid : List Nat) (Lo : Lay) : Prop := GoodW w0 R0 ∧ ∀ n k l, lookG n engTabs = some (k, l) → ¬ ∃ i, i ∈ lid ∧ Lo.blk i = some n
theorem GoodC.nil {w : World} {R : Nat → Prop} {Lo : Lay} (h : GoodW w R) : GoodC w R [] Lo := ⟨h, fun _ _ _ _ ⟨_, h, _⟩ => by cases h⟩
/-- What stays fixed while a function runs; lid: the names of the objects that were lent to it, which lay, when it began, as Lo says. -/
structure Ctx where
  P : Program
  nt : Nat
  w0 : World
  R0 : Nat → Prop
  lid : List Nat
  Lo : Lay
  hG : GoodC w0 R0 lid Lo
/-- The blocks that were lent. -/
def Ctx.lent (C : Ctx) (b : Nat) : Prop := ∃ i, i ∈ C.lid ∧ C.Lo.blk i = some b
/-- The first name of lent objects. -/
abbrev lentBase : Nat := 1000000000
/-- Nothing that was there has changed, but what was lent. -/
structure BelowL (ln : Nat → Prop) (w0 w : World) : Prop where
  os : w.os = w0.os
  tape : w.tape = w0.tape
  output : w.output = w0.output
  size : w0.heap.size ≤ w.heap.size
  block : ∀ k, k < w0.heap.size → ¬ ln k → w.heap[k]? = w0.heap[k]?
theorem BelowL.refl (ln : Nat → Prop) (w : World) : BelowL ln w w := ⟨rfl, rfl, rfl, Nat.le_refl _, fun _ _ _ => rfl⟩
theorem BelowL.next {ln : Nat → Prop} {w0 w w' : World} (h : BelowL ln w0 w) (hos : w'.os = w.os) (htp : w'.tape = w.tape) (hout : w'.output = w.output) (hsz : w.heap.size ≤ w'.heap.size) (hw : ∀ k, k < w0.heap.size → ¬ ln k → w'.heap[k]? = w.heap[k]?) : BelowL ln w0 w' :=
  ⟨hos.trans h.os, htp.trans h.tape, hout.trans h.output, Nat.le_trans h.size hsz, fun k hk hl => (hw k hk hl).trans (h.block k hk hl)⟩
theorem BelowL.trans {ln : Nat → Prop} {w0 w w' : World} (h : BelowL ln w0 w) {n : Nat} (k : Below n w w') (hn : w0.heap.size ≤ n) : BelowL ln w0 w' :=
  h.next k.os k.tape k.output k.size fun i hi _ => k.block i (Nat.lt_of_lt_of_le hi hn)
theorem BelowL.plain {ln : Nat → Prop} {w0 w : World} (h : BelowL ln w0 w) (hl : ∀ b, ¬ ln b) : Below w0.heap.size w0 w := ⟨h.os, h.tape, h.output, h.size, fun k hk => h.block k hk (hl k)⟩
abbrev lk (env : Env) : Nat → AVal := fun t => look t env
abbrev lko (heap : Heap) : Nat → Option AObj := fun i => lookO i heap
def gput (g : Nat → AVal) (d : Nat) (x : AVal) : Nat → AVal := fun t => if t = d then x else g t
def hput (h : Nat → Option AObj) (d : Nat) (o : AObj) : Nat → Option AObj := fun t => if t = d then some o else h t
theorem lk_cons (d : Nat) (x : AVal) (env : Env) : lk ((d, x) :: env) = gput (lk env) d x := funext fun t => look_cons d x env t
theorem lko_cons (d : Nat) (o : AObj) (heap : Heap) : lko ((d, o) :: heap) = hput (lko heap) d o := funext fun t => lookO_cons d o heap t
theorem lko_set {id : Nat} {o : AObj} {h h' : Heap} (e : setO id o h = some h') : lko h' = hput (lko h) id o := funext fun t => lookO_setO e t
def owned (L : Lay) (h : Nat → Option AObj) (b : Nat) : Prop := ∃ id o, h id = some o ∧ L.blk id = some b
def good (C : Ctx) (L : Lay) (h : Nat → Option AObj) (w : World) (b : Nat) : Prop := b < w.heap.size ∧ (C.R0 b ∨ C.w0.heap.size ≤ b ∨ C.lent b) ∧ ¬ owned L h b
/-- A frame and a world are as the slots g and the objects h say. -/
structure Rel (C : Ctx) (L : Lay) (g : Nat → AVal) (h : Nat → Option AObj) (a : Act) (w : World) : Prop where
  below : BelowL C.lent C.w0 w
  top : ∀ b, L.old b ↔ b < C.w0.heap.size ∧ ¬ C.lent b
  size : a.tmps.size = C.nt
  defers : a.defers = []
  slot : ∀ t, RepA w L (good C L h w) (g t) (a.tmps.getD t undef)
  obj : ∀ id o, h id = some o → RepO w (good C L h w) L id o
  inj : ∀ i j oi oj b, h i = some oi → h j = some oj → L.blk i = some b → L.blk j = some b → i = j
  own0 : ∀ id o b, h id = some o → L.blk id = some b → (C.w0.heap.size ≤ b ∨ C.lent b) ∧ b < w.heap.size
  kept : ∀ id o, id ∈ C.lid → h id = some o → L.blk id = C.Lo.blk id ∧ L.cap id = C.Lo.cap id
  lidn : ∀ i, i ∈ C.lid → lentBase ≤ i ∧ C.nt ≤ i
theorem Act.getD_put (a : Act) (d : Tmp) (v : Value) (t : Nat) (h : d < a.tmps.size) : (a.put (some d) v).tmps.getD t undef = if t = d then v else a.tmps.getD t undef := by
  unfold Act.put
  simp only [Array.getD_eq_getD_getElem?, Array.getElem?_setIfInBounds]
  by_cases e : d = t
  · subst e; simp [h]
  · rw [if_neg e, if_neg (fun h => e h.symm)]
section
variable {C : Ctx} {L : Lay} {g : Nat → AVal} {h : Nat → Option AObj} {a : Act} {w w' : World}
/-- A slot is written. -/
theorem Rel.put (H : Rel C L g h a w) {d : Tmp} (hd : d < C.nt) {x : AVal} {v : Value} (hv : RepA w L (good C L h w) x v) : Rel C L (gput g d x) h (a.put (some d) v) w where
  below := H.below
  top := H.top
  size := by simp [Act.put, H.size]
  defers := H.defers
  slot t := by
    rw [Act.getD_put a d v t (by rw [H.size]; exact hd)]
    unfold gput
    split
    · exact hv
    · exact H.slot t
  obj := H.obj
  inj := H.inj
  own0 := H.own0
  kept := H.kept
  lidn := H.lidn
/-- What is old is owned by no object. -/
theorem Rel.old_own (H : Rel C L g h a w) {b : Nat} (hb : L.old b) {id : Nat} {o : AObj} (ho : h id = some o) : L.blk id ≠ some b := by
  intro e
  obtain ⟨h1, h2⟩ := (H.top b).1 hb
  rcases (H.own0 id o b ho e).1 with h3 | h3
  · omega
  · exact h2 h3
theorem Rel.lid_slot (H : Rel C L g h a w) {t : Nat} (hlt : t < C.nt) : t ∉ C.lid := fun e => absurd (H.lidn t e).2 (Nat.not_le_of_lt hlt)
theorem Rel.old_lt (H : Rel C L g h a w) {b : Nat} (hb : L.old b) : b < w.heap.size := Nat.lt_of_lt_of_le ((H.top b).1 hb).1 H.below.size
/-- The world is later, what is good stays, the objects stay. -/
theorem Rel.world (H : Rel C L g h a w) {n : Nat} (hb : Below n w w') (hw : ∀ b, b < w.heap.size → w'.heap[b]? = w.heap[b]?) : Rel C L g h a w' := by
  have hg : ∀ b, b < w.heap.size → good C L h w b → good C L h w' b ∧ w'.heap[b]? = w.heap[b]? := fun b hb' hgb => ⟨⟨Nat.lt_of_lt_of_le hb' hb.size, hgb.2⟩, hw b hb'⟩
  have ht : ∀ b, L.old b → w'.heap[b]? = w.heap[b]? := fun b h => hw b (H.old_lt h)
  exact {
    below := H.below.next hb.os hb.tape hb.output hb.size fun k hk _ => hw k (Nat.lt_of_lt_of_le hk H.below.size)
    top := H.top
    size := H.size
    defers := H.defers
    slot := fun t => (H.slot t).mono1 hb.size hg ht
    obj := fun id o ho => (H.obj id o ho).mono hb.size hg (fun b hlb => hw b (H.own0 id o b ho hlb).2) (fun b _ hb => ⟨hb, ht b hb⟩) (fun _ => true) (fun _ _ => ⟨rfl, rfl⟩) rfl (fun _ h => by cases h)
    inj := H.inj
    own0 := fun id o b ho hlb => ⟨(H.own0 id o b ho hlb).1, Nat.lt_of_lt_of_le (H.own0 id o b ho hlb).2 hb.size⟩
    kept := H.kept
    lidn := H.lidn }
def Lay.upd (L : Lay) (d : Nat) (nb : Option Nat) (nc : Nat) : Lay := ⟨fun i => if i = d then nb else L.blk i, fun i => if i = d then nc else L.cap i, L.old⟩
/-- Good blocks stay good, and as they are. -/
def Stays (w w' : World) (gd gd' : Nat → Prop) : Prop := ∀ b, b < w.heap.size → gd b → gd' b ∧ w'.heap[b]? = w.heap[b]?
theorem stays_new (hb : Below w.heap.size w w') {id : Nat} {nb : Option Nat} {nc : Nat} (hnb : ∀ b, nb = some b → w.heap.size ≤ b ∧ b < w'.heap.size) (o : AObj) :
    Stays w w' (good C L h w) (good C (L.upd id nb nc) (hput h id o) w') := by
  intro b hlt hgb
  refine ⟨⟨Nat.lt_of_lt_of_le hlt hb.size, hgb.2.1, ?_⟩, hb.block b hlt⟩
  rintro ⟨i, oi, h1, h2⟩
  unfold hput at h1
  split at h1
  · rename_i hi
    simp only [Lay.upd, hi, if_true] at h2
    have := (hnb b h2).1
    omega
  · rename_i hi
    simp only [Lay.upd, hi, if_false] at h2
    exact hgb.2.2 ⟨i, oi, h1, h2⟩
/-- What is new and no object's own may be looked at. -/
theorem Rel.new_good (H : Rel C L g h a w) {d : Nat} {nb : Option Nat} {nc : Nat} {ob : AObj} : ∀ b, w.heap.size ≤ b → b < w'.heap.size → nb ≠ some b → good C (L.upd d nb nc) (hput h d ob) w' b := by
  intro b h1 h2 h3
  refine ⟨h2, .inr (.inl (Nat.le_trans H.below.size h1)), ?_⟩
  rintro ⟨i, oi, k1, k2⟩
  unfold hput at k1
  split at k1
  · rename_i hi
    simp only [Lay.upd, hi, if_true] at k2
    exact h3 k2
  · rename_i hi
    simp only [Lay.upd, hi, if_false] at k2
    have := (H.own0 i oi b k1 k2).2
    omega
/-- A new object, the other blocks as they were. -/
theorem Rel.new (H : Rel C L g h a w) {id : Nat} (hlid : id ∉ C.lid) (he : ∀ t, (g t).free id = true) (hh : ∀ j o, h j = some o → j ≠ id ∧ o.free id = true)
    (hb : Below w.heap.size w w') (nb : Option Nat) (nc : Nat) (hnb : ∀ b, nb = some b → w.heap.size ≤ b ∧ b < w'.heap.size) {o : AObj}
    (ho : RepO w' (good C (L.upd id nb nc) (hput h id o) w') (L.upd id nb nc) id o) : Rel C (L.upd id nb nc) g (hput h id o) a w' := by
  have hL : ∀ i, (i != id) = true → (L.upd id nb nc).blk i = L.blk i ∧ (L.upd id nb nc).cap i = L.cap i := by
    intro i hi
    have : i ≠ id := by simpa using hi
    simp [Lay.upd, this]
  have hg := stays_new (C := C) (L := L) (h := h) hb (id := id) (nb := nb) (nc := nc) hnb o
  have hp : ∀ i, (i != id) = false → i = id := by intro i hi; simpa using hi
  have ht : ∀ b, b < w.heap.size → L.old b → (L.upd id nb nc).old b ∧ w'.heap[b]? = w.heap[b]? := fun b hlt h => ⟨h, hb.block b hlt⟩
  exact {
    below := H.below.trans hb H.below.size
    top := H.top
    size := H.size
    defers := H.defers
    slot := fun t => (H.slot t).mono hb.size (· != id) hL ht hg (fun i hi => by rw [hp i hi]; exact he t)
    obj := fun j oj hj => by
      unfold hput at hj
      split at hj
      · rename_i hi
        cases hj
        rw [hi]
        exact ho
      · rename_i hi
        exact (H.obj j oj hj).mono hb.size hg (fun b hlb => hb.block b (H.own0 j oj b hj hlb).2) ht (· != id) hL (by simpa using hi) (fun i hi' => by rw [hp i hi']; exact (hh j oj hj).2)
    inj := fun i j oi oj b hi hj hbi hbj => by
      unfold hput at hi hj
      simp only [Lay.upd] at hbi hbj
      by_cases h1 : i = id
      · by_cases h2 : j = id
        · rw [h1, h2]
        · rw [if_neg h2] at hj hbj
          rw [if_pos h1] at hbi
          have := (hnb b hbi).1
          have := (H.own0 j oj b hj hbj).2
          omega
      · rw [if_neg h1] at hi hbi
        by_cases h2 : j = id
        · rw [if_pos h2] at hbj
          have := (hnb b hbj).1
          have := (H.own0 i oi b hi hbi).2
          omega
        · rw [if_neg h2] at hj hbj
          exact H.inj i j oi oj b hi hj hbi hbj
    own0 := fun i oi b hi hbi => by
      unfold hput at hi
      simp only [Lay.upd] at hbi
      by_cases h1 : i = id
      · rw [if_pos h1] at hbi
        have := hnb b hbi
        exact ⟨.inl (Nat.le_trans H.below.size this.1), this.2⟩
      · rw [if_neg h1] at hi hbi
        have := H.own0 i oi b hi hbi
        exact ⟨this.1, Nat.lt_of_lt_of_le this.2 hb.size⟩
    kept := fun i oi hl hi => by
      have hne : i ≠ id := fun e => hlid (e ▸ hl)
      unfold hput at hi
      rw [if_neg hne] at hi
      simp only [Lay.upd, if_neg hne]
      exact H.kept i oi hl hi
    lidn := H.lidn }
/-- An object is written in its own block. -/
theorem Rel.set (H : Rel C L g h a w) {id : Nat} {o o' : AObj} (hl : h id = some o) {b0 : Nat} (hb0 : L.blk id = some b0)
    (hos : w'.os = w.os) (htp : w'.tape = w.tape) (hout : w'.output = w.output) (hsz : w'.heap.size = w.heap.size) (hw : ∀ b, b ≠ b0 → w'.heap[b]? = w.heap[b]?)
    (ho : ∀ gd', Stays w w' (good C L h w) gd' → (∀ b, L.old b → w'.heap[b]? = w.heap[b]?) → RepO w' gd' L id o') : Rel C L g (hput h id o') a w' := by
  have hold : ∀ {i oi}, hput h id o' i = some oi → ∃ oi', h i = some oi' := by
    intro i oi hi
    unfold hput at hi
    split at hi
    · rename_i e; exact ⟨o, e ▸ hl⟩
    · exact ⟨oi, hi⟩
  have hg : Stays w w' (good C L h w) (good C L (hput h id o') w') := by
    intro b hlt hgb
    refine ⟨⟨by omega, hgb.2.1, ?_⟩, hw b ?_⟩
    · rintro ⟨i, oi, h1, h2⟩
      obtain ⟨oi', h1'⟩ := hold h1
      exact hgb.2.2 ⟨i, oi', h1', h2⟩
    · intro e
      exact hgb.2.2 ⟨id, o, hl, by rw [hb0, e]⟩
  have h0 := H.own0 id o b0 hl hb0
  have ht : ∀ b, L.old b → w'.heap[b]? = w.heap[b]? := fun b h => hw b (fun e => H.old_own h hl (by rw [hb0, e]))
  exact {
    below := H.below.next hos htp hout (by omega) fun k hk hnl => hw k (fun e => by rcases h0.1 with h1 | h1; omega; exact hnl (e ▸ h1))
    top := H.top
    size := H.size
    defers := H.defers
    slot := fun t => (H.slot t).mono1 (by omega) hg ht
    obj := fun j oj hj => by
      unfold hput at hj
      split at hj
      · rename_i hi
        cases hj
        rw [hi]
        exact ho _ hg ht
      · rename_i hi
        exact (H.obj j oj hj).mono (by omega) hg (fun b hlb => hw b (fun e => hi (H.inj j id oj o b hj hl hlb (by rw [hb0, e])))) (fun b _ hb => ⟨hb, ht b hb⟩) (fun _ => true) (fun _ _ => ⟨rfl, rfl⟩) rfl (fun _ h => by cases h)
    inj := fun i j oi oj b hi hj hbi hbj => by
      obtain ⟨oi', h1⟩ := hold hi
      obtain ⟨oj', h2⟩ := hold hj
      exact H.inj i j oi' oj' b h1 h2 hbi hbj
    own0 := fun i oi b hi hbi => by
      obtain ⟨oi', h1⟩ := hold hi
      have := H.own0 i oi' b h1 hbi
      exact ⟨this.1, by omega⟩
    kept := fun i oi hl' hi => by
      obtain ⟨oi', h1⟩ := hold hi
      exact H.kept i oi' hl' h1
    lidn := H.lidn }
end
/-- What speaks of object id is forgotten. -/
def killG (id : Nat) (g : Nat → AVal) : Nat → AVal := fun t => match (g t).free id with | true => g t | false => .any
def killL (id : Nat) : List AVal → Option (List AVal)
  | [] => some []
  | x :: r => match killL id r with
    | some r' => match x.free id with
      | true => some (x :: r')
      | false => some (.any :: r')
    | none => none
def killM (id : Nat) : List (D × AVal) → Option (List (D × AVal))
  | [] => some []
  | (k, x) :: r => match killM id r with
    | some r' => match x.free id with
      | true => some ((k, x) :: r')
      | false => some ((k, .any) :: r')
    | none => none
theorem killM_get {id : Nat} : ∀ {l m : List (D × AVal)}, killM id l = some m → m.length = l.length ∧ ∀ (i : Nat) (x : D × AVal), m[i]? = some x → ∃ y, l[i]? = some (x.1, y) ∧ (x.2 = .any ∨ (y = x.2 ∧ y.free id = true))
  | [], m, h => by simp [killM] at h; subst h; exact ⟨rfl, fun i x hx => by simp at hx⟩
  | (k, y) :: r, m, h => by
    simp only [killM] at h
    cases hr : killM id r with
    | none => rw [hr] at h; cases h
    | some r' =>
      rw [hr] at h
      obtain ⟨h1, h2⟩ := killM_get hr
      cases hf : y.free id with
      | true =>
        rw [hf] at h
        simp only [Option.some.injEq] at h
        subst h
        refine ⟨by simp [h1], fun i x hx => ?_⟩
        cases i with
        | zero => simp only [List.getElem?_cons_zero, Option.some.injEq] at hx; subst hx; exact ⟨y, rfl, .inr ⟨rfl, hf⟩⟩
        | succ i => simp only [List.getElem?_cons_succ] at hx ⊢; exact h2 i x hx
      | false =>
        rw [hf] at h
        simp only [Option.some.injEq] at h
        subst h
        refine ⟨by simp [h1], fun i x hx => ?_⟩
        cases i with
        | zero => simp only [List.getElem?_cons_zero, Option.some.injEq] at hx; subst hx; exact ⟨y, rfl, .inl rfl⟩
        | succ i => simp only [List.getElem?_cons_succ] at hx ⊢; exact h2 i x hx
theorem killM_some (id : Nat) : ∀ l : List (D × AVal), ∃ m, killM id l = some m
  | [] => ⟨[], rfl⟩
  | (k, y) :: r => by
    obtain ⟨m, hm⟩ := killM_some id r
    simp only [killM, hm]
    cases y.free id <;> exact ⟨_, rfl⟩
def killO (id : Nat) : AObj → Option AObj
  | .mp l => match killM id l with
    | some l => some (.mp l)
    | none => none
  | .box l tag => match killL id l with
    | some l => some (.box l tag)
    | none => none
  | .row t sz n f => some (.row t sz n f)
  | .vrow t l => match killL id l with
    | some l => some (.vrow t l)
    | none => none
  | .dmp l => some (.dmp l)
def killH (id : Nat) (h : Nat → Option AObj) : Nat → Option AObj := fun j => if j = id then none else match h j with | some o => killO id o | none => none
def killE (id : Nat) : Env → Option Env
  | [] => some []
  | (t, v) :: r => match killE id r with
    | some r' => match v.free id with
      | true => some ((t, v) :: r')
      | false => some ((t, .any) :: r')
    | none => none
def killHp (id : Nat) : Heap → Option Heap
  | [] => some []
  | (j, o) :: r => match killHp id r with
    | some r' => match Nat.beq j id with
      | true => some r'
      | false => match killO id o with
        | some o' => some ((j, o') :: r')
        | none => none
    | none => none
theorem killL_get {id : Nat} : ∀ {l m : List AVal}, killL id l = some m → m.length = l.length ∧ ∀ (i : Nat) (x : AVal), m[i]? = some x → x = .any ∨ (l[i]? = some x ∧ x.free id = true)
  | [], m, h => by simp [killL] at h; subst h; exact ⟨rfl, fun i x hx => by simp at hx⟩
  | y :: r, m, h => by
    simp only [killL] at h
    cases hr : killL id r with
    | none => rw [hr] at h; cases h
    | some r' =>
      rw [hr] at h
      obtain ⟨h1, h2⟩ := killL_get hr
      cases hf : y.free id with
      | true =>
        rw [hf] at h
        simp only [Option.some.injEq] at h
        subst h
        refine ⟨by simp [h1], fun i x hx => ?_⟩
        cases i with
        | zero => simp only [List.getElem?_cons_zero, Option.some.injEq] at hx; subst hx; exact .inr ⟨rfl, hf⟩
        | succ i => simp only [List.getElem?_cons_succ] at hx ⊢; exact h2 i x hx
      | false =>
        rw [hf] at h
        simp only [Option.some.injEq] at h
        subst h
        refine ⟨by simp [h1], fun i x hx => ?_⟩
        cases i with
        | zero => simp only [List.getElem?_cons_zero, Option.some.injEq] at hx; subst hx; exact .inl rfl
        | succ i => simp only [List.getElem?_cons_succ] at hx ⊢; exact h2 i x hx
theorem killL_some (id : Nat) : ∀ l : List AVal, ∃ m, killL id l = some m
  | [] => ⟨[], rfl⟩
  | y :: r => by
    obtain ⟨m, hm⟩ := killL_some id r
    simp only [killL, hm]
    cases y.free id <;> exact ⟨_, rfl⟩
theorem killO_some (id : Nat) (o : AObj) : ∃ o', killO id o = some o' := by
  cases o with
  | box l tag => obtain ⟨m, hm⟩ := killL_some id l; exact ⟨.box m tag, by simp [killO, hm]⟩
  | row t sz n f => exact ⟨_, rfl⟩
  | mp l => obtain ⟨m, hm⟩ := killM_some id l; exact ⟨.mp m, by simp [killO, hm]⟩
  | vrow t l => obtain ⟨m, hm⟩ := killL_some id l; exact ⟨.vrow t m, by simp [killO, hm]⟩
  | dmp l => exact ⟨_, rfl⟩
theorem killE_look {id : Nat} : ∀ {env env' : Env}, killE id env = some env' → lk env' = killG id (lk env)
  | [], env', h => by simp [killE] at h; subst h; rfl
  | (t, v) :: r, env', h => by
    simp only [killE] at h
    cases hr : killE id r with
    | none => rw [hr] at h; cases h
    | some r' =>
      rw [hr] at h
      have ih := killE_look hr
      cases hf : v.free id with
      | true =>
        rw [hf] at h
        simp only [Option.some.injEq] at h
        subst h
        rw [lk_cons, lk_cons, ih]
        funext s
        unfold gput killG
        by_cases hs : s = t
        · simp [hs, hf]
        · simp [hs]
      | false =>
        rw [hf] at h
        simp only [Option.some.injEq] at h
        subst h
        rw [lk_cons, lk_cons, ih]
        funext s
        unfold gput killG
        by_cases hs : s = t
        · simp [hs, hf]
        · simp [hs]
theorem killHp_look {id : Nat} : ∀ {h h' : Heap}, killHp id h = some h' → lko h' = killH id (lko h)
  | [], h', e => by simp [killHp] at e; subst e; funext j; simp [killH, lookO]
  | (t, o) :: r, h', e => by
    simp only [killHp] at e
    cases hr : killHp id r with
    | none => rw [hr] at e; cases e
    | some r' =>
      rw [hr] at e
      have ih := killHp_look hr
      cases hb : Nat.beq t id with
      | true =>
        rw [hb] at e
        simp only [Option.some.injEq] at e
        subst e
        have := Nat.eq_of_beq_eq_true hb
        subst this
        rw [ih, lko_cons]
        funext j
        unfold killH hput
        by_cases hj : j = t
        · simp [hj]
        · simp [hj]
      | false =>
        rw [hb] at e
        simp only at e
        have hne : t ≠ id := fun h => by subst h; rw [beq_self] at hb; cases hb
        cases hk : killO id o with
        | none => rw [hk] at e; cases e
        | some o' =>
          rw [hk] at e
          simp only [Option.some.injEq] at e
          subst e
          rw [lko_cons, lko_cons, ih]
          funext j
          unfold killH hput
          by_cases hj : j = t
          · subst hj; simp [hne, hk]
          · simp [hj]
section
variable {C : Ctx} {L : Lay} {g : Nat → AVal} {h : Nat → Option AObj} {a : Act} {w w' : World}
/-- Object id (a row) becomes object d: in its own block, or in a new one. -/
theorem Rel.app (H : Rel C L g h a w) {id d : Nat} (hlid : d ∉ C.lid) {o0 o : AObj} (hid : h id = some o0) (he : ∀ t, (killG id g t).free d = true) (hh : ∀ j o, killH id h j = some o → j ≠ d ∧ o.free d = true)
    (hos : w'.os = w.os) (htp : w'.tape = w.tape) (hout : w'.output = w.output) (hsz : w.heap.size ≤ w'.heap.size) (hw : ∀ b, b < w.heap.size → some b ≠ L.blk id → w'.heap[b]? = w.heap[b]?)
    (nb : Option Nat) (nc : Nat) (hnb : ∀ b, nb = some b → b < w'.heap.size ∧ (some b = L.blk id ∨ w.heap.size ≤ b))
    (ho : ∀ gd', Stays w w' (good C L h w) gd' → RepO w' gd' (L.upd d nb nc) d o) :
    Rel C (L.upd d nb nc) (killG id g) (hput (killH id h) d o) a w' ∧ Stays w w' (good C L h w) (good C (L.upd d nb nc) (hput (killH id h) d o) w') := by
  have hkold : ∀ {j oj}, killH id h j = some oj → ∃ o', h j = some o' ∧ j ≠ id ∧ killO id o' = some oj := by
    intro j oj hj
    unfold killH at hj
    split at hj
    · cases hj
    · rename_i hne
      cases ho' : h j with
      | none => rw [ho'] at hj; cases hj
      | some o' => rw [ho'] at hj; exact ⟨o', rfl, hne, hj⟩
  have hgood : Stays w w' (good C L h w) (good C (L.upd d nb nc) (hput (killH id h) d o) w') := by
    intro b hlt hgb
    have hne : some b ≠ L.blk id := fun e => hgb.2.2 ⟨id, o0, hid, e.symm⟩
    refine ⟨⟨Nat.lt_of_lt_of_le hlt hsz, hgb.2.1, ?_⟩, hw b hlt hne⟩
    rintro ⟨i, oi, h1, h2⟩
    unfold hput at h1
    split at h1
    · rename_i hi
      simp only [Lay.upd, hi, if_true] at h2
      rcases (hnb b h2).2 with e | e
      · exact hne e
      · omega
    · rename_i hi
      simp only [Lay.upd, hi, if_false] at h2
      obtain ⟨o', e1, _, _⟩ := hkold h1
      exact hgb.2.2 ⟨i, o', e1, h2⟩
  refine ⟨?_, hgood⟩
  have hL : ∀ i, (i != d) = true → (L.upd d nb nc).blk i = L.blk i ∧ (L.upd d nb nc).cap i = L.cap i := by
    intro i hi
    have : i ≠ d := by simpa using hi
    simp [Lay.upd, this]
  have hp : ∀ i, (i != d) = false → i = d := by intro i hi; simpa using hi
  have hown := fun b e => H.own0 id o0 b hid e
  have ht : ∀ b, b < w.heap.size → L.old b → (L.upd d nb nc).old b ∧ w'.heap[b]? = w.heap[b]? := fun b hlt hb => ⟨hb, hw b hlt (fun e => H.old_own hb hid e.symm)⟩
  exact {
    below := H.below.next hos htp hout hsz fun k hk hnl => hw k (Nat.lt_of_lt_of_le hk H.below.size) (fun e => by rcases (hown k e.symm).1 with h1 | h1; omega; exact hnl h1)
    top := H.top
    size := H.size
    defers := H.defers
    slot := fun t => by
      have hs := H.slot t
      have hf := he t
      unfold killG at hf ⊢
      split
      · rename_i e
        rw [e] at hf
        exact hs.mono hsz (· != d) hL ht hgood (fun i hi => by rw [hp i hi]; exact hf)
      · exact .any
    obj := fun j oj hj => by
      unfold hput at hj
      split at hj
      · rename_i hi
        cases hj
        rw [hi]
        exact ho _ hgood
      · rename_i hi
        obtain ⟨o', e1, e2, e3⟩ := hkold hj
        have hfree := (hh j oj hj).2
        have hro := H.obj j o' e1
        have hblk : ∀ b, L.blk j = some b → w'.heap[b]? = w.heap[b]? := fun b hb => hw b (H.own0 j o' b e1 hb).2 (fun e => e2 (H.inj j id o' o0 b e1 hid hb e.symm))
        have hjd : (j != d) = true := by simpa using hi
        cases o' with
        | row t sz n f =>
          simp only [killO, Option.some.injEq] at e3
          subst e3
          exact hro.mono hsz hgood hblk ht (· != d) hL hjd (fun _ _ => rfl)
        | dmp l =>
          simp only [killO, Option.some.injEq] at e3
          subst e3
          exact hro.mono hsz hgood hblk ht (· != d) hL hjd (fun _ _ => rfl)
        | vrow tv l =>
          simp only [killO] at e3
          cases hk : killL id l with
          | none => rw [hk] at e3; cases e3
          | some m =>
            rw [hk] at e3
            simp only [Option.some.injEq] at e3
            subst e3
            obtain ⟨k1, k2⟩ := killL_get hk
            cases hro with
            | vrow0 hb1 hc =>
              obtain rfl : m = [] := by cases m with | nil => rfl | cons _ _ => simp at k1
              exact .vrow0 ((hL j hjd).1.trans hb1) ((hL j hjd).2.trans hc)
            | vrow hb1 hheap hn hm hz h1 hrep =>
              have hc := (hL j hjd).2
              refine .vrow ((hL j hjd).1.trans hb1) ((hblk _ hb1).trans hheap) (by rw [hc]; omega) (by rw [hc]; exact hm) (by rw [hc]; exact hz) (fun i hi => h1 i (by omega)) (fun i x hx => ?_)
              rcases k2 i x hx with rfl | ⟨e1, _⟩
              · exact .any
              · exact (hrep i x e1).mono hsz (· != d) hL ht hgood (fun i' hi' => by rw [hp i' hi']; exact AVal.freeL_get hfree i x hx)
        | mp l =>
          simp only [killO] at e3
          cases hk : killM id l with
          | none => rw [hk] at e3; cases e3
          | some m =>
            rw [hk] at e3
            simp only [Option.some.injEq] at e3
            subst e3
            obtain ⟨k1, k2⟩ := killM_get hk
            cases hro with
            | mp hb1 hheap hz hkk h1 hrep =>
              refine .mp ((hL j hjd).1.trans hb1) ((hblk _ hb1).trans hheap) (by omega) (fun i x e hx he => ?_) h1 (fun i x e hx he => ?_)
              · obtain ⟨y, hy, _⟩ := k2 i x hx
                exact hkk i (x.1, y) e hy he
              · obtain ⟨y, hy, hor⟩ := k2 i x hx
                rcases hor with h0 | ⟨rfl, _⟩
                · rw [h0]; exact .any
                · exact (hrep i (x.1, x.2) e hy he).mono hsz (· != d) hL ht hgood (fun i' hi' => by rw [hp i' hi']; exact freeM_get hfree i x hx)
        | box l tag =>
          simp only [killO] at e3
          cases hk : killL id l with
          | none => rw [hk] at e3; cases e3
          | some m =>
            rw [hk] at e3
            simp only [Option.some.injEq] at e3
            subst e3
            obtain ⟨k1, k2⟩ := killL_get hk
            cases hro with
            | box htag hb1 hheap hz h1 hrep =>
              refine .box htag ((hL j hjd).1.trans hb1) ((hblk _ hb1).trans hheap) (by omega) (fun i hi => h1 i (by omega)) (fun i x hx => ?_)
              rcases k2 i x hx with rfl | ⟨e1, _⟩
              · exact .any
              · exact (hrep i x e1).mono hsz (· != d) hL ht hgood (fun i' hi' => by rw [hp i' hi']; exact AVal.freeL_get hfree i x hx)
    inj := fun i j oi oj b hi hj hbi hbj => by
      unfold hput at hi hj
      simp only [Lay.upd] at hbi hbj
      by_cases h1 : i = d
      · by_cases h2 : j = d
        · rw [h1, h2]
        · rw [if_neg h2] at hj hbj
          rw [if_pos h1] at hbi
          obtain ⟨o', e1, e2, _⟩ := hkold hj
          rcases (hnb b hbi).2 with e | e
          · exact (e2 (H.inj j id o' o0 b e1 hid hbj e.symm)).elim
          · have := (H.own0 j o' b e1 hbj).2; omega
      · rw [if_neg h1] at hi hbi
        obtain ⟨o', e1, e2, _⟩ := hkold hi
        by_cases h2 : j = d
        · rw [if_pos h2] at hbj
          rcases (hnb b hbj).2 with e | e
          · exact (e2 (H.inj i id o' o0 b e1 hid hbi e.symm)).elim
          · have := (H.own0 i o' b e1 hbi).2; omega
        · rw [if_neg h2] at hj hbj
          obtain ⟨o'', e1', _, _⟩ := hkold hj
          exact H.inj i j o' o'' b e1 e1' hbi hbj
    own0 := fun i oi b hi hbi => by
      unfold hput at hi
      simp only [Lay.upd] at hbi
      by_cases h1 : i = d
      · rw [if_pos h1] at hbi
        obtain ⟨e1, e2⟩ := hnb b hbi
        refine ⟨?_, e1⟩
        rcases e2 with e | e
        · exact (hown b e.symm).1
        · exact .inl (Nat.le_trans H.below.size e)
      · rw [if_neg h1] at hi hbi
        obtain ⟨o', e1, _, _⟩ := hkold hi
        have := H.own0 i o' b e1 hbi
        exact ⟨this.1, Nat.lt_of_lt_of_le this.2 hsz⟩
    kept := fun i oi hl hi => by
      have hne : i ≠ d := fun e => hlid (e ▸ hl)
      unfold hput at hi
      rw [if_neg hne] at hi
      simp only [Lay.upd, if_neg hne]
      obtain ⟨o', e1, _, _⟩ := hkold hi
      exact H.kept i o' hl e1
    lidn := H.lidn }
end
def freeEnv (id : Nat) : Env → Bool
  | [] => true
  | (_, v) :: r => v.free id && freeEnv id r
def freeHeap (id : Nat) : Heap → Bool
  | [] => true
  | (j, o) :: r => !Nat.beq j id && o.free id && freeHeap id r
theorem freeEnv_look {id : Nat} : ∀ {env : Env}, freeEnv id env = true → ∀ t, (look t env).free id = true
  | [], _, t => rfl
  | (j, v) :: r, h, t => by
    simp only [freeEnv, Bool.and_eq_true] at h
    rw [look_cons]
    split
    · exact h.1
    · exact freeEnv_look h.2 t
theorem freeHeap_look {id : Nat} : ∀ {h : Heap}, freeHeap id h = true → ∀ j o, lookO j h = some o → j ≠ id ∧ o.free id = true
  | [], _, j, o, e => by simp [lookO] at e
  | (k, v) :: r, h, j, o, e => by
    simp only [freeHeap, Bool.and_eq_true] at h
    rw [lookO_cons] at e
    split at e
    · rename_i hj
      cases e
      rw [hj]
      exact ⟨beq_ne h.1.1, h.1.2⟩
    · exact freeHeap_look h.2 j o e
end Towline
