/- The engine: functions that are lent objects of the caller's: what they make of them. Over any program. -/
import Derived.Test.YtjdmnfjgmbnlbaaGreatDoorEngH1
namespace Towline
open Go Go.RowKit
set_option linter.unusedVariables false

def memN (t : Nat) : List Nat → Bool
  | [] => false
  | j :: r => match Nat.beq j t with | true => true | false => memN t r
theorem memN_of {t : Nat} : ∀ {l : List Nat}, memN t l = true ↔ t ∈ l
  | [] => by simp [memN]
  | j :: r => by
    have eq : memN t (j :: r) = (match Nat.beq j t with | true => true | false => memN t r) := rfl
    rw [eq]
    by_cases h : j = t
    · subst h; simp
    · rw [beq_false h]; simp [memN_of, Ne.symm h]
def restrictH (rh : List Nat) (h : Nat → Option AObj) : Nat → Option AObj := fun t => match memN t rh with | true => h t | false => none
theorem restrictH_some {h : Nat → Option AObj} {rh : List Nat} {id : Nat} {o : AObj} (e : restrictH rh h id = some o) : h id = some o := by
  unfold restrictH at e
  cases hm : memN id rh with
  | true => rw [hm] at e; exact e
  | false => rw [hm] at e; cases e
/-- Objects are given up. -/
def dropH (ids : List Nat) : Heap → Heap
  | [] => []
  | (i, o) :: r => match memN i ids with | true => dropH ids r | false => (i, o) :: dropH ids r
theorem lookO_dropH (ids : List Nat) : ∀ (heap : Heap) (i : Nat), lookO i (dropH ids heap) = if memN i ids then none else lookO i heap
  | [], i => by simp [dropH, lookO]
  | (j, o) :: r, i => by
    have ih := lookO_dropH ids r i
    have e1 : lookO i ((j, o) :: r) = (match Nat.beq j i with | true => some o | false => lookO i r) := rfl
    have e2 : dropH ids ((j, o) :: r) = (match memN j ids with | true => dropH ids r | false => (j, o) :: dropH ids r) := rfl
    rw [e1, e2]
    cases hm : memN j ids with
    | true =>
      simp only
      rw [ih]
      cases hb : Nat.beq j i with
      | true =>
        have := Nat.eq_of_beq_eq_true hb
        subst this
        simp [hm]
      | false => rfl
    | false =>
      have e3 : lookO i ((j, o) :: dropH ids r) = (match Nat.beq j i with | true => some o | false => lookO i (dropH ids r)) := rfl
      simp only
      rw [e3]
      cases hb : Nat.beq j i with
      | true =>
        have := Nat.eq_of_beq_eq_true hb
        subst this
        simp [hm]
      | false => exact ih
def lookW {α : Type} (t : Nat) : List (Nat × α) → Option α
  | [] => none
  | (j, v) :: r => match Nat.beq j t with | true => some v | false => lookW t r
theorem lookW_cons {α : Type} (j : Nat) (v : α) (r : List (Nat × α)) (t : Nat) : lookW t ((j, v) :: r) = if t = j then some v else lookW t r := by
  have eq : lookW t ((j, v) :: r) = (match Nat.beq j t with | true => some v | false => lookW t r) := rfl
  rw [eq]
  by_cases h : t = j
  · subst h; simp
  · rw [beq_false (fun e => h e.symm)]; simp [h]
/-- Lists of numbers, made. -/
def forceN (k : List Nat → Prop) : List Nat → Prop
  | [] => k []
  | x :: r => forceN (fun l => k (x :: l)) r
theorem forceN_eq : ∀ {l : List Nat} {k : List Nat → Prop}, forceN k l → k l
  | [], k, h => h
  | x :: r, k, h => forceN_eq (l := r) h
def forceH (k : Heap → Prop) : Heap → Prop
  | [] => k []
  | x :: r => forceH (fun l => k (x :: l)) r
theorem forceH_eq : ∀ {l : Heap} {k : Heap → Prop}, forceH k l → k l
  | [], k, h => h
  | x :: r, k, h => forceH_eq (l := r) h

section
variable {C : Ctx} {L : Lay} {a : Act} {w : World}
/-- Objects may be given up. -/
theorem Rel.drop {g : Nat → AVal} {h h' : Nat → Option AObj} (H : Rel C L g h a w) (hs : ∀ i o, h' i = some o → h i = some o) : Rel C L g h' a w := by
  have hg : ∀ b, good C L h w b → good C L h' w b := fun b hb => ⟨hb.1, hb.2.1, fun ⟨i, o, h1, h2⟩ => hb.2.2 ⟨i, o, hs i o h1, h2⟩⟩
  exact { H with
    slot := fun t => (H.slot t).mono1 (Nat.le_refl _) (fun b _ hb => ⟨hg b hb, rfl⟩) (fun _ _ => rfl)
    obj := fun i o e => (H.obj i o (hs i o e)).mono (Nat.le_refl _) (fun b _ hb => ⟨hg b hb, rfl⟩) (fun _ _ => rfl) (fun b _ hb => ⟨hb, rfl⟩) (fun _ => true) (fun _ _ => ⟨rfl, rfl⟩) rfl (fun _ h => by cases h)
    inj := fun i j oi oj b h1 h2 => H.inj i j oi oj b (hs i oi h1) (hs j oj h2)
    own0 := fun i o b h1 => H.own0 i o b (hs i o h1)
    kept := fun i o hl h1 => H.kept i o hl (hs i o h1) }

end
/-- All names are unlike. -/
def nodupN : List Nat → Bool
  | [] => true
  | x :: r => match memN x r with | true => false | false => nodupN r
theorem nodupN_ok : ∀ {l : List Nat}, nodupN l = true → l.Nodup
  | [], _ => List.nodup_nil
  | x :: r, h => by
    simp only [nodupN] at h
    cases hm : memN x r with
    | true => rw [hm] at h; cases h
    | false =>
      rw [hm] at h
      exact List.nodup_cons.2 ⟨fun e => (by rw [memN_of.2 e] at hm; cases hm), nodupN_ok h⟩
theorem lookW_mem {α : Type} {t : Nat} {x : α} : ∀ {l : List (Nat × α)}, lookW t l = some x → (t, x) ∈ l
  | [], h => by cases h
  | (j, v) :: r, h => by
    rw [lookW_cons] at h
    split at h
    · rename_i e; cases h; rw [e]; exact List.mem_cons_self
    · exact List.mem_cons_of_mem _ (lookW_mem h)
theorem lookW_none {α : Type} {t : Nat} : ∀ {l : List (Nat × α)}, lookW t l = none → ∀ x, (t, x) ∉ l
  | [], _, x, h => by cases h
  | (j, v) :: r, h, x, hx => by
    rw [lookW_cons] at h
    split at h
    · cases h
    · rename_i e
      rcases List.mem_cons.1 hx with h1 | h1
      · cases h1; exact e rfl
      · exact lookW_none h x h1
mutual
/-- A value, its objects under other names; what has none is forgotten. -/
def AVal.map (τ : List (Nat × Nat)) : AVal → AVal
  | .any => .any
  | .d x => .d x
  | .agg l => .agg (AVal.mapL τ l)
  | .tup l => .tup (AVal.mapL τ l)
  | .ptr i o => match lookW i τ with | some j => .ptr j o | none => .any
  | .eptr a b c q e => .eptr a b c q e
  | .rsl i s o n => match lookW i τ with | some j => .rsl j s o n | none => .any
  | .rptr i s k o => match lookW i τ with | some j => .rptr j s k o | none => .any
  | .mref i => match lookW i τ with | some j => .mref j | none => .any
  | .fn f l => .fn f (AVal.mapF τ l)
  | .fresh .. => .any
def AVal.mapL (τ : List (Nat × Nat)) : List AVal → List AVal
  | [] => []
  | x :: r => AVal.map τ x :: AVal.mapL τ r
/-- What a closure has taken hold of: objects, and what looks at no memory. -/
def AVal.mapF (τ : List (Nat × Nat)) : List AVal → List AVal
  | [] => []
  | x :: r => (match x with
    | .ptr i o => (match lookW i τ with | some j => .ptr j o | none => .any)
    | .rsl i s o n => (match lookW i τ with | some j => .rsl j s o n | none => .any)
    | .rptr i s k o => (match lookW i τ with | some j => .rptr j s k o | none => .any)
    | .d x => (match x.flat with | true => .d x | false => .any)
    | _ => .any) :: AVal.mapF τ r
end
theorem AVal.mapL_eq (τ : List (Nat × Nat)) : ∀ l, AVal.mapL τ l = l.map (AVal.map τ)
  | [] => rfl
  | x :: r => by rw [AVal.mapL, AVal.mapL_eq τ r]; rfl
theorem AVal.mapF_get (τ : List (Nat × Nat)) : ∀ (l : List AVal) (i : Nat) (y : AVal), (AVal.mapF τ l)[i]? = some y → ∃ x, l[i]? = some x ∧ (y = .any ∨ (∃ d, x = .d d ∧ d.flat = true ∧ y = x) ∨ (y = x.map τ ∧ ((∃ i o, x = .ptr i o) ∨ (∃ i s o n, x = .rsl i s o n) ∨ ∃ i s k o, x = .rptr i s k o)))
  | [], i, y, h => by simp [AVal.mapF] at h
  | x :: r, 0, y, h => by
    simp only [AVal.mapF, List.getElem?_cons_zero, Option.some.injEq] at h
    refine ⟨x, rfl, ?_⟩
    subst h
    cases x with
    | d d =>
      cases hf : d.flat with
      | true => right; left; exact ⟨d, rfl, hf, by simp [hf]⟩
      | false => left; simp [hf]
    | ptr i o => right; right; exact ⟨by rw [AVal.map], .inl ⟨_, _, rfl⟩⟩
    | rsl i s o n => right; right; exact ⟨by rw [AVal.map], .inr (.inl ⟨_, _, _, _, rfl⟩)⟩
    | rptr i s k o => right; right; exact ⟨by rw [AVal.map], .inr (.inr ⟨_, _, _, _, rfl⟩)⟩
    | _ => left; rfl
  | x :: r, i + 1, y, h => by
    simp only [AVal.mapF, List.getElem?_cons_succ] at h ⊢
    exact AVal.mapF_get τ r i y h
theorem AVal.mapF_len (τ : List (Nat × Nat)) : ∀ l : List AVal, (AVal.mapF τ l).length = l.length
  | [] => rfl
  | x :: r => by simp [AVal.mapF, AVal.mapF_len τ r]
def AObj.map (τ : List (Nat × Nat)) : AObj → AObj
  | .box l tag => .box (AVal.mapL τ l) tag
  | .row t sz n f => .row t sz n f
  | .mp l => .mp (l.map fun x => (x.1, x.2.map τ))
  | .vrow t l => .vrow t (AVal.mapL τ l)
  | .dmp l => .dmp l
/-- L' has under the new names what L has under the old ones. -/
def MapOk (τ : List (Nat × Nat)) (L L' : Lay) : Prop := ∀ i j, lookW i τ = some j → L'.blk j = L.blk i ∧ L'.cap j = L.cap i
/-- A value that is a name alone. -/
def AVal.nm : AVal → Bool
  | .any => true
  | .ptr .. => true
  | .rsl .. => true
  | .rptr .. => true
  | _ => false
theorem RepA.nm {w w' : World} {L : Lay} {gd gd' : Nat → Prop} {x : AVal} {v : Value} (h : RepA w L gd x v) (hx : x.nm = true) : RepA w' L gd' x v := by
  cases h with
  | any => exact .any
  | ptr h => exact .ptr h
  | rsl h1 h2 h3 => exact .rsl h1 h2 h3
  | rptr h => exact .rptr h
  | _ => cases hx
theorem RepA.map {w : World} {L L' : Lay} {τ : List (Nat × Nat)} (hm : MapOk τ L L') {gd : Nat → Prop} {x : AVal} {v : Value} (h : RepA w L gd x v) : ∀ {gd' : Nat → Prop}, (∀ b, gd b → gd' b) → RepA w L' gd' (x.map τ) v := by
  induction h with
  | any => intro _ _; exact .any
  | d h => intro _ hg; exact .d (h.mono (Nat.le_refl _) fun b _ hb => ⟨hg b hb, rfl⟩)
  | agg hz h1 h ih =>
    intro _ hg
    rw [AVal.map, AVal.mapL_eq]
    refine .agg (by simpa using hz) (fun i hi => h1 i (by simpa using hi)) fun i x hx => ?_
    rw [List.getElem?_map] at hx
    obtain ⟨y, hy, rfl⟩ := Option.map_eq_some_iff.1 hx
    exact ih i y hy hg
  | tup hz h ih =>
    intro _ hg
    rw [AVal.map, AVal.mapL_eq]
    refine .tup (by simpa using hz) fun i x hx => ?_
    rw [List.getElem?_map] at hx
    obtain ⟨y, hy, rfl⟩ := Option.map_eq_some_iff.1 hx
    exact ih i y hy hg
  | @ptr good id off b h =>
    intro _ hg
    rw [AVal.map]
    cases hl : lookW id τ with
    | none => exact .any
    | some j => exact .ptr ((hm id j hl).1.trans h)
  | eptr h hk => intro _ hg; exact .eptr (h.mono (Nat.le_refl _) fun b _ hb => ⟨hg b hb, rfl⟩) hk
  | @rsl good id sz o n ad hcap hbl ha =>
    intro _ hg
    rw [AVal.map]
    cases hl : lookW id τ with
    | none => exact .any
    | some j =>
      obtain ⟨e1, e2⟩ := hm id j hl
      have := RepA.rsl (w := w) (L := L') (good := good) (id := j) (sz := sz) (o := o) (n := n) (ad := ad) (by rw [e2]; exact hcap) (by rw [e1]; exact hbl) (by rw [e1, e2]; exact ha)
      rw [e2] at this
      exact this.nm rfl
  | @rptr good id sz k off b h =>
    intro _ hg
    rw [AVal.map]
    cases hl : lookW id τ with
    | none => exact .any
    | some j => exact .rptr ((hm id j hl).1.trans h)
  | @mref good id b h =>
    intro _ hg
    rw [AVal.map]
    cases hl : lookW id τ with
    | none => exact .any
    | some j => exact .mref ((hm id j hl).1.trans h)
  | fn hz h ih =>
    intro gd' hg
    rw [AVal.map]
    refine .fn (by rw [AVal.mapF_len]; exact hz) fun i y hy => ?_
    obtain ⟨x, hx, hy⟩ := AVal.mapF_get τ _ i y hy
    rcases hy with rfl | ⟨d, rfl, hf, rfl⟩ | ⟨rfl, hk⟩
    · exact .any
    · cases h i _ hx with
      | d h => exact .d (h.flat' hf)
    · have h1 := h i x hx
      rcases hk with ⟨_, _, rfl⟩ | ⟨_, _, _, _, rfl⟩ | ⟨_, _, _, _, rfl⟩
      all_goals
        refine (ih i _ hx (gd' := fun _ => True) (fun _ _ => trivial)).nm ?_
        rw [AVal.map]
        split <;> rfl
theorem RepO.map {w : World} {L L' : Lay} {τ : List (Nat × Nat)} (hm : MapOk τ L L') {gd gd' : Nat → Prop} (hg : ∀ b, gd b → gd' b) {i j : Nat} (hb : L'.blk j = L.blk i) (hc : L'.cap j = L.cap i) {o : AObj} (h : RepO w gd L i o) : RepO w gd' L' j (o.map τ) := by
  cases h with
  | box h0 h1 h2 h3 h4 h5 =>
    rw [AObj.map, AVal.mapL_eq]
    refine .box h0 (hb.trans h1) h2 (by simpa using h3) (fun i hi => h4 i (by simpa using hi)) fun i x hx => ?_
    rw [List.getElem?_map] at hx
    obtain ⟨y, hy, rfl⟩ := Option.map_eq_some_iff.1 hx
    exact (h5 i y hy).map hm hg
  | mp h1 h2 h3 h4 h5 h6 =>
    refine .mp (hb.trans h1) h2 (by simpa using h3) (fun i x e hx he => ?_) h5 fun i x e hx he => ?_
    all_goals (rw [List.getElem?_map] at hx; obtain ⟨y, hy, rfl⟩ := Option.map_eq_some_iff.1 hx)
    · exact h4 i y e hy he
    · exact (h6 i y e hy he).map hm hg
  | vrow0 h1 h2 => rw [AObj.map, AVal.mapL_eq]; exact .vrow0 (hb.trans h1) (hc.trans h2)
  | vrow h1 h2 h3 h4 h5 h6 h7 =>
    rw [AObj.map, AVal.mapL_eq]
    refine .vrow (hb.trans h1) h2 (by rw [List.length_map]; exact hc ▸ h3) (hc ▸ h4) (hc ▸ h5) (fun i hi => h6 i (by simpa using hi)) fun i x hx => ?_
    rw [List.getElem?_map] at hx
    obtain ⟨y, hy, rfl⟩ := Option.map_eq_some_iff.1 hx
    exact (h7 i y hy).map hm hg
  | dmp h1 h2 h3 h4 h5 => exact .dmp (hb.trans h1) h2 h3 h4 fun i x e hx he => (h5 i x e hx he).mono (Nat.le_refl _) fun b _ hb => ⟨hg b hb, rfl⟩
  | row0 h1 h2 => exact .row0 (hb.trans h1) (hc.trans h2)
  | row h1 h2 h3 h4 h5 h6 h7 h8 h9 h10 => exact .row (hb.trans h1) h2 (hc ▸ h3) (hc ▸ h4) (hc ▸ h5) h6 (fun k hk j x hx => (h7 k hk j x hx).mono (Nat.le_refl _) fun b _ hb => ⟨hg b hb, rfl⟩) h8 h9 fun m hm => hc.trans (h10 m hm)
/-- The blocks that may be looked at behind a call. -/
def lgood (w w' : World) (R : Nat → Prop) (L : Lay) (hl : Heap) (L' : Lay) (hl' : Heap) (b : Nat) : Prop :=
  b < w'.heap.size ∧ (R b ∨ w.heap.size ≤ b ∨ owned L (lko hl) b) ∧ ¬ owned L' (lko hl') b
/-- What has become of the objects that were lent. -/
structure LPost (w w' : World) (R : Nat → Prop) (L : Lay) (hl : Heap) (L' : Lay) (hl' : Heap) : Prop where
  below : BelowL (owned L (lko hl)) w w'
  obj : ∀ id o, lookO id hl' = some o → RepO w' (lgood w w' R L hl L' hl') L' id o
  inj : ∀ i j oi oj b, lookO i hl' = some oi → lookO j hl' = some oj → L'.blk i = some b → L'.blk j = some b → i = j
  own : ∀ id o b, lookO id hl' = some o → L'.blk id = some b → (w.heap.size ≤ b ∨ owned L (lko hl) b) ∧ b < w'.heap.size
  kept : ∀ id o o', lookO id hl = some o → lookO id hl' = some o' → L'.blk id = L.blk id ∧ L'.cap id = L.cap id
/-- A contract of a function that is lent objects: called with such values and such objects it returns such a value, the objects then being such ones. -/
def LSpec (P : Program) (f : FuncId) (args : List AVal) (hl : Heap) (post : AVal → Heap → Prop) : Prop :=
  (∃ fn c, P.funcs[f]? = some fn ∧ (fn.name == "runtime.NumGoroutine") = false ∧ fn.body = some c) ∧
  ∀ (w : World) (R : Nat → Prop) (L : Lay) (vs : Array Value), GoodW w R → (∀ b, R b → b < w.heap.size) → vs.size = args.length →
    (∀ b, L.old b ↔ b < w.heap.size ∧ ¬ owned L (lko hl) b) →
    (∀ i x, args[i]? = some x → RepA w L R x (vs.getD i undef)) →
    (∀ id o, lookO id hl = some o → RepO w R L id o) →
    (∀ i j oi oj b, lookO i hl = some oi → lookO j hl = some oj → L.blk i = some b → L.blk j = some b → i = j) →
    (∀ id o b, lookO id hl = some o → L.blk id = some b → b < w.heap.size ∧ ¬ R b) →
    Calls P f vs w fun e w' => ∃ v r hl' L', e = .returned v ∧ post r hl' ∧ LPost w w' R L hl L' hl' ∧ RepA w' L' (lgood w w' R L hl L' hl') r v
theorem LSpec.mono {P : Program} {f : FuncId} {args : List AVal} {hl : Heap} {post post' : AVal → Heap → Prop} (h : LSpec P f args hl post) (hp : ∀ r hl', post r hl' → post' r hl') : LSpec P f args hl post' :=
  ⟨h.1, fun w R L vs h0 h1 h2 h3 h4 h5 h6 h7 => (h.2 w R L vs h0 h1 h2 h3 h4 h5 h6 h7).mono fun e w' ⟨v, r, hl', L', k1, k2, k3⟩ => ⟨v, r, hl', L', k1, hp _ _ k2, k3⟩⟩
/-- The lay-out under the names that the called function has. -/
def Lay.lent (w : World) (L : Lay) (σi : List (Nat × Nat)) (hl : Heap) : Lay :=
  ⟨fun j => match lookW j σi with | some i => L.blk i | none => none, fun j => match lookW j σi with | some i => L.cap i | none => 0,
   fun b => b < w.heap.size ∧ ¬ ∃ id o, lookO id hl = some o ∧ (match lookW id σi with | some i => L.blk i | none => none) = some b⟩
def Lay.back (L L' : Lay) (τn : List (Nat × Nat)) : Lay :=
  ⟨fun i => match lookW i τn with | some j => L'.blk j | none => L.blk i, fun i => match lookW i τn with | some j => L'.cap j | none => L.cap i, L.old⟩
/-- Which objects are lent, and under which names. -/
structure Lends (h : Nat → Option AObj) (σ σi : List (Nat × Nat)) (hl : Heap) : Prop where
  inv : ∀ i j, lookW i σ = some j ↔ lookW j σi = some i
  from_ : ∀ j o, lookO j hl = some o → ∃ i o0, lookW j σi = some i ∧ h i = some o0 ∧ o = o0.map σ
  to : ∀ i j, lookW i σ = some j → ∃ o, lookO j hl = some o
section
variable {C : Ctx} {L : Lay} {g : Nat → AVal} {h : Nat → Option AObj} {a : Act} {w : World} {σ σi : List (Nat × Nat)} {hl : Heap}
theorem Lends.owned (hL : Lends h σ σi hl) {b : Nat} (hb : owned (L.lent w σi hl) (lko hl) b) : ∃ i j o, lookW i σ = some j ∧ h i = some o ∧ L.blk i = some b := by
  obtain ⟨j, o, h1, h2⟩ := hb
  obtain ⟨i, o0, h3, h4, _⟩ := hL.from_ j o h1
  simp only [Lay.lent, h3] at h2
  exact ⟨i, j, o0, (hL.inv i j).2 h3, h4, h2⟩
theorem Lends.mapOk (hL : Lends h σ σi hl) : MapOk σ L (L.lent w σi hl) := fun i j hij => by
  simp [Lay.lent, (hL.inv i j).1 hij]
/-- A call that is lent objects. -/
theorem Rel.lend (H : Rel C L g h a w) (hL : Lends h σ σi hl) {P : Program} {f : FuncId} {args : List AVal} {post : AVal → Heap → Prop} (hs : LSpec P f (args.map (AVal.map σ)) hl post) {vs : Array Value} (hz : vs.size = args.length) (hargs : ∀ i x, args[i]? = some x → RepA w L (good C L h w) x (vs.getD i undef)) :
    Calls P f vs w fun e w' => ∃ v r hl' L', e = .returned v ∧ post r hl' ∧ LPost w w' (good C L h w) (L.lent w σi hl) hl L' hl' ∧ RepA w' L' (lgood w w' (good C L h w) (L.lent w σi hl) hl L' hl') r v := by
  refine hs.2 w (good C L h w) (L.lent w σi hl) vs H.goodW (fun b hb => hb.1) (by simpa using hz) (fun b => Iff.rfl) (fun i x hx => ?_) (fun j o ho => ?_) (fun i j oi oj b h1 h2 h3 h4 => ?_) (fun j o b h1 h2 => ?_)
  · rw [List.getElem?_map] at hx
    obtain ⟨y, hy, rfl⟩ := Option.map_eq_some_iff.1 hx
    exact (hargs i y hy).map hL.mapOk fun _ h => h
  · obtain ⟨i, o0, h3, h4, rfl⟩ := hL.from_ j o ho
    exact (H.obj i o0 h4).map hL.mapOk (fun _ h => h) (by simp [Lay.lent, h3]) (by simp [Lay.lent, h3])
  · obtain ⟨i1, o1, k1, k2, _⟩ := hL.from_ i oi h1
    obtain ⟨i2, o2, k3, k4, _⟩ := hL.from_ j oj h2
    simp only [Lay.lent, k1] at h3
    simp only [Lay.lent, k3] at h4
    have := H.inj i1 i2 o1 o2 b k2 k4 h3 h4
    subst this
    have e1 := (hL.inv _ _).2 k1
    have e2 := (hL.inv _ _).2 k3
    rw [e1] at e2
    exact Option.some.inj e2
  · obtain ⟨i, o0, h3, h4, _⟩ := hL.from_ j o h1
    simp only [Lay.lent, h3] at h2
    exact ⟨(H.own0 i o0 b h4 h2).2, fun hg => hg.2.2 ⟨i, o0, h4, h2⟩⟩
/-- Behind such a call. -/
theorem Rel.back (H : Rel C L g h a w) (hL : Lends h σ σi hl) {w' : World} {L' : Lay} {hl' : Heap} (hp : LPost w w' (good C L h w) (L.lent w σi hl) hl L' hl') {τ τn : List (Nat × Nat)} {h' : Nat → Option AObj}
    (hτ : ∀ j i, lookW j τ = some i → (lookW j σi = some i ∧ (∃ o, lookO j hl' = some o) ∧ lookW i τn = none) ∨ lookW i τn = some j)
    (hτn : ∀ i j, lookW i τn = some j → i ∉ C.lid ∧ (∀ t, (g t).free i = true) ∧ ∀ k o, h k = some o → lookW k σ = none → k ≠ i ∧ o.free i = true)
    (hh : ∀ i o, h' i = some o → (∃ j o', lookW j τ = some i ∧ lookO j hl' = some o' ∧ o = o'.map τ) ∨ (h i = some o ∧ lookW i σ = none)) :
    Rel C (L.back L' τn) g h' a w' ∧ ∀ r v, RepA w' L' (lgood w w' (good C L h w) (L.lent w σi hl) hl L' hl') r v → RepA w' (L.back L' τn) (good C (L.back L' τn) h' w') (r.map τ) v := by
  have hown : ∀ {b}, owned (L.lent w σi hl) (lko hl) b → ∃ i j o, lookW i σ = some j ∧ h i = some o ∧ L.blk i = some b := fun hb => hL.owned hb
  have hrest : ∀ {i o b}, h i = some o → lookW i σ = none → L.blk i = some b → ¬ owned (L.lent w σi hl) (lko hl) b := by
    intro i o b h1 h2 h3 hb
    obtain ⟨i', j, o', k1, k2, k3⟩ := hown hb
    have := H.inj i i' o o' b h1 k2 h3 k3
    subst this
    rw [h2] at k1; cases k1
  have hgn : ∀ {b}, good C L h w b → ¬ owned (L.lent w σi hl) (lko hl) b := by
    intro b hg hb
    obtain ⟨i', j, o', k1, k2, k3⟩ := hown hb
    exact hg.2.2 ⟨i', o', k2, k3⟩
  have hmap : MapOk τ L' (L.back L' τn) := by
    intro j i hij
    rcases hτ j i hij with ⟨k1, ⟨o', k2⟩, k3⟩ | k1
    · obtain ⟨o, k4⟩ := hL.to i j ((hL.inv i j).2 k1)
      obtain ⟨e1, e2⟩ := hp.kept j o o' k4 k2
      simp only [Lay.back, k3, e1, e2, Lay.lent, k1, and_self]
    · simp only [Lay.back, k1, and_self]
  have hnew : ∀ {i o}, h i = some o → lookW i σ = none → lookW i τn = none := by
    intro i o h1 h2
    cases hn : lookW i τn with
    | none => rfl
    | some j => exact absurd rfl ((hτn i j hn).2.2 i o h1 h2).1
  have howned : ∀ {b}, owned (L.back L' τn) h' b → owned L' (lko hl') b ∨ ∃ i o, h i = some o ∧ lookW i σ = none ∧ L.blk i = some b := by
    rintro b ⟨i, o, h1, h2⟩
    rcases hh i o h1 with ⟨j, o', k1, k2, _⟩ | ⟨k1, k2⟩
    · left; exact ⟨j, o', k2, by rw [← (hmap j i k1).1]; exact h2⟩
    · right; refine ⟨i, o, k1, k2, ?_⟩
      simp only [Lay.back, hnew k1 k2] at h2
      exact h2
  have hlg : ∀ b, lgood w w' (good C L h w) (L.lent w σi hl) hl L' hl' b → good C (L.back L' τn) h' w' b := by
    rintro b ⟨h1, h2, h3⟩
    refine ⟨h1, ?_, fun ho => ?_⟩
    · rcases h2 with h2 | h2 | h2
      · exact h2.2.1
      · exact .inr (.inl (Nat.le_trans H.below.size h2))
      · obtain ⟨i', j, o', k1, k2, k3⟩ := hown h2
        exact .inr (H.own0 i' o' b k2 k3).1
    · rcases howned ho with ho | ⟨i, o, k1, k2, k3⟩
      · exact h3 ho
      · rcases h2 with h2 | h2 | h2
        · exact h2.2.2 ⟨i, o, k1, k3⟩
        · have := (H.own0 i o b k1 k3).2; omega
        · exact hrest k1 k2 k3 h2
  have hst : ∀ b, b < w.heap.size → good C L h w b → good C (L.back L' τn) h' w' b ∧ w'.heap[b]? = w.heap[b]? := by
    intro b hlt hg
    refine ⟨hlg b ⟨Nat.lt_of_lt_of_le hlt hp.below.size, .inl hg, fun ⟨i, o, k1, k2⟩ => ?_⟩, hp.below.block b hlt (hgn hg)⟩
    rcases (hp.own i o b k1 k2).1 with k3 | k3
    · omega
    · exact hgn hg k3
  have hLp : ∀ i, (lookW i τn).isNone = true → (L.back L' τn).blk i = L.blk i ∧ (L.back L' τn).cap i = L.cap i := by
    intro i hi
    have hi : lookW i τn = none := by simpa using hi
    simp only [Lay.back, hi, and_self]
  have hpf : ∀ i, (lookW i τn).isNone = false → ∃ j, lookW i τn = some j := by
    intro i hi
    cases hn : lookW i τn with
    | none => rw [hn] at hi; cases hi
    | some j => exact ⟨j, rfl⟩
  have ht : ∀ b, b < w.heap.size → L.old b → (L.back L' τn).old b ∧ w'.heap[b]? = w.heap[b]? := fun b hlt hb => ⟨hb, hp.below.block b hlt fun ho => by
    obtain ⟨i', j, o', k1, k2, k3⟩ := hown ho
    exact H.old_own hb k2 k3⟩
  refine ⟨?_, fun r v hr => hr.map hmap hlg⟩
  exact {
    below := H.below.next hp.below.os hp.below.tape hp.below.output hp.below.size fun k hk hnl => hp.below.block k (Nat.lt_of_lt_of_le hk H.below.size) fun ho => by
      obtain ⟨i', j, o', k1, k2, k3⟩ := hown ho
      rcases (H.own0 i' o' k k2 k3).1 with h1 | h1
      · omega
      · exact hnl h1
    top := H.top
    size := H.size
    defers := H.defers
    slot := fun t => (H.slot t).mono hp.below.size (fun i => (lookW i τn).isNone) hLp ht hst fun i hi => by
      obtain ⟨j, hj⟩ := hpf i hi
      exact (hτn i j hj).2.1 t
    obj := fun i o hi => by
      rcases hh i o hi with ⟨j, o', k1, k2, rfl⟩ | ⟨k1, k2⟩
      · exact (hp.obj j o' k2).map hmap hlg (hmap j i k1).1 (hmap j i k1).2
      · refine (H.obj i o k1).mono hp.below.size hst (fun b hb => hp.below.block b (H.own0 i o b k1 hb).2 (hrest k1 k2 hb)) ht (fun i => (lookW i τn).isNone) hLp (by simp [hnew k1 k2]) fun i' hi' => ?_
        obtain ⟨j, hj⟩ := hpf i' hi'
        exact ((hτn i' j hj).2.2 i o k1 k2).2
    inj := fun i i' o o' b h1 h2 h3 h4 => by
      rcases hh i o h1 with ⟨j, o1, k1, k2, rfl⟩ | ⟨k1, k2⟩
      · rw [(hmap j i k1).1] at h3
        rcases hh i' o' h2 with ⟨j', o2, k1', k2', rfl⟩ | ⟨k1', k2'⟩
        · rw [(hmap j' i' k1').1] at h4
          have := hp.inj j j' o1 o2 b k2 k2' h3 h4
          subst this
          rw [k1] at k1'
          exact Option.some.inj k1'
        · rw [(hLp i' (by simp [hnew k1' k2'])).1] at h4
          rcases (hp.own j o1 b k2 h3).1 with e | e
          · have := (H.own0 i' o' b k1' h4).2; omega
          · exact (hrest k1' k2' h4 e).elim
      · rw [(hLp i (by simp [hnew k1 k2])).1] at h3
        rcases hh i' o' h2 with ⟨j', o2, k1', k2', rfl⟩ | ⟨k1', k2'⟩
        · rw [(hmap j' i' k1').1] at h4
          rcases (hp.own j' o2 b k2' h4).1 with e | e
          · have := (H.own0 i o b k1 h3).2; omega
          · exact (hrest k1 k2 h3 e).elim
        · rw [(hLp i' (by simp [hnew k1' k2'])).1] at h4
          exact H.inj i i' o o' b k1 k1' h3 h4
    own0 := fun i o b h1 h2 => by
      rcases hh i o h1 with ⟨j, o1, k1, k2, rfl⟩ | ⟨k1, k2⟩
      · rw [(hmap j i k1).1] at h2
        obtain ⟨e1, e2⟩ := hp.own j o1 b k2 h2
        refine ⟨?_, e2⟩
        rcases e1 with e | e
        · exact .inl (Nat.le_trans H.below.size e)
        · obtain ⟨i', j', o', q1, q2, q3⟩ := hown e
          exact (H.own0 i' o' b q2 q3).1
      · rw [(hLp i (by simp [hnew k1 k2])).1] at h2
        obtain ⟨e1, e2⟩ := H.own0 i o b k1 h2
        exact ⟨e1, Nat.lt_of_lt_of_le e2 hp.below.size⟩
    kept := fun i o hl0 h1 => by
      have hn : lookW i τn = none := by
        cases hn : lookW i τn with
        | none => rfl
        | some j => exact absurd hl0 (hτn i j hn).1
      obtain ⟨e1, e2⟩ := hLp i (by simp [hn])
      rw [e1, e2]
      rcases hh i o h1 with ⟨j, o1, k1, k2, rfl⟩ | ⟨k1, k2⟩
      · rcases hτ j i k1 with ⟨q1, _, _⟩ | q1
        · obtain ⟨o2, q2⟩ := hL.to i j ((hL.inv i j).2 q1)
          obtain ⟨i', o0, q3, q4, _⟩ := hL.from_ j o2 q2
          rw [q1] at q3
          cases q3
          exact H.kept i o0 hl0 q4
        · rw [hn] at q1; cases q1
      · exact H.kept i o hl0 k1
    lidn := H.lidn }
end
/-- Values, made. -/
def nameOf : AVal → Option Nat
  | .ptr i _ => some i
  | .rsl i _ _ _ => some i
  | .rptr i _ _ _ => some i
  | .mref i => some i
  | _ => none
def partsOf : AVal → List AVal
  | .agg l => l
  | .tup l => l
  | .fn _ l => l
  | _ => []
/-- The objects that values lead to, in the order in which one comes upon them. -/
def reach : Nat → (Nat → Option AObj) → List AVal → List Nat → List Nat
  | 0, _, _, acc => acc
  | _ + 1, _, [], acc => acc
  | n + 1, h, x :: r, acc => match nameOf x with
    | some i => match memN i acc with
      | true => reach n h r acc
      | false => match h i with
        | some (.box l _) => reach n h (l ++ r) (acc ++ [i])
        | some (.row ..) => reach n h r (acc ++ [i])
        | some (.mp l) => reach n h (l.map (·.2) ++ r) (acc ++ [i])
        | some (.vrow _ l) => reach n h (l ++ r) (acc ++ [i])
        | some (.dmp _) => reach n h r (acc ++ [i])
        | none => reach n h r acc
    | none => reach n h (partsOf x ++ r) acc
mutual
def deepV (k : AVal → Prop) : AVal → Prop
  | .any => k .any
  | .d x => forceD k x
  | .agg l => deepL (fun l => k (.agg l)) l
  | .tup l => deepL (fun l => k (.tup l)) l
  | .ptr a b => k (.ptr a b)
  | .eptr a b c q e => k (.eptr a b c q e)
  | .rsl a b c q => k (.rsl a b c q)
  | .rptr a b c q => k (.rptr a b c q)
  | .mref a => k (.mref a)
  | .fn a l => deepL (fun l => k (.fn a l)) l
  | .fresh a b c q => k (.fresh a b c q)
def deepL (k : List AVal → Prop) : List AVal → Prop
  | [] => k []
  | x :: r => deepV (fun x => deepL (fun r => k (x :: r)) r) x
end
mutual
theorem deepV_eq : ∀ {v : AVal} {k : AVal → Prop}, deepV k v → k v
  | .any, k, h => h
  | .d x, k, h => by cases x <;> exact h
  | .agg l, k, h => deepL_eq (l := l) (k := fun l => k (.agg l)) h
  | .tup l, k, h => deepL_eq (l := l) (k := fun l => k (.tup l)) h
  | .ptr .., k, h => h
  | .eptr .., k, h => h
  | .rsl .., k, h => h
  | .rptr .., k, h => h
  | .mref .., k, h => h
  | .fn a l, k, h => deepL_eq (l := l) (k := fun l => k (.fn a l)) h
  | .fresh .., k, h => h
theorem deepL_eq : ∀ {l : List AVal} {k : List AVal → Prop}, deepL k l → k l
  | [], k, h => h
  | x :: r, k, h => by
    have h1 := deepV_eq (v := x) (k := fun x => deepL (fun r => k (x :: r)) r) h
    exact deepL_eq (l := r) (k := fun r => k (x :: r)) h1
end
/-- A map's list, made. -/
def deepMp (k : List (D × AVal) → Prop) : List (D × AVal) → Prop
  | [] => k []
  | (x, v) :: r => forceD (fun x' => match x' with | .d x' => deepV (fun v => deepMp (fun r => k ((x', v) :: r)) r) v | _ => False) x
theorem deepMp_eq : ∀ {l : List (D × AVal)} {k : List (D × AVal) → Prop}, deepMp k l → k l
  | [], k, h => h
  | (x, v) :: r, k, h => by
    have h0 : deepV (fun v => deepMp (fun r => k ((x, v) :: r)) r) v := by cases x <;> exact h
    exact deepMp_eq (l := r) (k := fun r => k ((x, v) :: r)) (deepV_eq (v := v) (k := fun v => deepMp (fun r => k ((x, v) :: r)) r) h0)
def deepO (k : AObj → Prop) : AObj → Prop
  | .mp l => deepMp (fun l => k (.mp l)) l
  | .box l tag => deepL (fun l => k (.box l tag)) l
  | .row t sz n f => k (.row t sz n f)
  | .vrow t l => deepL (fun l => k (.vrow t l)) l
  | .dmp l => k (.dmp l)
theorem deepO_eq {k : AObj → Prop} {o : AObj} (h : deepO k o) : k o := by
  cases o with
  | box l tag => exact deepL_eq (l := l) (k := fun l => k (.box l tag)) h
  | mp l => exact deepMp_eq (l := l) (k := fun l => k (.mp l)) h
  | row => exact h
  | vrow t l => exact deepL_eq (l := l) (k := fun l => k (.vrow t l)) h
  | dmp => exact h
def deepH (k : Heap → Prop) : Heap → Prop
  | [] => k []
  | (i, o) :: r => deepO (fun o => deepH (fun r => k ((i, o) :: r)) r) o
theorem deepH_eq : ∀ {l : Heap} {k : Heap → Prop}, deepH k l → k l
  | [], k, h => h
  | (i, o) :: r, k, h => by
    have h1 := deepO_eq (o := o) (k := fun o => deepH (fun r => k ((i, o) :: r)) r) h
    exact deepH_eq (l := r) (k := fun r => k ((i, o) :: r)) h1
def sig : List Nat → Nat → List (Nat × Nat)
  | [], _ => []
  | i :: r, n => (i, n) :: sig r (n + 1)
def sigI : List Nat → Nat → List (Nat × Nat)
  | [], _ => []
  | i :: r, n => (n, i) :: sigI r (n + 1)
theorem sig_ge : ∀ {S : List Nat} {n i j : Nat}, lookW i (sig S n) = some j → n ≤ j ∧ i ∈ S
  | [], n, i, j, h => by cases h
  | s :: r, n, i, j, h => by
    rw [sig, lookW_cons] at h
    split at h
    · rename_i e
      cases h
      exact ⟨Nat.le_refl _, by rw [e]; exact List.mem_cons_self⟩
    · have := sig_ge h
      exact ⟨by omega, List.mem_cons_of_mem _ this.2⟩
theorem sigI_mem : ∀ {S : List Nat} {n i j : Nat}, lookW j (sigI S n) = some i → i ∈ S ∧ n ≤ j
  | [], n, i, j, h => by cases h
  | s :: r, n, i, j, h => by
    rw [sigI, lookW_cons] at h
    split at h
    · rename_i e
      cases h
      exact ⟨List.mem_cons_self, by omega⟩
    · have := sigI_mem h
      exact ⟨List.mem_cons_of_mem _ this.1, by omega⟩
theorem sig_inv : ∀ {S : List Nat} {n : Nat}, S.Nodup → ∀ i j, lookW i (sig S n) = some j ↔ lookW j (sigI S n) = some i
  | [], n, _, i, j => by simp [sig, sigI, lookW]
  | s :: r, n, h, i, j => by
    obtain ⟨h1, h2⟩ := List.nodup_cons.1 h
    have ih := sig_inv (n := n + 1) h2 i j
    rw [sig, sigI, lookW_cons, lookW_cons]
    constructor
    · intro e
      split at e
      · rename_i hi
        cases e
        rw [if_pos rfl, hi]
      · have := (sig_ge e).1
        rw [if_neg (by omega)]
        exact ih.1 e
    · intro e
      split at e
      · rename_i hj
        cases e
        rw [if_pos rfl, hj]
      · have hm := (sigI_mem e).1
        have hne : i ≠ s := by intro e'; subst e'; exact h1 hm
        rw [if_neg hne]
        exact ih.2 e
def pickH (σ : List (Nat × Nat)) (h : Nat → Option AObj) : List Nat → Nat → Heap
  | [], _ => []
  | i :: r, n => match h i with
    | some o => (n, o.map σ) :: pickH σ h r (n + 1)
    | none => pickH σ h r (n + 1)
def allIn (h : Nat → Option AObj) : List Nat → Bool
  | [] => true
  | i :: r => match h i with | some _ => allIn h r | none => false
theorem pickH_from {σ : List (Nat × Nat)} {h : Nat → Option AObj} : ∀ {S : List Nat} {n j : Nat} {o : AObj}, lookO j (pickH σ h S n) = some o → ∃ i o0, lookW j (sigI S n) = some i ∧ h i = some o0 ∧ o = o0.map σ
  | [], n, j, o, e => by cases e
  | s :: r, n, j, o, e => by
    rw [sigI, lookW_cons]
    rw [pickH] at e
    cases hs : h s with
    | none =>
      rw [hs] at e
      simp only at e
      obtain ⟨i, o0, h1, h2, h3⟩ := pickH_from e
      have := (sigI_mem h1).2
      exact ⟨i, o0, by rw [if_neg (by omega)]; exact h1, h2, h3⟩
    | some o0 =>
      rw [hs] at e
      simp only at e
      rw [lookO_cons] at e
      split at e
      · rename_i hj
        cases e
        exact ⟨s, o0, by rw [if_pos hj], hs, rfl⟩
      · rename_i hj
        obtain ⟨i, o1, h1, h2, h3⟩ := pickH_from e
        exact ⟨i, o1, by rw [if_neg hj]; exact h1, h2, h3⟩
theorem pickH_to {σ : List (Nat × Nat)} {h : Nat → Option AObj} : ∀ {S : List Nat} {n i j : Nat}, allIn h S = true → lookW i (sig S n) = some j → ∃ o, lookO j (pickH σ h S n) = some o
  | [], n, i, j, _, e => by cases e
  | s :: r, n, i, j, ha, e => by
    rw [allIn] at ha
    rw [pickH]
    rw [sig, lookW_cons] at e
    cases hs : h s with
    | none => rw [hs] at ha; cases ha
    | some o0 =>
      rw [hs] at ha
      simp only at ha ⊢
      rw [lookO_cons]
      split at e
      · cases e
        exact ⟨_, if_pos rfl⟩
      · have := (sig_ge e).1
        rw [if_neg (by omega)]
        exact pickH_to ha e
theorem lends_of {h : Nat → Option AObj} {S : List Nat} (hn : nodupN S = true) (ha : allIn h S = true) {n : Nat} : Lends h (sig S n) (sigI S n) (pickH (sig S n) h S n) :=
  ⟨sig_inv (nodupN_ok hn), fun _ _ => pickH_from, fun _ _ => pickH_to ha⟩
theorem lends_of' {h hs : Nat → Option AObj} {S : List Nat} (hn : nodupN S = true) (ha : allIn hs S = true) (he : ∀ i, i ∈ S → h i = hs i) {n : Nat} : Lends h (sig S n) (sigI S n) (pickH (sig S n) hs S n) :=
  ⟨sig_inv (nodupN_ok hn), fun _ _ h1 => by
    obtain ⟨i, o0, k1, k2, k3⟩ := pickH_from h1
    exact ⟨i, o0, k1, by rw [he i (sigI_mem k1).1]; exact k2, k3⟩, fun _ _ => pickH_to ha⟩
theorem allIn_ok {h : Nat → Option AObj} : ∀ {S : List Nat}, allIn h S = true → ∀ i, i ∈ S → ∃ o, h i = some o
  | [], _, i, hi => by cases hi
  | s :: r, ha, i, hi => by
    rw [allIn] at ha
    cases hs : h s with
    | none => rw [hs] at ha; cases ha
    | some o =>
      rw [hs] at ha
      rcases List.mem_cons.1 hi with rfl | hi
      · exact ⟨o, hs⟩
      · exact allIn_ok ha i hi
theorem sig_mem {i : Nat} : ∀ {S : List Nat} {n : Nat}, i ∈ S → lookW i (sig S n) ≠ none
  | [], n, h => by cases h
  | s :: r, n, h => by
    rw [sig, lookW_cons]
    split
    · simp
    · rename_i hne
      exact sig_mem ((List.mem_cons.1 h).resolve_left hne)
/-- The names, back again; what is new gets names from nb on. -/
def tauOf (σi : List (Nat × Nat)) : Heap → Nat → List (Nat × Nat)
  | [], _ => []
  | (j, _) :: r, nb => match lookW j σi with
    | some i => (j, i) :: tauOf σi r nb
    | none => (j, nb) :: tauOf σi r (nb + 1)
def newOf (σi : List (Nat × Nat)) : Heap → Nat → List (Nat × Nat)
  | [], _ => []
  | (j, _) :: r, nb => match lookW j σi with
    | some i => newOf σi r nb
    | none => (nb, j) :: newOf σi r (nb + 1)
theorem newOf_ge {σi : List (Nat × Nat)} : ∀ {hl : Heap} {nb i j : Nat}, lookW i (newOf σi hl nb) = some j → nb ≤ i
  | [], nb, i, j, h => by cases h
  | (q, o) :: r, nb, i, j, h => by
    rw [newOf] at h
    split at h
    · exact newOf_ge h
    · rw [lookW_cons] at h
      split at h
      · omega
      · have := newOf_ge h; omega
theorem tauOf_ok {σi : List (Nat × Nat)} : ∀ {hl : Heap} {nb j i : Nat}, lookW j (tauOf σi hl nb) = some i → (lookW j σi = some i ∧ ∃ o, lookO j hl = some o) ∨ lookW i (newOf σi hl nb) = some j
  | [], nb, j, i, h => by cases h
  | (q, o) :: r, nb, j, i, h => by
    rw [tauOf] at h
    rw [newOf]
    split at h
    · rename_i q' hq
      rw [lookW_cons] at h
      split at h
      · rename_i e
        cases h
        left
        exact ⟨by rw [e]; exact hq, o, by rw [lookO_cons, if_pos e]⟩
      · rename_i e
        rcases tauOf_ok h with ⟨h1, o', h2⟩ | h1
        · left; exact ⟨h1, o', by rw [lookO_cons, if_neg e]; exact h2⟩
        · right; exact h1
    · rename_i hq
      rw [lookW_cons] at h
      split at h
      · rename_i e
        cases h
        right
        rw [lookW_cons, if_pos rfl, e]
      · rename_i e
        rcases tauOf_ok h with ⟨h1, o', h2⟩ | h1
        · left; exact ⟨h1, o', by rw [lookO_cons, if_neg e]; exact h2⟩
        · right
          have := newOf_ge h1
          rw [lookW_cons, if_neg (by omega)]
          exact h1
def mapH (τ : List (Nat × Nat)) : Heap → Heap
  | [] => []
  | (j, o) :: r => match lookW j τ with
    | some i => (i, o.map τ) :: mapH τ r
    | none => mapH τ r
theorem mapH_from {τ : List (Nat × Nat)} : ∀ {hl : Heap} {i : Nat} {o : AObj}, lookO i (mapH τ hl) = some o → ∃ j o', lookW j τ = some i ∧ lookO j hl = some o' ∧ o = o'.map τ
  | [], i, o, h => by cases h
  | (q, oq) :: r, i, o, h => by
    rw [mapH] at h
    have step : ∀ {i' : Nat}, i' ≠ i ∨ lookW q τ = none → lookO i (mapH τ r) = some o → (lookW q τ = none ∨ lookW q τ = some i') → ∃ j o', lookW j τ = some i ∧ lookO j ((q, oq) :: r) = some o' ∧ o = o'.map τ := by
      intro i' hne h hq
      obtain ⟨j, o', h1, h2, h3⟩ := mapH_from h
      refine ⟨j, o', h1, ?_, h3⟩
      rw [lookO_cons, if_neg]
      · exact h2
      · rintro rfl
        rcases hq with hq | hq
        · rw [hq] at h1; cases h1
        · rw [hq] at h1
          cases h1
          rcases hne with hne | hne
          · exact hne rfl
          · rw [hq] at hne; cases hne
    split at h
    · rename_i i' hq
      rw [lookO_cons] at h
      split at h
      · rename_i e
        cases h
        exact ⟨q, oq, by rw [e]; exact hq, by rw [lookO_cons, if_pos rfl], rfl⟩
      · rename_i e
        exact step (i' := i') (.inl fun h => e h.symm) h (.inr hq)
    · rename_i hq
      exact step (i' := 0) (.inr hq) h (.inl hq)
theorem lookO_app (i : Nat) (o : AObj) : ∀ {x y : Heap}, lookO i (x ++ y) = some o → lookO i x = some o ∨ lookO i y = some o
  | [], y, h => .inr h
  | (q, oq) :: r, y, h => by
    rw [List.cons_append, lookO_cons] at h
    rw [lookO_cons]
    split at h
    · rename_i e; left; rw [if_pos e]; exact h
    · rename_i e; rw [if_neg e]; exact lookO_app i o h
/-- The new names are free. -/
def freshN (env : Env) (heap : Heap) (S : List Nat) : List (Nat × Nat) → Bool
  | [] => true
  | (i, _) :: r => match Nat.blt i lentBase with
    | true => match memN i S with
      | false => match freeEnv i env with
        | true => match freeHeap i heap with
          | true => freshN env heap S r
          | false => false
        | false => false
      | true => false
    | false => false
theorem freshN_ok {env : Env} {heap : Heap} {S : List Nat} : ∀ {l : List (Nat × Nat)}, freshN env heap S l = true → ∀ {i j}, lookW i l = some j → i < lentBase ∧ memN i S = false ∧ freeEnv i env = true ∧ freeHeap i heap = true
  | [], _, i, j, h => by cases h
  | (q, q') :: r, hf, i, j, h => by
    rw [freshN] at hf
    rw [lookW_cons] at h
    cases h1 : Nat.blt q lentBase with
    | false => rw [h1] at hf; cases hf
    | true =>
      rw [h1] at hf
      cases h2 : memN q S with
      | true => rw [h2] at hf; cases hf
      | false =>
        rw [h2] at hf
        cases h3 : freeEnv q env with
        | false => simp only [h3] at hf; cases hf
        | true =>
          simp only [h3] at hf
          cases h4 : freeHeap q heap with
          | false => rw [h4] at hf; cases hf
          | true =>
            rw [h4] at hf
            split at h
            · rename_i e
              rw [e]
              exact ⟨Nat.lt_of_succ_le (by simpa [Nat.blt] using h1), h2, h3, h4⟩
            · exact freshN_ok hf h
/-- The first of the new names. -/
def newBase (env : Env) : Option Tmp → Nat
  | some t => 1000 * (t + 1)
  | none => 500000 + 1000 * env.length
def ABack (nt : Nat) (dst : Option Tmp) (S : List Nat) (env : Env) (heap : Heap) (k : Env → Heap → Prop) (r : AVal) (hl' : Heap) : Prop :=
  match freshN env (dropH S heap) S (newOf (sigI S lentBase) hl' (newBase env dst)) with
  | true => deepV (fun r' => deepH (fun hn => match dst with
      | some t => match Nat.blt t nt with
        | true => k ((t, r') :: env) hn
        | false => False
      | none => k env hn) (mapH (tauOf (sigI S lentBase) hl' (newBase env dst)) hl' ++ dropH S heap)) (r.map (tauOf (sigI S lentBase) hl' (newBase env dst)))
  | false => False
/-- A call that is lent the objects that its arguments lead to. -/
def ALend (P : Program) (nt : Nat) (dst : Option Tmp) (env : Env) (heap : Heap) (k : Env → Heap → Prop) (f : FuncId) (args : List AVal) : Prop :=
  forceN (fun S => match nodupN S with
    | true => match allIn (fun i => lookO i heap) S with
      | true => deepL (fun args' => deepH (fun hl => ∃ post, LSpec P f args' hl post ∧ ∀ r hl', post r hl' → ABack nt dst S env heap k r hl') (pickH (sig S lentBase) (fun i => lookO i heap) S lentBase)) (AVal.mapL (sig S lentBase) args)
      | false => False
    | false => False) (reach 500 (fun i => lookO i heap) args [])
theorem ALend_ok {C : Ctx} {L : Lay} {a : Act} {w : World} {env : Env} {heap : Heap} {k : Env → Heap → Prop} {f : FuncId} {args : List AVal} {dst : Option Tmp} (H : Rel C L (lk env) (lko heap) a w) (hk : ALend C.P C.nt dst env heap k f args)
    {vs : Array Value} (hz : vs.size = args.length) (hargs : ∀ i x, args[i]? = some x → RepA w L (good C L (lko heap) w) x (vs.getD i undef)) :
    (∃ fn c, C.P.funcs[f]? = some fn ∧ (fn.name == "runtime.NumGoroutine") = false ∧ fn.body = some c) ∧
    Calls C.P f vs w fun e w' => ∃ v, e = .returned v ∧ ∃ L' env' heap', k env' heap' ∧ Rel C L' (lk env') (lko heap') (a.put dst v) w' := by
  unfold ALend at hk
  have hk := forceN_eq hk
  generalize reach 500 (fun i => lookO i heap) args [] = S at hk
  cases hn : nodupN S with
  | false => rw [hn] at hk; exact hk.elim
  | true =>
    rw [hn] at hk
    simp only at hk
    cases ha : allIn (fun i => lookO i heap) S with
    | false => rw [ha] at hk; exact hk.elim
    | true =>
      rw [ha] at hk
      simp only at hk
      obtain ⟨post, hs, hpost⟩ := deepH_eq (deepL_eq hk)
      have hL : Lends (lko heap) (sig S lentBase) (sigI S lentBase) (pickH (sig S lentBase) (fun i => lookO i heap) S lentBase) := lends_of hn ha
      rw [AVal.mapL_eq] at hs
      refine ⟨hs.1, (H.lend hL hs hz hargs).mono ?_⟩
      rintro e w' ⟨v, r, hl', L', rfl, hp, hlp, hrep⟩
      refine ⟨v, rfl, ?_⟩
      have hb := hpost r hl' hp
      unfold ABack at hb
      cases hf : freshN env (dropH S heap) S (newOf (sigI S lentBase) hl' (newBase env dst)) with
      | false => rw [hf] at hb; exact hb.elim
      | true =>
        rw [hf] at hb
        simp only at hb
        have hb := deepH_eq (deepV_eq hb)
        generalize newBase env dst = nb at hb hf
        have hmemS : ∀ {i}, lookW i (sig S lentBase) = none → i ∉ S := by
          intro i hi hm
          have : ∀ (S : List Nat) (n : Nat), i ∈ S → lookW i (sig S n) ≠ none := by
            intro S
            induction S with
            | nil => intro n h; cases h
            | cons s r ih =>
              intro n h
              rw [sig, lookW_cons]
              split
              · simp
              · rename_i hne
                exact ih (n + 1) ((List.mem_cons.1 h).resolve_left hne)
          exact this S lentBase hm hi
        obtain ⟨hrel, hres⟩ := H.back hL hlp (τ := tauOf (sigI S lentBase) hl' nb) (τn := newOf (sigI S lentBase) hl' nb) (h' := lko (mapH (tauOf (sigI S lentBase) hl' nb) hl' ++ dropH S heap))
          (fun j i hji => by
            rcases tauOf_ok hji with ⟨h1, h2⟩ | h1
            · left
              refine ⟨h1, h2, ?_⟩
              cases hn' : lookW i (newOf (sigI S lentBase) hl' nb) with
              | none => rfl
              | some j' =>
                have := (freshN_ok hf hn').2.1
                have hm := (sigI_mem h1).1
                rw [memN_of.2 hm] at this; cases this
            · right; exact h1)
          (fun i j hij => by
            obtain ⟨f1, f2, f3, f4⟩ := freshN_ok hf hij
            refine ⟨fun hl => ?_, freeEnv_look f3, fun q o hq hσ => ?_⟩
            · have := (H.lidn i hl).1; omega
            · refine freeHeap_look f4 q o ?_
              rw [lookO_dropH, if_neg]
              · exact hq
              · intro hm
                exact hmemS hσ (memN_of.1 hm))
          (fun i o ho => by
            rcases lookO_app i o ho with h1 | h1
            · left; exact mapH_from h1
            · right
              rw [lookO_dropH] at h1
              split at h1
              · cases h1
              · rename_i hm
                refine ⟨h1, ?_⟩
                cases hs' : lookW i (sig S lentBase) with
                | none => rfl
                | some j => exact absurd (memN_of.2 (sig_ge hs').2) hm)
        have hr := hres r v hrep
        cases dst with
        | none => exact ⟨L.back L' (newOf (sigI S lentBase) hl' nb), _, _, hb, hrel⟩
        | some t =>
          simp only at hb
          cases hbl : Nat.blt t C.nt with
          | false => rw [hbl] at hb; exact hb.elim
          | true =>
            rw [hbl] at hb
            simp only at hb
            refine ⟨L.back L' (newOf (sigI S lentBase) hl' nb), _, _, hb, ?_⟩
            rw [lk_cons]
            exact hrel.put (Nat.lt_of_succ_le (by simpa [Nat.blt] using hbl)) hr
/-- The arguments of a call that is lent objects; rows that are given up read as what they hold. -/
def lendK (h : Nat → Option AObj) (k : List AVal → List Nat → Prop) : List Bool → List AVal → List Nat → Prop
  | _, [], p => k [] p
  | [], x :: r, p => lendK h (fun l p => k (x :: l) p) [] r p
  | false :: ms, x :: r, p => lendK h (fun l p => k (x :: l) p) ms r p
  | true :: ms, x :: r, p => match x with
    | .rsl id sz o n => match memN id p with
      | true => False
      | false => match h id with
        | some (.row _ sz' n' f) => match Nat.beq sz sz' with
          | true => (o + n ≤ n') ∧ match o with
            | 0 => lendK h (fun l p => k (.d (.sl sz n f) :: l) p) ms r (id :: p)
            | o => lendK h (fun l p => k (.d (.sl sz n fun j => f (o + j)) :: l) p) ms r (id :: p)
          | false => False
        | _ => False
    | x => lendK h (fun l p => k (x :: l) p) ms r p
/-- What lendK says of arguments xs that became l, rows p being given up. -/
def LendsArgs (h : Nat → Option AObj) (xs : List AVal) (p0 : List Nat) (l : List AVal) (p : List Nat) : Prop :=
  l.length = xs.length ∧ (∀ i, i ∈ p0 → i ∈ p) ∧
  ∀ (C : Ctx) (L : Lay) (g : Nat → AVal) (h0 : Nat → Option AObj) (a : Act) (w : World), Rel C L g h0 a w → (∀ i o, h i = some o → h0 i = some o) →
    ∀ (i : Nat) (x y : AVal) (v : Value), xs[i]? = some x → l[i]? = some y → RepA w L (good C L h0 w) x v → RepA w L (good C L (fun j => if memN j p = true then none else h0 j) w) y v
theorem LendsArgs.cons {h : Nat → Option AObj} {xs l : List AVal} {p0 p1 p : List Nat} (hl : LendsArgs h xs p1 l p) (hp : ∀ i, i ∈ p0 → i ∈ p1) {x y : AVal}
    (hx : ∀ (C : Ctx) (L : Lay) (g : Nat → AVal) (h0 : Nat → Option AObj) (a : Act) (w : World), Rel C L g h0 a w → (∀ i o, h i = some o → h0 i = some o) → ∀ v, RepA w L (good C L h0 w) x v → RepA w L (good C L (fun j => if memN j p = true then none else h0 j) w) y v) : LendsArgs h (x :: xs) p0 (y :: l) p := by
  refine ⟨by simp [hl.1], fun i hi => hl.2.1 i (hp i hi), fun C L g h0 a w H hh i x' y' v h1 h2 hv => ?_⟩
  cases i with
  | zero =>
    simp only [List.getElem?_cons_zero, Option.some.injEq] at h1 h2
    subst h1; subst h2
    exact hx C L g h0 a w H hh v hv
  | succ i =>
    simp only [List.getElem?_cons_succ] at h1 h2
    exact hl.2.2 C L g h0 a w H hh i x' y' v h1 h2 hv
theorem good_drop {C : Ctx} {L : Lay} {h0 h1 : Nat → Option AObj} {w : World} (hs : ∀ i o, h1 i = some o → h0 i = some o) {b : Nat} (hb : good C L h0 w b) : good C L h1 w b := ⟨hb.1, hb.2.1, fun ⟨i, o, k1, k2⟩ => hb.2.2 ⟨i, o, hs i o k1, k2⟩⟩
theorem dropped_some {h0 : Nat → Option AObj} {p : List Nat} {i : Nat} {o : AObj} (e : (if memN i p = true then none else h0 i) = some o) : h0 i = some o ∧ memN i p = false := by
  cases hm : memN i p with
  | true => rw [hm] at e; simp at e
  | false => rw [hm] at e; exact ⟨by simpa using e, rfl⟩
theorem lendK_st {h : Nat → Option AObj} : ∀ {xs : List AVal} {ms : List Bool} {p0 : List Nat} {k : List AVal → List Nat → Prop}, lendK h k ms xs p0 → ∃ l p, k l p ∧ LendsArgs h xs p0 l p
  | [], ms, p0, k, hk => by
    have hk : k [] p0 := by cases ms <;> simpa [lendK] using hk
    exact ⟨[], p0, hk, rfl, fun _ h => h, fun _ _ _ _ _ _ _ _ i x y v h => by simp at h⟩
  | x :: r, ms, p0, k, hk => by
    have same : ∀ {ms : List Bool}, lendK h (fun l p => k (x :: l) p) ms r p0 → ∃ l p, k l p ∧ LendsArgs h (x :: r) p0 l p := by
      intro ms hk
      obtain ⟨l, p, h1, h2⟩ := lendK_st hk
      exact ⟨x :: l, p, h1, h2.cons (fun _ h => h) fun C L g h0 a w H hh v hv => hv.mono1 (Nat.le_refl _) (fun b _ hb => ⟨good_drop (fun i o e => (dropped_some e).1) hb, rfl⟩) fun _ _ => rfl⟩
    cases ms with
    | nil => exact same (by simpa [lendK] using hk)
    | cons m ms =>
      cases m with
      | false => exact same (by simpa [lendK] using hk)
      | true =>
        cases x with
        | rsl id sz o n =>
          simp only [lendK] at hk
          cases hm : memN id p0 with
          | true => rw [hm] at hk; exact hk.elim
          | false =>
            rw [hm] at hk
            simp only at hk
            cases hid : h id with
            | none => rw [hid] at hk; exact hk.elim
            | some ob =>
              rw [hid] at hk
              cases ob with
              | box => exact hk.elim
              | mp => exact hk.elim
              | vrow => exact hk.elim
              | dmp => exact hk.elim
              | row t sz' n' f =>
                simp only at hk
                cases hb : Nat.beq sz sz' with
                | false => rw [hb] at hk; exact hk.elim
                | true =>
                  rw [hb] at hk
                  simp only at hk
                  have := Nat.eq_of_beq_eq_true hb
                  subst this
                  obtain ⟨hle, hk⟩ := hk
                  have key : ∃ l p, k (.d (.sl sz n fun j => f (o + j)) :: l) p ∧ LendsArgs h r (id :: p0) l p := by
                    cases o with
                    | zero =>
                      obtain ⟨l, p, h1, h2⟩ := lendK_st hk
                      exact ⟨l, p, by simpa using h1, h2⟩
                    | succ o =>
                      obtain ⟨l, p, h1, h2⟩ := lendK_st hk
                      exact ⟨l, p, h1, h2⟩
                  obtain ⟨l, p, h1, h2⟩ := key
                  refine ⟨_, p, h1, h2.cons (fun i hi => List.mem_cons_of_mem _ hi) fun C L g h0 a w H hh v hv => ?_⟩
                  have hidp : memN id p = true := memN_of.2 (h2.2.1 id List.mem_cons_self)
                  refine .d (row_view (gd := good C L h0 w) (h := restrictH [id] h0) (fun i o e => H.obj i o (restrictH_some e)) (fun b hb => good_drop (fun i o e => (dropped_some e).1) hb) (fun i oi b e1 e2 => ?_) (by unfold restrictH; simp only [memN, beq_self]; exact hh id _ hid) hle hv)
                  have hi : i = id := by
                    unfold restrictH at e1
                    cases hq : memN i [id] with
                    | true => simpa using memN_of.1 hq
                    | false => rw [hq] at e1; cases e1
                  subst hi
                  have e1' := restrictH_some e1
                  have h3 := H.own0 i oi b e1' e2
                  refine ⟨⟨h3.2, .inr h3.1, fun ⟨j, oj, k1, k2⟩ => ?_⟩, h3.2⟩
                  obtain ⟨k3, k4⟩ := dropped_some k1
                  have := H.inj j i oj oi b k3 e1' k2 e2
                  subst this
                  rw [hidp] at k4; cases k4
        | _ => exact same (by simpa [lendK] using hk)
/-- What a closure that is lent objects has taken hold of. -/
def capsN : List AVal → List AVal
  | [] => []
  | x :: r => (match x.nm with
    | true => x
    | false => (match x with
      | .d q => (match q.flat with | true => .d q | false => .any)
      | _ => .any)) :: capsN r
theorem capsN_get : ∀ {l : List AVal} {i : Nat} {y : AVal}, (capsN l)[i]? = some y → ∃ x, l[i]? = some x ∧ ∀ (w : World) (L : Lay) (gd gd' : Nat → Prop) (v : Value), RepA w L gd x v → RepA w L gd' y v
  | [], i, y, h => by simp [capsN] at h
  | x :: r, 0, y, h => by
    simp only [capsN, List.getElem?_cons_zero, Option.some.injEq] at h
    refine ⟨x, rfl, fun w L gd gd' v hv => ?_⟩
    subst h
    cases hn : x.nm with
    | true => exact hv.nm hn
    | false =>
      cases x with
      | d q =>
        cases hf : q.flat with
        | true => simp only [hf]; exact hv.flat (by simpa [AVal.flat] using hf)
        | false => simp only [hf]; exact .any
      | _ => exact .any
  | x :: r, i + 1, y, h => by
    simp only [capsN, List.getElem?_cons_succ] at h ⊢
    exact capsN_get h
theorem capsN_len : ∀ l : List AVal, (capsN l).length = l.length
  | [] => rfl
  | x :: r => by simp [capsN, capsN_len r]
def whOf (hm : Heap) (ids : List Nat) : List (Nat × Option AObj) := hm.map (fun x => (x.1, some x.2)) ++ ids.map fun i => (i, none)
theorem lookW_whOf (i : Nat) (ids : List Nat) : ∀ hm : Heap, lookW i (whOf hm ids) = match lookO i hm with | some o => some (some o) | none => if memN i ids = true then some none else none
  | [] => by
    show lookW i (ids.map fun i => (i, none)) = if memN i ids = true then some none else none
    induction ids with
    | nil => simp [lookW, memN]
    | cons s r ih =>
      rw [List.map_cons, lookW_cons, ih]
      have e : memN i (s :: r) = (match Nat.beq s i with | true => true | false => memN i r) := rfl
      rw [e]
      by_cases h : i = s
      · subst h; simp
      · rw [beq_false (fun e => h e.symm)]; simp [h]
  | (j, o) :: r => by
    have ih := lookW_whOf i ids r
    have e : whOf ((j, o) :: r) ids = (j, some o) :: whOf r ids := rfl
    rw [e, lookW_cons, lookO_cons, ih]
    by_cases h : i = j
    · simp [h]
    · simp [h]
theorem lookO_app_eq (i : Nat) : ∀ (x y : Heap), lookO i (x ++ y) = match lookO i x with | some o => some o | none => lookO i y
  | [], y => rfl
  | (q, oq) :: r, y => by
    rw [List.cons_append, lookO_cons, lookO_cons, lookO_app_eq i r y]
    by_cases h : i = q
    · simp [h]
    · simp [h]
/-- The new names are no lent ones. -/
def ltAll : List Nat → Bool
  | [] => true
  | i :: r => match Nat.blt i lentBase with | true => ltAll r | false => false
theorem ltAll_ok : ∀ {l : List Nat}, ltAll l = true → ∀ i, i ∈ l → i < lentBase
  | [], _, i, hi => by cases hi
  | j :: r, h, i, hi => by
    rw [ltAll] at h
    cases hb : Nat.blt j lentBase with
    | false => rw [hb] at h; cases h
    | true =>
      rw [hb] at h
      rcases List.mem_cons.1 hi with rfl | hi
      · exact Nat.lt_of_succ_le (by simpa [Nat.blt] using hb)
      · exact ltAll_ok h i hi
def firsts : List (Nat × Nat) → List Nat
  | [] => []
  | (i, _) :: r => i :: firsts r
theorem firsts_mem {i j : Nat} : ∀ {l : List (Nat × Nat)}, lookW i l = some j → i ∈ firsts l
  | [], h => by cases h
  | (q, q') :: r, h => by
    rw [lookW_cons] at h
    split at h
    · rename_i e; rw [e]; exact List.mem_cons_self
    · exact List.mem_cons_of_mem _ (firsts_mem h)
def lentTo (T : Tys) : AVal → Option (List Bool)
  | .fn f _ => lookW f T.lnt
  | _ => none
end Towline
