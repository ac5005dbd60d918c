/- The engine, part eight: rows of operations, calls, the forms of code, whole functions. Over any program. -/
import Derived.Test.YtjdmnfjgmbnlbaaGreatDoorEngG2
namespace Towline
open Go Go.RowKit
set_option linter.unusedVariables false

mutual
/-- A value that speaks of no object of the call's own. -/
def AVal.pure : AVal → Bool
  | .any => true
  | .d _ => true
  | .agg l => AVal.pureL l
  | .tup l => AVal.pureL l
  | .fn _ l => AVal.pureL l
  | .eptr .. => true
  | .ptr .. => false
  | .rsl .. => false
  | .rptr .. => false
  | .mref .. => false
  | .fresh .. => false
def AVal.pureL : List AVal → Bool
  | [] => true
  | x :: r => AVal.pure x && AVal.pureL r
end
mutual
/-- A value that is data alone. -/
def AVal.data : AVal → Bool
  | .any => true
  | .d _ => true
  | .agg l => AVal.dataL l
  | .tup l => AVal.dataL l
  | .fn .. => false
  | .eptr .. => false
  | .ptr .. => false
  | .rsl .. => false
  | .rptr .. => false
  | .mref .. => false
  | .fresh .. => false
def AVal.dataL : List AVal → Bool
  | [] => true
  | x :: r => AVal.data x && AVal.dataL r
end
def D.flat : D → Bool
  | .sl .. => false
  | .cl .. => false
  | .pt .. => false
  | _ => true
mutual
/-- A value that looks at no memory. -/
def AVal.flat : AVal → Bool
  | .any => true
  | .d x => x.flat
  | .agg l => AVal.flatL l
  | .tup l => AVal.flatL l
  | .fn .. => false
  | .eptr .. => false
  | .ptr .. => false
  | .rsl .. => false
  | .rptr .. => false
  | .mref .. => false
  | .fresh .. => false
def AVal.flatL : List AVal → Bool
  | [] => true
  | x :: r => AVal.flat x && AVal.flatL r
end
theorem AVal.pureL_get : ∀ {l : List AVal}, AVal.pureL l = true → ∀ (i : Nat) (x : AVal), l[i]? = some x → x.pure = true
  | [], _, i, x, e => by simp at e
  | y :: r, h, i, x, e => by
    simp only [AVal.pureL, Bool.and_eq_true] at h
    cases i with
    | zero => simp only [List.getElem?_cons_zero, Option.some.injEq] at e; rw [← e]; exact h.1
    | succ i => simp only [List.getElem?_cons_succ] at e; exact AVal.pureL_get h.2 i x e
theorem AVal.dataL_get : ∀ {l : List AVal}, AVal.dataL l = true → ∀ (i : Nat) (x : AVal), l[i]? = some x → x.data = true
  | [], _, i, x, e => by simp at e
  | y :: r, h, i, x, e => by
    simp only [AVal.dataL, Bool.and_eq_true] at h
    cases i with
    | zero => simp only [List.getElem?_cons_zero, Option.some.injEq] at e; rw [← e]; exact h.1
    | succ i => simp only [List.getElem?_cons_succ] at e; exact AVal.dataL_get h.2 i x e
theorem AVal.flatL_get : ∀ {l : List AVal}, AVal.flatL l = true → ∀ (i : Nat) (x : AVal), l[i]? = some x → x.flat = true
  | [], _, i, x, e => by simp at e
  | y :: r, h, i, x, e => by
    simp only [AVal.flatL, Bool.and_eq_true] at h
    cases i with
    | zero => simp only [List.getElem?_cons_zero, Option.some.injEq] at e; rw [← e]; exact h.1
    | succ i => simp only [List.getElem?_cons_succ] at e; exact AVal.flatL_get h.2 i x e
mutual
theorem AVal.pure_free (id : Nat) : ∀ x : AVal, x.pure = true → x.free id = true
  | .any, _ => rfl
  | .d _, _ => rfl
  | .agg l, h => by simp only [AVal.pure] at h; simp only [AVal.free]; exact AVal.pureL_free id l h
  | .tup l, h => by simp only [AVal.pure] at h; simp only [AVal.free]; exact AVal.pureL_free id l h
  | .fn _ l, h => by simp only [AVal.pure] at h; simp only [AVal.free]; exact AVal.pureL_free id l h
  | .eptr .., h => rfl
  | .ptr .., h => by simp [AVal.pure] at h
  | .rsl .., h => by simp [AVal.pure] at h
  | .rptr .., h => by simp [AVal.pure] at h
  | .mref .., h => by simp [AVal.pure] at h
  | .fresh .., h => rfl
theorem AVal.pureL_free (id : Nat) : ∀ l : List AVal, AVal.pureL l = true → AVal.freeL id l = true
  | [], _ => rfl
  | x :: r, h => by
    simp only [AVal.pureL, Bool.and_eq_true] at h
    simp only [AVal.freeL, Bool.and_eq_true]
    exact ⟨AVal.pure_free id x h.1, AVal.pureL_free id r h.2⟩
end
/-- The lay-out of a call that has no objects. -/
def L0 (n : Nat) : Lay := ⟨fun _ => none, fun _ => 0, fun b => b < n⟩
theorem RepA.data {w w' : World} {L L' : Lay} (hs : w.heap.size ≤ w'.heap.size) : ∀ {gd : Nat → Prop} {x : AVal} {v : Value}, RepA w L gd x v → ∀ {gd' : Nat → Prop}, x.data = true → (∀ b, b < w.heap.size → gd b → gd' b ∧ w'.heap[b]? = w.heap[b]?) → RepA w' L' gd' x v := by
  intro gd x v h
  induction h with
  | any => intro _ _ _; exact .any
  | d h => intro _ _ hg; exact .d (h.mono hs hg)
  | agg hz h1 h ih => intro _ hd hg; exact .agg hz h1 fun i x hx => ih i x hx (AVal.dataL_get (by simpa [AVal.data] using hd) i x hx) hg
  | tup hz h ih => intro _ hd hg; exact .tup hz fun i x hx => ih i x hx (AVal.dataL_get (by simpa [AVal.data] using hd) i x hx) hg
  | _ => intro _ hd _; simp [AVal.data] at hd
theorem RepD.flat' {w w' : World} {gd gd' : Nat → Prop} {x : D} {v : Value} (h : RepD w gd x v) (hx : x.flat = true) : RepD w' gd' x v := by
  cases h with
  | i k n => exact .i k n
  | b x => exact .b x
  | s l => exact .s l
  | v _ h => exact .v _ h
  | o _ h => exact .o _ h
  | sl0 => cases hx
  | sl => cases hx
  | cl => cases hx
  | pt => cases hx
theorem RepA.flat {w w' : World} {L L' : Lay} : ∀ {gd : Nat → Prop} {x : AVal} {v : Value}, RepA w L gd x v → ∀ {gd' : Nat → Prop}, x.flat = true → RepA w' L' gd' x v := by
  intro gd x v h
  induction h with
  | any => intro _ _; exact .any
  | d h => intro _ hf; exact .d (h.flat' (by simpa [AVal.flat] using hf))
  | agg hz h1 h ih => intro _ hd; exact .agg hz h1 fun i x hx => ih i x hx (AVal.flatL_get (by simpa [AVal.flat] using hd) i x hx)
  | tup hz h ih => intro _ hd; exact .tup hz fun i x hx => ih i x hx (AVal.flatL_get (by simpa [AVal.flat] using hd) i x hx)
  | _ => intro _ hd; simp [AVal.flat] at hd
/-- A value without objects of the call's own, in the world of a call that begins now. -/
theorem RepA.enter {w : World} {L : Lay} {gd : Nat → Prop} {x : AVal} {v : Value} (h : RepA w L gd x v) (hp : x.pure = true) : RepA w (L0 w.heap.size) gd x v :=
  h.mono (Nat.le_refl _) (fun _ => false) (fun _ h => by cases h) (fun b hlt _ => ⟨hlt, rfl⟩) (fun b _ hb => ⟨hb, rfl⟩) (fun id _ => AVal.pure_free id x hp)

/-- Behind a call: the value is of memory that was good, or that is new; or it is a row of its own. -/
def RepR (w w' : World) (R : Nat → Prop) (r : AVal) (v : Value) : Prop :=
  match r with
  | .fresh t sz n f => ∃ xs, w'.ownsRow w.heap.size t sz v n xs ∧ (∀ k, k < n → (f k).length = sz) ∧ ∀ k, k < n → ∀ (j : Nat) x, (f k)[j]? = some x → RepD w' (fun b => (R b ∨ (w.heap.size ≤ b ∧ b < w'.heap.size)) ∧ v.ownBlock ≠ some b) x (xs.getD (k * sz + j) undef)
  | r => r.data = true ∧ RepA w' (L0 w.heap.size) (fun b => R b ∨ (w.heap.size ≤ b ∧ b < w'.heap.size)) r v
/-- A contract: called with such arguments a function returns such a value, and changes nothing that was there. -/
def PSpec (P : Program) (f : FuncId) (args : List AVal) (post : AVal → Prop) : Prop :=
  (∃ fn c, P.funcs[f]? = some fn ∧ (fn.name == "runtime.NumGoroutine") = false ∧ fn.body = some c) ∧
  ∀ (w : World) (R : Nat → Prop) (vs : Array Value), GoodW w R → (∀ b, R b → b < w.heap.size) → vs.size = args.length → (∀ i x, args[i]? = some x → RepA w (L0 w.heap.size) R x (vs.getD i undef)) →
    Calls P f vs w fun e w' => ∃ v r, e = .returned v ∧ post r ∧ Below w.heap.size w w' ∧ RepR w w' R r v
theorem PSpec.mono {P : Program} {f : FuncId} {args : List AVal} {post post' : AVal → Prop} (h : PSpec P f args post) (hp : ∀ r, post r → post' r) : PSpec P f args post' :=
  ⟨h.1, fun w R vs hG hR hz ha => (h.2 w R vs hG hR hz ha).mono fun e w' ⟨v, r, h1, h2, h3⟩ => ⟨v, r, h1, hp r h2, h3⟩⟩
/-- What one value says, the other one says too. -/
structure AVal.le (x y : AVal) : Prop where
  out : ∀ w L gd v, RepA w L gd x v → RepA w L gd y v
theorem AVal.le.refl (x : AVal) : x.le x := ⟨fun _ _ _ _ h => h⟩
theorem AVal.le.trans {x y z : AVal} (h : x.le y) (k : y.le z) : x.le z := ⟨fun _ _ _ _ hx => k.out _ _ _ _ (h.out _ _ _ _ hx)⟩
theorem AVal.le.of_eq {x y : AVal} (h : x = y) : x.le y := h ▸ .refl x
theorem PSpec.weaken {P : Program} {f : FuncId} {args : List AVal} {post post' : AVal → Prop} (h : PSpec P f args post) (hp : ∀ r, post r → r.data = true → ∃ r', r.le r' ∧ post' r' ∧ r'.data = true) (hf : ∀ t sz n g, ¬ post (.fresh t sz n g)) : PSpec P f args post' :=
  ⟨h.1, fun w R vs hG hR hz ha => (h.2 w R vs hG hR hz ha).mono fun e w' ⟨v, r, h1, h2, h3, h4⟩ => by
    have key : ∀ r, post r → r.data = true → RepA w' (L0 w.heap.size) (fun b => R b ∨ (w.heap.size ≤ b ∧ b < w'.heap.size)) r v → ∃ v' r', e = .returned v' ∧ post' r' ∧ Below w.heap.size w w' ∧ RepR w w' R r' v' := by
      intro r h2 hd h4
      obtain ⟨r', k1, k2, k3⟩ := hp r h2 hd
      refine ⟨v, r', h1, k2, h3, ?_⟩
      have hrep := k1.out _ _ _ _ h4
      cases r' with
      | fresh => cases k3
      | _ => exact ⟨k3, hrep⟩
    cases r with
    | fresh t sz n g => exact (hf t sz n g h2).elim
    | _ => exact key _ h2 h4.1 h4.2⟩
theorem PSpec.args {P : Program} {f : FuncId} {args args' : List AVal} {post : AVal → Prop} (h : PSpec P f args post) (hl : args'.length = args.length) (hp : ∀ (i : Nat) (x x' : AVal), args[i]? = some x → args'[i]? = some x' → x'.le x) : PSpec P f args' post :=
  ⟨h.1, fun w R vs hG hR hz ha => h.2 w R vs hG hR (hz.trans hl) fun i x hx => by
    have hlt : i < args'.length := by rw [hl]; exact (List.getElem?_eq_some_iff.1 hx).1
    exact (hp i x _ hx (List.getElem?_eq_getElem hlt)).out _ _ _ _ (ha i _ (List.getElem?_eq_getElem hlt))⟩

def forceD (k : AVal → Prop) : D → Prop
  | .i a b => k (.d (.i a b))
  | .b x => k (.d (.b x))
  | .s l => k (.d (.s l))
  | .v x => k (.d (.v x))
  | .sl a b c => k (.d (.sl a b c))
  | .cl a b c => k (.d (.cl a b c))
  | .o => k (.d .o)
  | .pt a => k (.d (.pt a))
def forceV (k : AVal → Prop) : AVal → Prop
  | .any => k .any
  | .d x => forceD k x
  | .agg l => k (.agg l)
  | .tup l => k (.tup l)
  | .ptr a b => k (.ptr a b)
  | .eptr a b c d e => k (.eptr a b c d e)
  | .rsl a b c d => k (.rsl a b c d)
  | .rptr a b c d => k (.rptr a b c d)
  | .mref a => k (.mref a)
  | .fn a b => k (.fn a b)
  | .fresh a b c d => k (.fresh a b c d)
theorem forceV_eq {k : AVal → Prop} {v : AVal} (h : forceV k v) : k v := by
  cases v with
  | d x => cases x <;> exact h
  | _ => exact h
/-- The boxes that a closure has taken hold of. -/
def clF (h : Nat → Option AObj) : List AVal → Option (List (List D))
  | [] => some []
  | .ptr id 0 :: r => match h id with
    | some (.box l _) => match unliftF l with
      | some ds => match clF h r with
        | some m => some (ds :: m)
        | none => none
      | none => none
    | _ => none
  | _ => none
mutual
/-- A value without objects of the call's own: slices of them read as what they hold. -/
def viewK (h : Nat → Option AObj) (k : AVal → Prop) : AVal → Prop
  | .any => k .any
  | .d x => k (.d x)
  | .agg l => viewL h (fun l => k (.agg l)) l
  | .tup l => viewL h (fun l => k (.tup l)) l
  | .fn f l => match clF h l with
    | some m => k (.d (.cl f m.length fun i => m.getD i []))
    | none => False
  | .rsl id sz o n => match h id with
    | some (.row _ sz' n' f) => match Nat.beq sz sz' with
      | true => (o + n ≤ n') ∧ match o with
        | 0 => k (.d (.sl sz n f))
        | o => k (.d (.sl sz n fun j => f (o + j)))
      | false => False
    | _ => False
  | .eptr .. => False
  | .ptr id off => match off with
    | 0 => match h id with
      | some (.box l _) => match unliftF l with
        | some ds => k (.d (.pt ds))
        | none => False
      | _ => False
    | _ + 1 => False
  | .rptr .. => False
  | .mref _ => k (.d .o)
  | .fresh .. => False
def viewL (h : Nat → Option AObj) (k : List AVal → Prop) : List AVal → Prop
  | [] => k []
  | x :: r => viewK h (fun x => viewL h (fun r => k (x :: r)) r) x
end
section
variable {w : World} {gd gd' : Nat → Prop} {L : Lay} {h : Nat → Option AObj}
theorem clF_ok (ho : ∀ id o, h id = some o → RepO w gd L id o) (hg : ∀ b, gd b → gd' b) (hb : ∀ id o b, h id = some o → L.blk id = some b → gd' b ∧ b < w.heap.size) {gx : Nat → Prop} :
    ∀ {l : List AVal} {m : List (List D)} (vs : Nat → Value), clF h l = some m → (∀ i x, l[i]? = some x → RepA w L gx x (vs i)) → l.length = m.length ∧ ∃ bs : Nat → Nat, ∀ i, i < m.length → vs i = .pointer (some ⟨bs i, 0, none⟩) ∧ RepD w gd' (.sl (m.getD i []).length 1 fun _ => m.getD i []) (.slice (some ⟨bs i, 0, none⟩) 1 1)
  | [], m, vs, hm, hv => by
    simp only [clF, Option.some.injEq] at hm
    subst hm
    exact ⟨rfl, fun _ => 0, fun i hi => absurd hi (Nat.not_lt_zero i)⟩
  | x :: r, m, vs, hm, hv => by
    cases x with
    | ptr id off =>
      cases off with
      | succ off => simp [clF] at hm
      | zero =>
        simp only [clF] at hm
        cases hid : h id with
        | none => rw [hid] at hm; cases hm
        | some ob =>
          rw [hid] at hm
          cases ob with
          | row => cases hm
          | mp => cases hm
          | vrow => cases hm
          | dmp => cases hm
          | box l =>
            simp only at hm
            cases hu : unliftF l with
            | none => rw [hu] at hm; cases hm
            | some ds =>
              rw [hu] at hm
              simp only at hm
              cases hc : clF h r with
              | none => rw [hc] at hm; cases hm
              | some m' =>
                rw [hc] at hm
                simp only [Option.some.injEq] at hm
                subst hm
                obtain ⟨k1, bs, k2⟩ := clF_ok ho hg hb (fun i => vs (i + 1)) hc (fun i x hx => hv (i + 1) x hx)
                have h0 := hv 0 _ rfl
                generalize hv0 : vs 0 = v0 at h0
                cases h0 with
                | @ptr _ _ _ b hbk =>
                  refine ⟨by simp [k1], fun i => match i with | 0 => b | i + 1 => bs i, fun i hi => ?_⟩
                  cases i with
                  | zero => exact ⟨hv0, box_view ho hg hb hid hu hbk⟩
                  | succ i => exact k2 i (by simpa using hi)
    | _ => simp [clF] at hm
theorem fn_view (ho : ∀ id o, h id = some o → RepO w gd L id o) (hg : ∀ b, gd b → gd' b) (hb : ∀ id o b, h id = some o → L.blk id = some b → gd' b ∧ b < w.heap.size) {f : FuncId} {l : List AVal} {m : List (List D)} (hm : clF h l = some m) {v : Value} (hv : RepA w L gd (.fn f l) v) :
    RepD w gd' (.cl f m.length fun i => m.getD i []) v := by
  cases hv with
  | @fn _ _ _ vs hz hr =>
    obtain ⟨k1, bs, k2⟩ := clF_ok ho hg hb (fun i => vs.getD i undef) hm hr
    exact .cl f _ _ bs vs (by omega) (fun i hi => (k2 i hi).1) (fun i hi => (k2 i hi).2)
/-- The same, as the caller of a closure wants it. -/
def capsF : Nat → Nat → (Nat → List D) → List AVal
  | 0, _, _ => []
  | n + 1, i, ds => .eptr (ds i).length 1 (fun _ => ds i) 0 0 :: capsF n (i + 1) ds
theorem capsF_get : ∀ (n i : Nat) (ds : Nat → List D), (capsF n i ds).length = n ∧ ∀ j, j < n → (capsF n i ds)[j]? = some (.eptr (ds (i + j)).length 1 (fun _ => ds (i + j)) 0 0)
  | 0, i, ds => ⟨rfl, fun j hj => absurd hj (Nat.not_lt_zero j)⟩
  | n + 1, i, ds => by
    obtain ⟨h1, h2⟩ := capsF_get n (i + 1) ds
    refine ⟨by simp [capsF, h1], fun j hj => ?_⟩
    cases j with
    | zero => rfl
    | succ j =>
      have := h2 j (by omega)
      rw [show i + 1 + j = i + (j + 1) from by omega] at this
      simpa [capsF] using this
/-- A closure that was handed back is called: its boxes stand behind the arguments. -/
theorem cl_args {f n : Nat} {ds : Nat → List D} {v : Value} (hv : RepD w gd (.cl f n ds) v) {l : List AVal} {xs : Array Value} (hl : l.length = xs.size) {gd'' : Nat → Prop} (hg : ∀ b, gd b → gd'' b) (hargs : ∀ (i : Nat) (x : AVal), l[i]? = some x → RepA w L gd'' x (xs.getD i undef)) :
    ∃ vs, v = .func (.func f) #[] vs ∧ vs.size = n ∧ ∀ (i : Nat) (x : AVal), (l ++ capsF n 0 ds)[i]? = some x → RepA w L gd'' x ((xs ++ vs).getD i undef) := by
  cases hv with
  | cl _ _ _ bs vs hz hvv hr =>
    refine ⟨vs, rfl, hz, fun i x hx => ?_⟩
    rcases Nat.lt_or_ge i l.length with hi | hi
    · rw [List.getElem?_append_left hi] at hx
      have := hargs i x hx
      rw [Array.getD_eq_getD_getElem?, Array.getElem?_append_left (by omega)]
      rwa [Array.getD_eq_getD_getElem?] at this
    · rw [List.getElem?_append_right hi] at hx
      obtain ⟨c1, c2⟩ := capsF_get n 0 ds
      have hj : i - l.length < n := by have := (List.getElem?_eq_some_iff.1 hx).1; omega
      rw [c2 _ hj] at hx
      cases hx
      rw [Array.getD_eq_getD_getElem?, Array.getElem?_append_right (by omega), ← Array.getD_eq_getD_getElem?, ← hl, hvv _ hj, Nat.zero_add]
      have := RepA.eptr (L := L) (off := 0) ((hr _ hj).mono (w' := w) (good' := gd'') (Nat.le_refl _) fun b _ hb => ⟨hg b hb, rfl⟩) (show 0 < 1 by omega)
      simpa using this
mutual
theorem viewK_ok (L' : Lay) (ho : ∀ id o, h id = some o → RepO w gd L id o) (hg : ∀ b, gd b → gd' b) (hb : ∀ id o b, h id = some o → L.blk id = some b → gd' b ∧ b < w.heap.size) :
    ∀ (x : AVal) (k : AVal → Prop) (v : Value), viewK h k x → RepA w L gd x v → ∃ y, k y ∧ y.data = true ∧ RepA w L' gd' y v
  | .any, k, v, hk, hv => ⟨.any, hk, rfl, .any⟩
  | .d x, k, v, hk, hv => ⟨.d x, hk, rfl, hv.data (Nat.le_refl _) rfl (fun b _ hb => ⟨hg b hb, rfl⟩)⟩
  | .agg l, k, v, hk, hv => by
    obtain ⟨vs, rfl, k1, k2, k3⟩ := repA_agg hv
    obtain ⟨m, e1, e2, e3, e4⟩ := viewL_ok L' ho hg hb l _ (fun i => vs.getD i undef) hk k3
    exact ⟨.agg m, e1, e2, .agg (by omega) (fun i hi => k2 i (by omega)) e4⟩
  | .tup l, k, v, hk, hv => by
    cases hv with
    | @tup _ _ vs hz hr =>
      obtain ⟨m, e1, e2, e3, e4⟩ := viewL_ok L' ho hg hb l _ (fun i => vs.getD i undef) hk hr
      exact ⟨.tup m, e1, e2, .tup (by omega) e4⟩
  | .fn f l, k, v, hk, hv => by
    simp only [viewK] at hk
    cases hc : clF h l with
    | none => rw [hc] at hk; exact hk.elim
    | some m =>
      rw [hc] at hk
      exact ⟨_, hk, rfl, .d (fn_view ho hg hb hc hv)⟩
  | .rsl id sz o n, k, v, hk, hv => by
    simp only [viewK] at hk
    cases hid : h id with
    | none => rw [hid] at hk; exact hk.elim
    | some ob =>
      rw [hid] at hk
      cases ob with
      | box => exact hk.elim
      | mp => exact hk.elim
      | vrow => exact hk.elim
      | dmp => exact hk.elim
      | row t sz' n' f =>
        simp only at hk
        cases hbq : Nat.beq sz sz' with
        | false => rw [hbq] at hk; exact hk.elim
        | true =>
          rw [hbq] at hk
          have := Nat.eq_of_beq_eq_true hbq
          subst this
          simp only at hk
          obtain ⟨hle, hk⟩ := hk
          have hd := row_view ho hg hb hid hle hv
          cases o with
          | zero => exact ⟨_, hk, rfl, .d (by simpa using hd)⟩
          | succ o => exact ⟨_, hk, rfl, .d hd⟩
  | .eptr .., k, v, hk, hv => hk.elim
  | .ptr id off, k, v, hk, hv => by
    simp only [viewK] at hk
    cases off with
    | succ off => exact hk.elim
    | zero =>
      simp only at hk
      cases hid : h id with
      | none => rw [hid] at hk; exact hk.elim
      | some ob =>
        rw [hid] at hk
        cases ob with
        | row => exact hk.elim
        | mp => exact hk.elim
        | vrow => exact hk.elim
        | dmp => exact hk.elim
        | box l tag =>
          simp only at hk
          cases hu : unliftF l with
          | none => rw [hu] at hk; exact hk.elim
          | some ds =>
            rw [hu] at hk
            cases hv with
            | @ptr _ _ _ b hbk => exact ⟨_, hk, rfl, .d (.pt _ b (box_view ho hg hb hid hu hbk))⟩
  | .rptr .., k, v, hk, hv => hk.elim
  | .mref id, k, v, hk, hv => by
    cases hv with
    | mref hb => exact ⟨_, hk, rfl, .d (.o _ rfl)⟩
  | .fresh .., k, v, hk, hv => hk.elim
theorem viewL_ok (L' : Lay) (ho : ∀ id o, h id = some o → RepO w gd L id o) (hg : ∀ b, gd b → gd' b) (hb : ∀ id o b, h id = some o → L.blk id = some b → gd' b ∧ b < w.heap.size) :
    ∀ (l : List AVal) (k : List AVal → Prop) (vs : Nat → Value), viewL h k l → (∀ i x, l[i]? = some x → RepA w L gd x (vs i)) → ∃ m, k m ∧ AVal.dataL m = true ∧ m.length = l.length ∧ ∀ i x, m[i]? = some x → RepA w L' gd' x (vs i)
  | [], k, vs, hk, hv => ⟨[], hk, rfl, rfl, fun i x hx => by simp at hx⟩
  | x :: r, k, vs, hk, hv => by
    simp only [viewL] at hk
    obtain ⟨y, h1, h2, h3⟩ := viewK_ok L' ho hg hb x _ (vs 0) hk (hv 0 x rfl)
    obtain ⟨m, e1, e2, e3, e4⟩ := viewL_ok L' ho hg hb r _ (fun i => vs (i + 1)) h1 (fun i z hz => hv (i + 1) z hz)
    refine ⟨y :: m, e1, by simp [AVal.dataL, h2, e2], by simp [e3], fun i z hz => ?_⟩
    cases i with
    | zero => simp only [List.getElem?_cons_zero, Option.some.injEq] at hz; subst hz; exact h3
    | succ i => simp only [List.getElem?_cons_succ] at hz; exact e4 i z hz
end
end
/-- What a closure has taken hold of, as it reads while a call runs. -/
def capK (h : Nat → Option AObj) (k : AVal → Prop) : AVal → Prop
  | .ptr id off => match h id with
    | some (.box l _) => viewL h (fun m => match unliftF m with
      | some ds => k (.eptr ds.length 1 (fun _ => ds) 0 off)
      | none => False) l
    | _ => False
  | .eptr a b c d e => k (.eptr a b c d e)
  | v => viewK h k v
def capL (h : Nat → Option AObj) (k : List AVal → Prop) : List AVal → Prop
  | [] => k []
  | x :: r => capK h (fun x => capL h (fun r => k (x :: r)) r) x
/-- May all cells be read, as data? -/
def seenL (h : Nat → Option AObj) : List AVal → Bool
  | [] => true
  | .d _ :: r => seenL h r
  | .mref _ :: r => seenL h r
  | .rsl id _ _ _ :: r => match h id with
    | some (.row ..) => seenL h r
    | _ => false
  | _ => false
/-- Has a closure taken hold of what no call may read? -/
def lostL (h : Nat → Option AObj) : List AVal → Bool
  | [] => false
  | .ptr id _ :: r => match h id with
    | some (.box l _) => match seenL h l with
      | true => lostL h r
      | false => true
    | _ => true
  | _ :: r => lostL h r
/-- An argument; is it what it was? -/
def argV (h : Nat → Option AObj) (k : AVal → Bool → Prop) : AVal → Prop
  | .fn f l => match lostL h l with
    | true => k .any true
    | false => capL h (fun l => k (.fn f l) true) l
  | .ptr id off => capK h (fun v => k v false) (.ptr id off)
  | v => match v.pure with
    | true => forceV (fun v => k v true) v
    | false => viewK h (fun v => k v false) v
/-- The arguments, one by one, then some more. -/
def argK (g : Nat → AVal) (h : Nat → Option AObj) (caps : List AVal) (k : List AVal → Bool → Prop) : List Operand → Prop
  | [] => capL h (fun l => k l (match caps with | [] => true | _ => false)) caps
  | x :: r => argV h (fun v b => argK g h caps (fun l b' => k (v :: l) (b && b')) r) (opnd g x)
section
variable {w : World} {gd : Nat → Prop} {L : Lay} {h : Nat → Option AObj} {g : Nat → AVal} {a : Act}
theorem eptr_of {b : Nat} {cs : Array Value} {t : TypeId} {ds : List D} (hh : w.heap[b]? = some (.cells cs t (0, 0))) (hlt : b < w.heap.size) (hlen : cs.size = ds.length) (hr : ∀ (j : Nat) (x : D), ds[j]? = some x → RepD w (fun b => b < w.heap.size) x (cs.getD j undef)) (off : Nat) :
    RepA w (L0 w.heap.size) (fun b => b < w.heap.size) (.eptr ds.length 1 (fun _ => ds) 0 off) (.pointer (some ⟨b, off, none⟩)) := by
  have hd : RepD w (fun b => b < w.heap.size) (.sl ds.length 1 fun _ => ds) (.slice (some ⟨b, 0, none⟩) 1 1) := by
    refine .sl _ _ _ b 0 1 (fun _ j => cs.getD j undef) (by omega) (by omega) (by decide) hlt hlt (fun _ _ => rfl) (fun k hk j hj => ?_) (fun k hk j x hx => ?_)
    · obtain rfl : k = 0 := by omega
      rw [show 0 + 0 * ds.length + j = j from by simp, cell_of_row w b _ cs t (0, 0) hh, Array.getD_eq_getD_getElem?, Array.getElem?_eq_getElem (by omega)]
      rfl
    · exact hr j x hx
  have := RepA.eptr (L := L0 w.heap.size) (off := off) hd (show 0 < 1 by omega)
  simpa using this
theorem capK_ok (H : Holds w gd L g h a) (hgd : ∀ b, gd b → b < w.heap.size) (htop : ∀ b, L.old b → b < w.heap.size) (hb : ∀ id o b, h id = some o → L.blk id = some b → b < w.heap.size) {x : AVal} {k : AVal → Prop} {v : Value} (hk : capK h k x) (hv : RepA w L (fun b => gd b ∨ L.old b) x v) :
    ∃ y, k y ∧ y.pure = true ∧ RepA w (L0 w.heap.size) (fun b => b < w.heap.size) y v := by
  have hall : ∀ b, b < w.heap.size → (gd b ∨ L.old b) → b < w.heap.size ∧ w.heap[b]? = w.heap[b]? := fun b hlt _ => ⟨hlt, rfl⟩
  have hobj : ∀ id o, h id = some o → RepO w (fun b => gd b ∨ L.old b) L id o := fun id o ho => (H.obj id o ho).mono (Nat.le_refl _) (fun b _ hb => ⟨.inl hb, rfl⟩) (fun _ _ => rfl) (fun b _ hb => ⟨hb, rfl⟩) (fun _ => true) (fun _ _ => ⟨rfl, rfl⟩) rfl (fun _ h => by cases h)
  have view : ∀ {x : AVal}, viewK h k x → RepA w L (fun b => gd b ∨ L.old b) x v → ∃ y, k y ∧ y.pure = true ∧ RepA w (L0 w.heap.size) (fun b => b < w.heap.size) y v := by
    intro x hk hv
    obtain ⟨y, h1, h2, h3⟩ := viewK_ok (gd' := fun b => b < w.heap.size) (L0 w.heap.size) hobj (fun b hb' => by rcases hb' with h | h; exact hgd b h; exact htop b h) (fun id o b h1 h2 => ⟨hb id o b h1 h2, hb id o b h1 h2⟩) x k v hk hv
    refine ⟨y, h1, ?_, h3⟩
    clear h1 h3 hk hv
    have : ∀ y : AVal, y.data = true → y.pure = true := by
      intro y
      apply AVal.rec (motive_1 := fun y => y.data = true → y.pure = true) (motive_2 := fun l => AVal.dataL l = true → AVal.pureL l = true)
      all_goals simp_all [AVal.data, AVal.pure, AVal.dataL, AVal.pureL]
    exact this y h2
  cases x with
  | ptr id off =>
    simp only [capK] at hk
    cases ho : h id with
    | none => rw [ho] at hk; exact hk.elim
    | some ob =>
      rw [ho] at hk
      cases ob with
      | row => exact hk.elim
      | mp => exact hk.elim
      | vrow => exact hk.elim
      | dmp => exact hk.elim
      | box l tag =>
        simp only at hk
        cases hv with
        | @ptr _ _ _ b hbk =>
          have hro := H.obj id _ ho
          cases hro with
          | @box _ tag cs t b' htag hb' hh hz h1 hr =>
            rw [hbk] at hb'
            cases hb'
            obtain ⟨m, hm, hdat, hmlen, hmr⟩ := viewL_ok (gd' := fun b => b < w.heap.size) (L0 w.heap.size) H.obj hgd (fun id o b h1 h2 => ⟨hb id o b h1 h2, hb id o b h1 h2⟩) l _ (fun i => cs.getD i undef) hk hr
            cases hu : unliftF m with
            | none => rw [hu] at hm; exact hm.elim
            | some ds =>
              rw [hu] at hm
              have hl := unliftF_eq hu
              refine ⟨_, hm, rfl, eptr_of hh (hb id _ b ho hbk) (by rw [hz, ← hmlen, hl]; simp) (fun j x hx => ?_) off⟩
              have := hmr j (.d x) (by rw [hl, List.getElem?_map, hx]; rfl)
              cases this with
              | d h => exact h
  | eptr a b c d e =>
    refine ⟨_, hk, rfl, ?_⟩
    cases hv with
    | eptr hs hkk => exact .eptr (hs.mono (Nat.le_refl _) hall) hkk
  | any => exact view hk hv
  | d x => exact view hk hv
  | agg l => exact view hk hv
  | tup l => exact view hk hv
  | rsl => exact view hk hv
  | rptr => exact view hk hv
  | mref => exact view hk hv
  | fn => exact view hk hv
  | fresh => exact view hk hv
theorem capL_ok (H : Holds w gd L g h a) (hgd : ∀ b, gd b → b < w.heap.size) (htop : ∀ b, L.old b → b < w.heap.size) (hb : ∀ id o b, h id = some o → L.blk id = some b → b < w.heap.size) : ∀ {l : List AVal} {k : List AVal → Prop} {vs : Nat → Value}, capL h k l → (∀ i x, l[i]? = some x → RepA w L (fun b => gd b ∨ L.old b) x (vs i)) →
    ∃ m, k m ∧ AVal.pureL m = true ∧ m.length = l.length ∧ ∀ i x, m[i]? = some x → RepA w (L0 w.heap.size) (fun b => b < w.heap.size) x (vs i)
  | [], k, vs, hk, hv => ⟨[], hk, rfl, rfl, fun i x hx => by simp at hx⟩
  | x :: r, k, vs, hk, hv => by
    obtain ⟨y, h1, h2, h3⟩ := capK_ok H hgd htop hb hk (hv 0 x rfl)
    obtain ⟨m, e1, e2, e3, e4⟩ := capL_ok H hgd htop hb (vs := fun i => vs (i + 1)) h1 (fun i z hz => hv (i + 1) z hz)
    refine ⟨y :: m, e1, by simp [AVal.pureL, h2, e2], by simp [e3], fun i z hz => ?_⟩
    cases i with
    | zero => simp only [List.getElem?_cons_zero, Option.some.injEq] at hz; subst hz; exact h3
    | succ i => simp only [List.getElem?_cons_succ] at hz; exact e4 i z hz
/-- The blocks that the arguments of a call may look at. -/
def seen (gd : Nat → Prop) (w : World) (b : Bool) : Nat → Prop := match b with
  | true => gd
  | false => fun b => b < w.heap.size
theorem argV_ok (H : Holds w gd L g h a) (hgd : ∀ b, gd b → b < w.heap.size) (htop : ∀ b, L.old b → b < w.heap.size) (hb : ∀ id o b, h id = some o → L.blk id = some b → b < w.heap.size) {x : AVal} {k : AVal → Bool → Prop} {v : Value} (hk : argV h k x) (hv : RepA w L gd x v) :
    ∃ y b, k y b ∧ ∀ b', (b' = true → b = true) → RepA w (L0 w.heap.size) (seen gd w b') y v := by
  have plain : ∀ {x : AVal}, (match x.pure with | true => forceV (fun v => k v true) x | false => viewK h (fun v => k v false) x) → RepA w L gd x v → ∃ y b, k y b ∧ ∀ b', (b' = true → b = true) → RepA w (L0 w.heap.size) (seen gd w b') y v := by
    intro x hk hv
    cases hp : x.pure with
    | true =>
      rw [hp] at hk
      have hrep := hv.enter hp
      refine ⟨x, true, forceV_eq (k := fun v => k v true) hk, fun b' _ => ?_⟩
      cases b' with
      | true => exact hrep
      | false => exact hrep.mono1 (Nat.le_refl _) (fun b _ hb => ⟨hgd b hb, rfl⟩) (fun _ _ => rfl)
    | false =>
      rw [hp] at hk
      obtain ⟨y, h1, h2, h3⟩ := viewK_ok (gd' := fun b => b < w.heap.size) (L0 w.heap.size) H.obj hgd (fun id o b h1 h2 => ⟨hb id o b h1 h2, hb id o b h1 h2⟩) x _ v hk hv
      refine ⟨y, false, h1, fun b' hb' => ?_⟩
      cases b' with
      | true => exact absurd (hb' rfl) (by decide)
      | false => exact h3
  cases x with
  | fn f l =>
    simp only [argV] at hk
    split at hk
    · exact ⟨.any, true, hk, fun b' _ => .any⟩
    cases hv with
    | @fn _ _ _ vs hz hr =>
      obtain ⟨m, h1, h2, h3, h4⟩ := capL_ok H hgd htop hb (vs := fun i => vs.getD i undef) hk hr
      exact ⟨_, true, h1, fun b' _ => .fn (by omega) fun i x hx => (h4 i x hx).mono1 (Nat.le_refl _) (fun b hlt _ => ⟨.inr hlt, rfl⟩) (fun _ _ => rfl)⟩
  | any => exact plain hk hv
  | d x => exact plain hk hv
  | agg l => exact plain hk hv
  | tup l => exact plain hk hv
  | ptr id off =>
    simp only [argV] at hk
    obtain ⟨y, h1, _, h3⟩ := capK_ok H hgd htop hb hk (hv.mono1 (Nat.le_refl _) (fun b _ hb => ⟨.inl hb, rfl⟩) (fun _ _ => rfl))
    refine ⟨y, false, h1, fun b' hb' => ?_⟩
    cases b' with
    | true => exact absurd (hb' rfl) (by decide)
    | false => exact h3
  | eptr => exact plain hk hv
  | rsl => exact plain hk hv
  | rptr => exact plain hk hv
  | mref => exact plain hk hv
  | fresh => exact plain hk hv
theorem argK_ok (H : Holds w gd L g h a) (hgd : ∀ b, gd b → b < w.heap.size) (htop : ∀ b, L.old b → b < w.heap.size) (hb : ∀ id o b, h id = some o → L.blk id = some b → b < w.heap.size) {caps : List AVal} {cvs : Array Value} (hcz : cvs.size = caps.length) (hcr : ∀ i x, caps[i]? = some x → RepA w L (fun b => gd b ∨ L.old b) x (cvs.getD i undef)) :
    ∀ {as : List Operand} {k : List AVal → Bool → Prop}, argK g h caps k as → ∃ l b, k l b ∧ l.length = as.length + cvs.size ∧ ∀ b', (b' = true → b = true) → ∀ (i : Nat) (x : AVal), l[i]? = some x → RepA w (L0 w.heap.size) (seen gd w b') x ((as.map a.eval ++ cvs.toList).getD i undef)
  | [], k, hk => by
    obtain ⟨m, h1, h2, h3, h4⟩ := capL_ok H hgd htop hb (vs := fun i => cvs.getD i undef) hk hcr
    refine ⟨m, _, h1, by simp; omega, fun b' hb' i x hx => ?_⟩
    have hlt : i < caps.length := by rw [← h3]; exact (List.getElem?_eq_some_iff.1 hx).1
    cases b' with
    | true =>
      cases caps with
      | nil => simp at hlt
      | cons => exact absurd (hb' rfl) (by simp)
    | false =>
      have := h4 i x hx
      simpa [seen, Array.getD_eq_getD_getElem?, List.getD_eq_getElem?_getD] using this
  | x :: r, k, hk => by
    obtain ⟨y, b, h1, h2⟩ := argV_ok H hgd htop hb hk (H.opnd x)
    obtain ⟨l, b2, e1, e2, e3⟩ := argK_ok H hgd htop hb hcz hcr h1
    refine ⟨y :: l, b && b2, e1, by simp [e2]; omega, fun b' hb' i z hz => ?_⟩
    have hbb : b' = true → b = true ∧ b2 = true := fun h => by simpa using hb' h
    cases i with
    | zero =>
      simp only [List.getElem?_cons_zero, Option.some.injEq] at hz
      subst hz
      exact h2 b' (fun h => (hbb h).1)
    | succ i =>
      simp only [List.getElem?_cons_succ] at hz
      simpa using e3 b' (fun h => (hbb h).2) i z hz
end
theorem Rel.goodW {C : Ctx} {L : Lay} {a : Act} {w : World} {g : Nat → AVal} {h : Nat → Option AObj} (H : Rel C L g h a w) : GoodW w (good C L h w) := C.hG.1.mono fun n k l e hR hlt => by
  have hnl := C.hG.2 n k l e
  exact ⟨⟨Nat.lt_of_lt_of_le hlt H.below.size, .inl hR, fun ⟨i, o, h1, h2⟩ => by
    rcases (H.own0 i o n h1 h2).1 with hq | hq
    · omega
    · exact hnl hq⟩, H.below.block n hlt hnl⟩
theorem GoodW.seen {w : World} {gd : Nat → Prop} (h : GoodW w gd) (b : Bool) : GoodW w (seen gd w b) := h.mono fun n k l e hR hlt => by
  refine ⟨?_, rfl⟩
  cases b with
  | true => exact hR
  | false => exact hlt
end Towline
