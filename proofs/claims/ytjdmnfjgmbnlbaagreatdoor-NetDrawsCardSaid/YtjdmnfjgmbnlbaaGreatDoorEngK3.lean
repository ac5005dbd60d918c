/- The engine: in whatever order a drawn statement runs, the same comes out. Over any program. -/
import Derived.Test.YtjdmnfjgmbnlbaaGreatDoorEngK2
namespace Towline
open Go Go.RowKit
set_option linter.unusedVariables false

def disjW {α β : Type} : List (Nat × α) → List (Nat × β) → Bool
  | [], _ => true
  | (t, _) :: r, s => (match lookW t s with | some _ => false | none => true) && disjW r s
def disjN {α : Type} : List Nat → List (Nat × α) → Bool
  | [], _ => true
  | t :: r, s => (match lookW t s with | some _ => false | none => true) && disjN r s
def freeW (d : Nat) : List (Nat × AVal) → Bool
  | [] => true
  | (_, v) :: r => v.free d && freeW d r
def freeWh (d : Nat) : List (Nat × Option AObj) → Bool
  | [] => true
  | (j, o) :: r => !Nat.beq j d && (match o with | some o => o.free d | none => true) && freeWh d r
def freeR : List Nat → Rc → Bool
  | [], _ => true
  | d :: fr, r => freeW d r.wt && freeWh d r.wh && freeR fr r
/-- Two operations, the first one ahead of the second in the text. -/
def okPair (ord : Bool) (r s : Rc) : Bool :=
  disjW r.wt s.wt && freeR s.fr r && (ord || (disjN r.rt s.wt && disjN s.rt r.wt && disjN r.rh s.wh && disjN s.rh r.wh && disjW r.wh s.wh && freeR r.fr s))
def okWith (i : Nat) (r : Rc) : List Rc → List Nat → Bool
  | [], _ => true
  | s :: ss, m :: ms => okPair (m.testBit i) r s && okWith i r ss ms
  | _ :: _, [] => false
def okR : Nat → List Rc → List Nat → Bool
  | _, [], _ => true
  | i, r :: rs, _ :: ms => okWith i r rs ms && okR (i + 1) rs ms
  | _, _ :: _, [] => false
def freeAll (env : Env) (heap : Heap) : List Nat → Bool
  | [] => true
  | d :: r => freeEnv d env && freeHeap d heap && freeAll env heap r
def freshAll (env : Env) (heap : Heap) : List Rc → Bool
  | [] => true
  | r :: rs => freeAll env heap r.fr && freshAll env heap rs
def maskOf (acc : List Nat) : List Edge → Nat
  | [] => 0
  | e :: r => match Region.binds .any e with
    | true => 2 ^ e.on ||| acc.getD e.on 0 ||| maskOf acc r
    | false => maskOf acc r
def befs : List Oper → List Nat → List Nat
  | [], acc => acc
  | o :: r, acc => befs r (acc ++ [maskOf acc o.after.toList])
def edgesOk : Nat → List Oper → Bool
  | _, [] => true
  | n, o :: r => o.after.toList.all (fun e => !Region.binds .any e || Nat.blt e.on n) && edgesOk (n + 1) r
def drawOk (ops : List Oper) (recs : List Rc) (env0 : Env) (heap0 : Heap) : Bool :=
  edgesOk 0 ops && okR 0 recs (befs ops []) && freshAll env0 heap0 recs

theorem disjW_ok {α β : Type} : ∀ {r : List (Nat × α)} {s : List (Nat × β)}, disjW r s = true → ∀ t v, lookW t r = some v → lookW t s = none
  | [], s, _, t, v, e => by simp [lookW] at e
  | (j, x) :: r, s, h, t, v, e => by
    simp only [disjW, Bool.and_eq_true] at h
    rw [lookW_cons] at e
    split at e
    · rename_i hj
      subst hj
      cases hl : lookW t s with
      | none => rfl
      | some _ => rw [hl] at h; simp at h
    · exact disjW_ok h.2 t v e
theorem disjN_ok {α : Type} : ∀ {r : List Nat} {s : List (Nat × α)}, disjN r s = true → ∀ t ∈ r, lookW t s = none
  | [], s, _, t, e => by simp at e
  | j :: r, s, h, t, e => by
    simp only [disjN, Bool.and_eq_true] at h
    rcases List.mem_cons.1 e with rfl | e
    · cases hl : lookW t s with
      | none => rfl
      | some _ => rw [hl] at h; simp at h
    · exact disjN_ok h.2 t e
theorem freeW_ok {d : Nat} : ∀ {l : List (Nat × AVal)}, freeW d l = true → ∀ t v, lookW t l = some v → v.free d = true
  | [], _, t, v, e => by simp [lookW] at e
  | (j, x) :: r, h, t, v, e => by
    simp only [freeW, Bool.and_eq_true] at h
    rw [lookW_cons] at e
    split at e
    · cases e; exact h.1
    · exact freeW_ok h.2 t v e
theorem freeWh_ok {d : Nat} : ∀ {l : List (Nat × Option AObj)}, freeWh d l = true → ∀ t v, lookW t l = some v → t ≠ d ∧ ∀ o, v = some o → o.free d = true
  | [], _, t, v, e => by simp [lookW] at e
  | (j, x) :: r, h, t, v, e => by
    simp only [freeWh, Bool.and_eq_true] at h
    rw [lookW_cons] at e
    split at e
    · rename_i hj
      cases e
      rw [hj]
      refine ⟨beq_ne h.1.1, fun o ho => ?_⟩
      have := h.1.2
      rw [ho] at this
      exact this
    · exact freeWh_ok h.2 t v e
theorem freeR_ok {r : Rc} : ∀ {fr : List Nat}, freeR fr r = true → ∀ d ∈ fr, freeW d r.wt = true ∧ freeWh d r.wh = true
  | [], _, d, e => by simp at e
  | j :: fr, h, d, e => by
    simp only [freeR, Bool.and_eq_true] at h
    rcases List.mem_cons.1 e with rfl | e
    · exact h.1
    · exact freeR_ok h.2 d e
theorem okWith_ok {i : Nat} {r : Rc} : ∀ {ss : List Rc} {ms : List Nat}, okWith i r ss ms = true → ∀ (j : Nat) (s : Rc), ss[j]? = some s → ∃ m : Nat, ms[j]? = some m ∧ okPair (m.testBit i) r s = true
  | [], _, _, j, s, e => by simp at e
  | s0 :: ss, m :: ms, h, j, s, e => by
    simp only [okWith, Bool.and_eq_true] at h
    cases j with
    | zero => simp only [List.getElem?_cons_zero, Option.some.injEq] at e; subst e; exact ⟨m, rfl, h.1⟩
    | succ j => simp only [List.getElem?_cons_succ] at e ⊢; exact okWith_ok h.2 j s e
  | _ :: _, [], h, j, s, e => by simp [okWith] at h
theorem okR_ok : ∀ {rs : List Rc} {ms : List Nat} {k : Nat}, okR k rs ms = true → ∀ (i j : Nat) (r s : Rc), i < j → rs[i]? = some r → rs[j]? = some s → ∃ m : Nat, ms[j]? = some m ∧ okPair (m.testBit (k + i)) r s = true
  | [], _, _, _, i, j, r, s, _, e, _ => by simp at e
  | r0 :: rs, m :: ms, k, h, i, j, r, s, hij, e1, e2 => by
    simp only [okR, Bool.and_eq_true] at h
    cases j with
    | zero => omega
    | succ j =>
      simp only [List.getElem?_cons_succ] at e2 ⊢
      cases i with
      | zero =>
        simp only [List.getElem?_cons_zero, Option.some.injEq] at e1
        subst e1
        exact okWith_ok h.1 j s e2
      | succ i =>
        simp only [List.getElem?_cons_succ] at e1
        obtain ⟨m', h1, h2⟩ := okR_ok h.2 i j r s (by omega) e1 e2
        exact ⟨m', h1, by rw [show k + (i + 1) = k + 1 + i from by omega]; exact h2⟩
  | _ :: _, [], _, h, i, j, r, s, _, e1, e2 => by simp [okR] at h
/-- What is done when an operation is done: all that must stand ahead of it is. -/
def Closed (ops : List Oper) (D : Nat → Bool) : Prop := ∀ j o, ops[j]? = some o → D j = true → ∀ e ∈ o.after.toList, Region.binds .any e = true → D e.on = true
theorem maskOf_bit {acc : List Nat} {i : Nat} : ∀ {es : List Edge}, (maskOf acc es).testBit i = true → ∃ e ∈ es, Region.binds .any e = true ∧ (i = e.on ∨ (acc.getD e.on 0).testBit i = true)
  | [], h => by simp [maskOf] at h
  | e :: r, h => by
    simp only [maskOf] at h
    cases hb : Region.binds .any e with
    | false =>
      rw [hb] at h
      obtain ⟨e', h1, h2⟩ := maskOf_bit h
      exact ⟨e', by simp [h1], h2⟩
    | true =>
      rw [hb] at h
      simp only [Nat.testBit_or, Bool.or_eq_true] at h
      rcases h with (h | h) | h
      · refine ⟨e, by simp, hb, .inl ?_⟩
        rw [Nat.testBit_two_pow] at h
        have : e.on = i := by simpa using h
        exact this.symm
      · exact ⟨e, by simp, hb, .inr h⟩
      · obtain ⟨e', h1, h2⟩ := maskOf_bit h
        exact ⟨e', by simp [h1], h2⟩
theorem befs_closed {ops : List Oper} {D : Nat → Bool} (hD : Closed ops D) : ∀ (l : List Oper) (acc : List Nat), (∀ k o, l[k]? = some o → ops[acc.length + k]? = some o) → (∀ j m, acc[j]? = some m → D j = true → ∀ i, m.testBit i = true → D i = true) →
    ∀ j m, (befs l acc)[j]? = some m → D j = true → ∀ i, m.testBit i = true → D i = true
  | [], acc, _, h, j, m, e => h j m e
  | o :: r, acc, hl, h, j, m, e => by
    refine befs_closed hD r (acc ++ [maskOf acc o.after.toList]) (fun k o' hk => ?_) (fun j m hj hDj i hi => ?_) j m e
    · rw [List.length_append]
      have := hl (k + 1) o' (by simpa using hk)
      simpa [Nat.add_assoc, Nat.add_comm 1 k] using this
    · rw [List.getElem?_append] at hj
      split at hj
      · exact h j m hj hDj i hi
      · rename_i hge
        have hj0 : j = acc.length := by
          have := (List.getElem?_eq_some_iff.1 hj).1
          simp at this; omega
        subst hj0
        simp only [Nat.sub_self, List.getElem?_cons_zero, Option.some.injEq] at hj
        subst hj
        obtain ⟨ed, h1, h2, h3⟩ := maskOf_bit hi
        have hon := hD acc.length o (by simpa using hl 0 o rfl) hDj ed h1 h2
        rcases h3 with h3 | h3
        · rw [h3]; exact hon
        · cases ha : acc[ed.on]? with
          | none => rw [List.getD_eq_getElem?_getD, ha] at h3; simp at h3
          | some m' => rw [List.getD_eq_getElem?_getD, ha] at h3; exact h ed.on m' ha hon i h3
/-- Slots, when just the operations of D are done. -/
def SG : List Rc → Nat → (Nat → Bool) → (Nat → AVal) → (Nat → AVal)
  | [], _, _, g => g
  | r :: rs, i, D, g => SG rs (i + 1) D (match D i with | true => r.g g | false => g)
def SH : List Rc → Nat → (Nat → Bool) → (Nat → Option AObj) → (Nat → Option AObj)
  | [], _, _, g => g
  | r :: rs, i, D, g => SH rs (i + 1) D (match D i with | true => r.h g | false => g)
theorem SG_agree {t : Nat} : ∀ {rs : List Rc} {i : Nat} {D D' : Nat → Bool} {g g' : Nat → AVal}, (∀ j r v, rs[j]? = some r → lookW t r.wt = some v → D (i + j) = D' (i + j)) → g t = g' t → SG rs i D g t = SG rs i D' g' t
  | [], i, D, D', g, g', _, e => e
  | r :: rs, i, D, D', g, g', h, e => by
    simp only [SG]
    refine SG_agree (fun j r' v hj hv => ?_) ?_
    · have := h (j + 1) r' v (by simpa using hj) hv
      rwa [show i + (j + 1) = i + 1 + j from by omega] at this
    · cases hl : lookW t r.wt with
      | none =>
        have : ∀ (b : Bool) (g : Nat → AVal), (match b with | true => r.g g | false => g) t = g t := by intro b g; cases b <;> simp [Rc.g, hl]
        rw [this, this]; exact e
      | some v =>
        have := h 0 r v rfl hl
        simp only [Nat.add_zero] at this
        rw [this]
        cases D' i with
        | true => simp [Rc.g, hl]
        | false => exact e
theorem SH_agree {t : Nat} : ∀ {rs : List Rc} {i : Nat} {D D' : Nat → Bool} {g g' : Nat → Option AObj}, (∀ j r v, rs[j]? = some r → lookW t r.wh = some v → D (i + j) = D' (i + j)) → g t = g' t → SH rs i D g t = SH rs i D' g' t
  | [], i, D, D', g, g', _, e => e
  | r :: rs, i, D, D', g, g', h, e => by
    simp only [SH]
    refine SH_agree (fun j r' v hj hv => ?_) ?_
    · have := h (j + 1) r' v (by simpa using hj) hv
      rwa [show i + (j + 1) = i + 1 + j from by omega] at this
    · cases hl : lookW t r.wh with
      | none =>
        have : ∀ (b : Bool) (g : Nat → Option AObj), (match b with | true => r.h g | false => g) t = g t := by intro b g; cases b <;> simp [Rc.h, hl]
        rw [this, this]; exact e
      | some v =>
        have := h 0 r v rfl hl
        simp only [Nat.add_zero] at this
        rw [this]
        cases D' i with
        | true => simp [Rc.h, hl]
        | false => exact e
theorem SG_none {t : Nat} : ∀ {rs : List Rc} {i : Nat} {D : Nat → Bool} {g : Nat → AVal}, (∀ j r v, rs[j]? = some r → lookW t r.wt = some v → D (i + j) = false) → SG rs i D g t = g t
  | [], _, _, _, _ => rfl
  | r :: rs, i, D, g, h => by
    simp only [SG]
    rw [SG_none (fun j r' v hj hv => by
      have := h (j + 1) r' v (by simpa using hj) hv
      rwa [show i + (j + 1) = i + 1 + j from by omega] at this)]
    cases hl : lookW t r.wt with
    | none => cases D i <;> simp [Rc.g, hl]
    | some v =>
      have := h 0 r v rfl hl
      simp only [Nat.add_zero] at this
      rw [this]
theorem SH_none {t : Nat} : ∀ {rs : List Rc} {i : Nat} {D : Nat → Bool} {g : Nat → Option AObj}, (∀ j r v, rs[j]? = some r → lookW t r.wh = some v → D (i + j) = false) → SH rs i D g t = g t
  | [], _, _, _, _ => rfl
  | r :: rs, i, D, g, h => by
    simp only [SH]
    rw [SH_none (fun j r' v hj hv => by
      have := h (j + 1) r' v (by simpa using hj) hv
      rwa [show i + (j + 1) = i + 1 + j from by omega] at this)]
    cases hl : lookW t r.wh with
    | none => cases D i <;> simp [Rc.h, hl]
    | some v =>
      have := h 0 r v rfl hl
      simp only [Nat.add_zero] at this
      rw [this]
/-- The value of a slot is one that some operation that is done wrote, or the old one. -/
theorem SG_from {t : Nat} : ∀ (rs : List Rc) (i : Nat) (D : Nat → Bool) (g : Nat → AVal), SG rs i D g t = g t ∨ ∃ j r v, rs[j]? = some r ∧ D (i + j) = true ∧ lookW t r.wt = some v ∧ SG rs i D g t = v
  | [], _, _, _ => .inl rfl
  | r :: rs, i, D, g => by
    simp only [SG]
    rcases SG_from (t := t) rs (i + 1) D (match D i with | true => r.g g | false => g) with h | ⟨j, r', v, h1, h2, h3, h4⟩
    · rw [h]
      cases hD : D i with
      | false => exact .inl rfl
      | true =>
        cases hl : lookW t r.wt with
        | none => left; simp [Rc.g, hl]
        | some v => right; exact ⟨0, r, v, rfl, by simpa using hD, hl, by simp [Rc.g, hl]⟩
    · right; exact ⟨j + 1, r', v, by simpa using h1, by rw [show i + (j + 1) = i + 1 + j from by omega]; exact h2, h3, h4⟩
theorem SH_from {t : Nat} : ∀ (rs : List Rc) (i : Nat) (D : Nat → Bool) (g : Nat → Option AObj), SH rs i D g t = g t ∨ ∃ j r v, rs[j]? = some r ∧ D (i + j) = true ∧ lookW t r.wh = some v ∧ SH rs i D g t = v
  | [], _, _, _ => .inl rfl
  | r :: rs, i, D, g => by
    simp only [SH]
    rcases SH_from (t := t) rs (i + 1) D (match D i with | true => r.h g | false => g) with h | ⟨j, r', v, h1, h2, h3, h4⟩
    · rw [h]
      cases hD : D i with
      | false => exact .inl rfl
      | true =>
        cases hl : lookW t r.wh with
        | none => left; simp [Rc.h, hl]
        | some v => right; exact ⟨0, r, v, rfl, by simpa using hD, hl, by simp [Rc.h, hl]⟩
    · right; exact ⟨j + 1, r', v, by simpa using h1, by rw [show i + (j + 1) = i + 1 + j from by omega]; exact h2, h3, h4⟩
theorem SG_split : ∀ (rs ss : List Rc) (i : Nat) (D : Nat → Bool) (g : Nat → AVal), SG (rs ++ ss) i D g = SG ss (i + rs.length) D (SG rs i D g)
  | [], ss, i, D, g => rfl
  | r :: rs, ss, i, D, g => by
    simp only [List.cons_append, SG]
    rw [SG_split rs ss (i + 1) D _, List.length_cons, show i + (rs.length + 1) = i + 1 + rs.length from by omega]
theorem SH_split : ∀ (rs ss : List Rc) (i : Nat) (D : Nat → Bool) (g : Nat → Option AObj), SH (rs ++ ss) i D g = SH ss (i + rs.length) D (SH rs i D g)
  | [], ss, i, D, g => rfl
  | r :: rs, ss, i, D, g => by
    simp only [List.cons_append, SH]
    rw [SH_split rs ss (i + 1) D _, List.length_cons, show i + (rs.length + 1) = i + 1 + rs.length from by omega]
end Towline
