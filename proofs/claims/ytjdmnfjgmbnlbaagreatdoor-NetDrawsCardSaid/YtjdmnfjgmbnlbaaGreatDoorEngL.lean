/- The engine, part twelve: the names of objects may be changed. Over any program. -/
import Derived.Test.YtjdmnfjgmbnlbaaGreatDoorEngJ
namespace Towline
open Go Go.RowKit
set_option linter.unusedVariables false
/-- Two names, the one for the other. -/
def sw (p q i : Nat) : Nat := match Nat.beq i p with
  | true => q
  | false => match Nat.beq i q with
    | true => p
    | false => i
theorem sw_eq (p q i : Nat) : sw p q i = if i = p then q else if i = q then p else i := by
  unfold sw
  split
  · rename_i h; rw [if_pos (Nat.eq_of_beq_eq_true h)]
  · rename_i h
    have h := Nat.ne_of_beq_eq_false h
    rw [if_neg h]
    split
    · rename_i h; rw [if_pos (Nat.eq_of_beq_eq_true h)]
    · rename_i h; rw [if_neg (Nat.ne_of_beq_eq_false h)]
theorem sw_sw (p q i : Nat) : sw p q (sw p q i) = i := by
  simp only [sw_eq]; repeat' split
  all_goals omega
mutual
def AVal.ren (p q : Nat) : AVal → AVal
  | .any => .any
  | .d x => .d x
  | .eptr a b c k e => .eptr a b c k e
  | .agg l => .agg (AVal.renL p q l)
  | .tup l => .tup (AVal.renL p q l)
  | .ptr j o => .ptr (sw p q j) o
  | .rsl j a b c => .rsl (sw p q j) a b c
  | .rptr j a b c => .rptr (sw p q j) a b c
  | .mref j => .mref (sw p q j)
  | .fn f l => .fn f (AVal.renL p q l)
  | .fresh a b c k => .fresh a b c k
def AVal.renL (p q : Nat) : List AVal → List AVal
  | [] => []
  | x :: r => AVal.ren p q x :: AVal.renL p q r
end
theorem AVal.renL_eq (p q : Nat) : ∀ l, AVal.renL p q l = l.map (AVal.ren p q)
  | [] => rfl
  | x :: r => by rw [AVal.renL, AVal.renL_eq p q r]; rfl
def AObj.ren (p q : Nat) : AObj → AObj
  | .box l tag => .box (AVal.renL p q l) tag
  | .row t sz n f => .row t sz n f
  | .mp l => .mp (l.map fun x => (x.1, x.2.ren p q))
  | .vrow t l => .vrow t (AVal.renL p q l)
  | .dmp l => .dmp l
def Lay.ren (p q : Nat) (L : Lay) : Lay := ⟨fun i => L.blk (sw p q i), fun i => L.cap (sw p q i), L.old⟩
theorem RepA.ren {w : World} {L : Lay} (p q : Nat) {gd : Nat → Prop} {x : AVal} {v : Value} (h : RepA w L gd x v) : RepA w (L.ren p q) gd (x.ren p q) v := by
  have hb : ∀ id, (L.ren p q).blk (sw p q id) = L.blk id := fun id => by simp only [Lay.ren, sw_sw]
  have hc : ∀ id, (L.ren p q).cap (sw p q id) = L.cap id := fun id => by simp only [Lay.ren, sw_sw]
  induction h with
  | any => exact .any
  | d h => exact .d h
  | agg hz h1 h ih =>
    rw [AVal.ren, AVal.renL_eq]
    refine .agg (by simpa using hz) (fun i hi => h1 i (by simpa using hi)) fun i x hx => ?_
    rw [List.getElem?_map] at hx
    obtain ⟨y, hy, rfl⟩ := Option.map_eq_some_iff.1 hx
    exact ih i y hy
  | tup hz h ih =>
    rw [AVal.ren, AVal.renL_eq]
    refine .tup (by simpa using hz) fun i x hx => ?_
    rw [List.getElem?_map] at hx
    obtain ⟨y, hy, rfl⟩ := Option.map_eq_some_iff.1 hx
    exact ih i y hy
  | ptr h => rw [AVal.ren]; exact .ptr (by rw [hb]; exact h)
  | eptr h hk => exact .eptr h hk
  | @rsl good id sz o n ad hcap hbl ha =>
    rw [AVal.ren]
    have := RepA.rsl (w := w) (L := L.ren p q) (good := good) (id := sw p q id) (sz := sz) (o := o) (n := n) (ad := ad) (by rw [hc]; exact hcap) (by rw [hb]; exact hbl) (by rw [hb, hc]; exact ha)
    rw [hc] at this
    exact this
  | rptr h => rw [AVal.ren]; exact .rptr (by rw [hb]; exact h)
  | mref h => rw [AVal.ren]; exact .mref (by rw [hb]; exact h)
  | fn hz h ih =>
    rw [AVal.ren, AVal.renL_eq]
    refine .fn (by simpa using hz) fun i x hx => ?_
    rw [List.getElem?_map] at hx
    obtain ⟨y, hy, rfl⟩ := Option.map_eq_some_iff.1 hx
    exact ih i y hy
def renE (p q : Nat) : Env → Env
  | [] => []
  | (t, v) :: r => (t, v.ren p q) :: renE p q r
def renH (p q : Nat) : Heap → Heap
  | [] => []
  | (t, o) :: r => (sw p q t, o.ren p q) :: renH p q r
theorem look_renE (p q t : Nat) : ∀ env : Env, look t (renE p q env) = (look t env).ren p q
  | [] => by simp [renE, look, AVal.ren]
  | (s, v) :: r => by
    simp only [renE, look_cons]
    split
    · rfl
    · exact look_renE p q t r
theorem lookO_renH (p q t : Nat) : ∀ heap : Heap, lookO t (renH p q heap) = (lookO (sw p q t) heap).map (AObj.ren p q)
  | [] => by simp [renH, lookO]
  | (s, v) :: r => by
    simp only [renH, lookO_cons]
    by_cases h : t = sw p q s
    · rw [if_pos h, if_pos (by rw [h, sw_sw])]; rfl
    · rw [if_neg h, if_neg (fun e => h (by rw [← e, sw_sw]))]; exact lookO_renH p q t r
theorem RepO.ren {w : World} {L : Lay} (p q : Nat) {gd : Nat → Prop} {id : Nat} {o : AObj} (h : RepO w gd L id o) : RepO w gd (L.ren p q) (sw p q id) (o.ren p q) := by
  have hb : ∀ id, (L.ren p q).blk (sw p q id) = L.blk id := fun id => by simp only [Lay.ren, sw_sw]
  have hc : ∀ id, (L.ren p q).cap (sw p q id) = L.cap id := fun id => by simp only [Lay.ren, sw_sw]
  cases h with
  | box h0 h1 h2 h3 h4 h5 =>
    rw [AObj.ren, AVal.renL_eq]
    refine .box h0 (by rw [hb]; exact h1) h2 (by simpa using h3) (fun i hi => h4 i (by simpa using hi)) fun i x hx => ?_
    rw [List.getElem?_map] at hx
    obtain ⟨y, hy, rfl⟩ := Option.map_eq_some_iff.1 hx
    exact (h5 i y hy).ren p q
  | mp h1 h2 h3 h4 h5 h6 =>
    refine .mp (by rw [hb]; exact h1) h2 (by simpa using h3) (fun i x e hx he => ?_) h5 fun i x e hx he => ?_
    all_goals (rw [List.getElem?_map] at hx; obtain ⟨y, hy, rfl⟩ := Option.map_eq_some_iff.1 hx)
    · exact h4 i y e hy he
    · exact (h6 i y e hy he).ren p q
  | vrow0 h1 h2 => exact .vrow0 (by rw [hb]; exact h1) (by rw [hc]; exact h2)
  | vrow h1 h2 h3 h4 h5 h6 h7 =>
    rw [AObj.ren, AVal.renL_eq]
    refine .vrow (by rw [hb]; exact h1) h2 (by rw [List.length_map, hc]; exact h3) (by rw [hc]; exact h4) (by rw [hc]; exact h5) (fun i hi => h6 i (by simpa using hi)) fun i x hx => ?_
    rw [List.getElem?_map] at hx
    obtain ⟨y, hy, rfl⟩ := Option.map_eq_some_iff.1 hx
    exact (h7 i y hy).ren p q
  | dmp h1 h2 h3 h4 h5 => exact .dmp (by rw [hb]; exact h1) h2 h3 h4 h5
  | row0 h1 h2 => exact .row0 (by rw [hb]; exact h1) (by rw [hc]; exact h2)
  | row h1 h2 h3 h4 h5 h6 h7 h8 h9 h10 => exact .row (by rw [hb]; exact h1) h2 (by rw [hc]; exact h3) (by rw [hc]; exact h4) (by rw [hc]; exact h5) h6 h7 h8 h9 (by rw [hc]; exact h10)
theorem Rel.ren {C : Ctx} {L : Lay} {env : Env} {heap : Heap} {a : Act} {w : World} (p q : Nat) (hp : p ∉ C.lid) (hq : q ∉ C.lid) (H : Rel C L (lk env) (lko heap) a w) : Rel C (L.ren p q) (lk (renE p q env)) (lko (renH p q heap)) a w := by
  have ho : ∀ id o, lko (renH p q heap) id = some o → ∃ o', lko heap (sw p q id) = some o' ∧ o = o'.ren p q := by
    intro id o h
    have h : lookO id (renH p q heap) = some o := h
    rw [lookO_renH] at h
    obtain ⟨o', h1, h2⟩ := Option.map_eq_some_iff.1 h
    exact ⟨o', h1, h2.symm⟩
  have ho2 : ∀ id o, lko heap id = some o → lko (renH p q heap) (sw p q id) = some (o.ren p q) := by
    intro id o h
    have h : lookO id heap = some o := h
    show lookO _ _ = _
    rw [lookO_renH, sw_sw, h]; rfl
  have hg : ∀ b, good C L (lko heap) w b → good C (L.ren p q) (lko (renH p q heap)) w b := by
    intro b hb
    refine ⟨hb.1, hb.2.1, fun ⟨id, o, h1, h2⟩ => hb.2.2 ?_⟩
    obtain ⟨o', h3, _⟩ := ho id o h1
    exact ⟨sw p q id, o', h3, h2⟩
  have hmono : ∀ {x v}, RepA w (L.ren p q) (good C L (lko heap) w) x v → RepA w (L.ren p q) (good C (L.ren p q) (lko (renH p q heap)) w) x v :=
    fun h => h.mono (Nat.le_refl _) (fun _ => true) (fun id _ => ⟨rfl, rfl⟩) (fun b hlt hb => ⟨hb, rfl⟩) (fun b hlt hb => ⟨hg b hb, rfl⟩) (fun id h => by cases h)
  exact {
    below := H.below
    top := H.top
    size := H.size
    defers := H.defers
    slot := fun t => by
      show RepA _ _ _ (look t (renE p q env)) _
      rw [look_renE]
      exact hmono ((H.slot t).ren p q)
    obj := fun id o h => by
      obtain ⟨o', h1, rfl⟩ := ho id o h
      have := ((H.obj _ o' h1).ren p q)
      rw [sw_sw] at this
      exact this.mono (Nat.le_refl _) (fun b hlt hb => ⟨hg b hb, rfl⟩) (fun b _ => rfl) (fun b _ hb => ⟨hb, rfl⟩) (fun _ => true) (fun id _ => ⟨rfl, rfl⟩) rfl (fun id h => by cases h)
    inj := fun i j oi oj b h1 h2 h3 h4 => by
      obtain ⟨o1, k1, _⟩ := ho i oi h1
      obtain ⟨o2, k2, _⟩ := ho j oj h2
      have := H.inj _ _ _ _ b k1 k2 h3 h4
      rw [← sw_sw p q i, this, sw_sw]
    own0 := fun id o b h1 h2 => by
      obtain ⟨o1, k1, _⟩ := ho id o h1
      exact H.own0 _ _ b k1 h2
    kept := fun id o hl h1 => by
      obtain ⟨o1, k1, _⟩ := ho id o h1
      have e : sw p q id = id := by
        have h1 : id ≠ p := fun e => hp (e ▸ hl)
        have h2 : id ≠ q := fun e => hq (e ▸ hl)
        rw [sw_eq, if_neg h1, if_neg h2]
      simp only [Lay.ren, e]
      rw [e] at k1
      exact H.kept id o1 hl k1
    lidn := H.lidn }
/-- Names of lent objects stay. -/
def renEs (lid : List Nat) : List (Nat × Nat) → Env → Env
  | [], e => e
  | (p, q) :: r, e => match memN p lid with
    | true => e
    | false => match memN q lid with
      | true => e
      | false => renEs lid r (renE p q e)
def renHs (lid : List Nat) : List (Nat × Nat) → Heap → Heap
  | [], e => e
  | (p, q) :: r, e => match memN p lid with
    | true => e
    | false => match memN q lid with
      | true => e
      | false => renHs lid r (renH p q e)
theorem Rel.rens {C : Ctx} {a : Act} {w : World} : ∀ (ps : List (Nat × Nat)) {L : Lay} {env : Env} {heap : Heap}, Rel C L (lk env) (lko heap) a w → ∃ L', Rel C L' (lk (renEs C.lid ps env)) (lko (renHs C.lid ps heap)) a w
  | [], L, _, _, H => ⟨L, H⟩
  | (p, q) :: r, L, env, heap, H => by
    unfold renEs renHs
    cases hp : memN p C.lid with
    | true => exact ⟨L, H⟩
    | false =>
      cases hq : memN q C.lid with
      | true => exact ⟨L, H⟩
      | false => exact Rel.rens r (H.ren p q (not_memN hp) (not_memN hq))
section
variable {C : Ctx} {T : Tys}
/-- A loop, at the end of a round of which objects may get other names. -/
theorem ALoop.introR {X : Type} {c : Code} {Q : Exit → Env → Heap → Prop} {env : Env} {heap : Heap} (hT : TysOk C.P T) (hM : C.P.follows .mixedOrders = true) (S : X → Env × Heap) (μ : X → Nat) (x0 : X) (h0 : CovE env (S x0).1 (CovH heap (S x0).2))
    (round : ∀ x, ARun C T c (fun e env' heap' => match e with | .normal => ∃ x' ps, μ x' < μ x ∧ CovE (renEs C.lid ps env') (S x').1 (CovH (renHs C.lid ps heap') (S x').2) | e => Q e env' heap') (S x).1 (S x).2) : ALoop C c Q env heap :=
  ⟨AWp.loop (fun x => (S x).1) (fun x => (S x).2) μ x0 (Covers.mk' h0) fun x L a w hr => wp_mono ((ARun_ok hT hM (round x)) L a w hr) fun e a' w' ⟨L', env', heap', h1, h2⟩ => by
    cases e with
    | normal =>
      obtain ⟨x', ps, h3, h4⟩ := h2
      obtain ⟨L2, h5⟩ := h1.rens ps
      exact ⟨L2, _, _, h5, x', h3, Covers.mk' h4⟩
    | _ => exact ⟨L', env', heap', h1, h2⟩⟩
/-- A loop, n rounds at most, each as it comes; behind each round objects get other names, then only the slots ks and the objects os are kept. -/
def ARoundsR (C : Ctx) (T : Tys) (c : Code) (Q : Exit → Env → Heap → Prop) (ps : List (Nat × Nat)) (ks os : List Nat) : Nat → Env → Heap → Prop
  | 0, _, _ => False
  | n + 1, env, heap => ARun C T c (fun e env heap => match e with | .normal => keepE (fun env => keepH (fun heap => deepH (fun heap => ARoundsR C T c Q ps ks os n env heap) heap) (renHs C.lid ps heap) os) (renEs C.lid ps env) ks | e => Q e env heap) env heap
theorem ARoundsR_ok (hT : TysOk C.P T) (hM : C.P.follows .mixedOrders = true) {c : Code} {Q : Exit → Env → Heap → Prop} {ps : List (Nat × Nat)} {ks os : List Nat} : ∀ (n : Nat) {env : Env} {heap : Heap}, ARoundsR C T c Q ps ks os n env heap → ∀ L a w, Rel C L (lk env) (lko heap) a w →
    Code.rounds C.P c (fun e a w => ∃ L env heap, Rel C L (lk env) (lko heap) a w ∧ Q e env heap) n a w
  | 0, env, heap, h, L, a, w, H => h.elim
  | n + 1, env, heap, h, L, a, w, H => by
    have h1 := ARun_ok hT hM h L a w H
    rw [rounds_succ]
    refine wp_mono h1 fun e a' w' ⟨L', env', heap', k1, k2⟩ => ?_
    cases e with
    | normal =>
      obtain ⟨L2, h5⟩ := k1.rens ps
      obtain ⟨e2, q1, q2⟩ := keepE_ok k2
      obtain ⟨h2, q3, q4⟩ := keepH_ok q1
      refine ARoundsR_ok hT hM n (deepH_eq (k := fun heap => ARoundsR C T c Q ps ks os n e2 heap) q3) L2 a' w' (h5.weaken ⟨fun t => ?_, fun id o ho => ⟨o, q4 id o ho, OLe.refl o⟩⟩)
      rcases q2 t with q | q
      · rw [q]; exact .refl _
      · rw [q]; exact ⟨fun w L gd v _ => .any⟩
    | _ => exact ⟨L', env', heap', k1, k2⟩
theorem ALoop.roundsR (hT : TysOk C.P T) (hM : C.P.follows .mixedOrders = true) (n : Nat) (ps : List (Nat × Nat)) (ks os : List Nat) {c : Code} {Q : Exit → Env → Heap → Prop} {env : Env} {heap : Heap} (h : ARoundsR C T c Q ps ks os n env heap) : ALoop C c Q env heap :=
  ⟨fun L a w H => wp_loop_rounds n (ARoundsR_ok hT hM n h L a w H)⟩
/-- Objects get other names, ahead of a loop. -/
theorem ALoop.rens {c : Code} {Q : Exit → Env → Heap → Prop} {env : Env} {heap : Heap} (ps : List (Nat × Nat)) (h : deepH (fun hp => ALoop C c Q (renEs C.lid ps env) hp) (renHs C.lid ps heap)) : ALoop C c Q env heap :=
  ⟨fun L a w H => by
    obtain ⟨L2, h5⟩ := H.rens ps
    exact (deepH_eq h).out L2 a w h5⟩
end
end Towline
