/- Chapter 19: an association of two paths takes: contracts. -/
import Derived.Test.YtbghocipmlobnaaGreatAbE
namespace Go.Proofs.YtbghocipmlobnaaGreat
open Go Go.RowKit Towline Towline.Hand Towline.Ab
set_option linter.unusedVariables false
set_option linter.unusedSimpArgs false
set_option maxRecDepth 20000
set_option maxHeartbeats 4000000
/-- The same objects, of which no more is known. -/
def HLe : Heap → Heap → Prop
  | [], [] => True
  | (i, o') :: r, (j, o) :: s => i = j ∧ OLe o' o ∧ HLe r s
  | _, _ => False
theorem HLe.from : ∀ {a b : Heap}, HLe a b → ∀ id o', lookO id a = some o' → ∃ o, lookO id b = some o ∧ OLe o' o
  | [], [], _, _, _, h => by cases h
  | (i, x) :: r, (j, y) :: s, ⟨e, h1, h2⟩, id, o', h => by
      subst e
      simp only [lookO] at h ⊢
      split at h
      · exact ⟨_, rfl, by cases h; exact h1⟩
      · exact HLe.from h2 id o' h
theorem HLe.to : ∀ {a b : Heap}, HLe a b → ∀ id o, lookO id b = some o → ∃ o', lookO id a = some o'
  | [], [], _, _, _, h => by cases h
  | (i, x) :: r, (j, y) :: s, ⟨e, h1, h2⟩, id, o', h => by
      subst e
      simp only [lookO] at h ⊢
      split at h
      · exact ⟨_, rfl⟩
      · exact HLe.to h2 id o' h
theorem LSpec.heapC {P : Program} {f : FuncId} {args : List AVal} {hl hl' : Heap} {post : AVal → Heap → Prop} (h : LSpec P f args hl post) (ho : HLe hl' hl) : LSpec P f args hl' post := by
  have e : ∀ L, owned L (lko hl') = owned L (lko hl) := fun L => funext fun b => propext
    ⟨fun ⟨id, x, k1, k2⟩ => by obtain ⟨o, m, _⟩ := ho.from _ _ k1; exact ⟨id, o, m, k2⟩, fun ⟨id, x, k1, k2⟩ => by obtain ⟨o, m⟩ := ho.to _ _ k1; exact ⟨id, o, m, k2⟩⟩
  refine ⟨h.1, fun w R L vs k0 k1 k2 k3 k4 k5 k6 k7 => ?_⟩
  refine (h.2 w R L vs k0 k1 k2 (fun b => by rw [k3 b, e]) k4 (fun id x hx => ?_) (fun a b oa ob bb ha hb => ?_) (fun id x b hx => ?_)).mono ?_
  · obtain ⟨o', m⟩ := ho.to _ _ hx
    obtain ⟨o, m1, m2⟩ := ho.from _ _ m
    rw [m1] at hx
    cases hx
    exact (k5 _ _ m).weaken m2
  · obtain ⟨o', m⟩ := ho.to _ _ ha
    obtain ⟨o2, m2⟩ := ho.to _ _ hb
    exact k6 _ _ _ _ _ m m2
  · obtain ⟨o', m⟩ := ho.to _ _ hx
    exact k7 _ _ b m
  · rintro e' w' ⟨v, r, hl', L', m1, m2, m3, m4⟩
    refine ⟨v, r, hl', L', m1, m2, ⟨?_, ?_, m3.inj, ?_, ?_⟩, ?_⟩
    · rw [e]; exact m3.below
    · have := m3.obj
      unfold lgood at this ⊢
      rw [e]; exact this
    · have := m3.own
      rw [e]; exact this
    · intro id x x' hx hx'
      obtain ⟨o, m, _⟩ := ho.from _ _ hx
      exact m3.kept _ _ _ m hx'
    · unfold lgood at m4 ⊢
      rw [e]; exact m4
/-- A chunk, as chunk's contracts name it. -/
abbrev chOf (c : K) (l : List Tlv.It) : Chunk.Ch := ⟨c.ty, c.flags, c.tsn, c.tag, c.window, c.ppid, c.stream, c.ssn, c.outs, c.ins, [], [], l, c.text⟩
theorem chOf_ok (c : K) (l : List Tlv.It) (h : l.length ≤ 2 ^ 20) : ChOk (chOf c l) := ⟨Nat.zero_le _, Nat.zero_le _, h, fun j => by simp [default]⟩
theorem rightIA_spec : PSpec Tryz.prog 14 [.agg (kIL cIA itIA)] (· = vb true) :=
  have e : ((buildC (chOf cIA [⟨7, [99]⟩])).2 == 0) = true := by decide +kernel
  e ▸ (right_spec (chOf cIA [⟨7, [99]⟩]) (chOf_ok _ _ (by decide))).argsC ⟨.agg ⟨.refl _, .refl _, .refl _, .refl _, .refl _, .refl _, .refl _, .refl _, .refl _, .refl _, .nil, .nil, .sl rfl fun k hk => by cases k0 hk; rfl, .refl _, trivial⟩, trivial⟩
theorem rightK_spec (c : K) (e : ((buildC (chOf c [])).2 == 0) = true) : PSpec Tryz.prog 14 [.agg (kIL c nilD)] (· = vb true) :=
  e ▸ (right_spec (chOf c []) (chOf_ok _ _ (by decide))).argsC ⟨.agg ⟨.refl _, .refl _, .refl _, .refl _, .refl _, .refl _, .refl _, .refl _, .refl _, .refl _, .nil, .nil, .nil, .refl _, trivial⟩, trivial⟩
theorem rightCA_spec : PSpec Tryz.prog 14 [.agg (kIL (K.of 11) nilD)] (· = vb true) := rightK_spec _ (by decide +kernel)
theorem takeIAw_spec (p q : Pth) (xc : Int) (y : Int) : LSpec Tryz.prog 6 [.ptr Z0 0, .agg (kIL cIA itIA), vi 0, vi 0] (bsI (hO 5 4294967290 4) p q sN xc 0 nilD 0 y) (fun r hl => r = .tup [] ∧ hl = [(Z0, .box (bsL h2A p q sN xc 999 sN (.rsl 47000 2 0 1) nilA (.rsl Z1 1 0 2) (.rsl Z2 1 0 2))), (Z1, row2 0 0), (Z2, row2 0 y), (47000, out1 0 cEcho nilD)]) := by
  refine LSpec.run (tysBOk) followsB Tryz.func6 (by decide) rfl Tryz.ntmps6 (Nat.le_of_ble_eq_true rfl) rfl rfl fun w0 R0 Lo hGw => ?_
  conv => whnf
  refine ⟨by first | omega | decide +kernel, ?_⟩
  conv => whnf
  refine ⟨by first | omega | decide +kernel, ?_⟩
  conv => whnf
  refine ⟨_, (closedB_spec _ p q sN xc 0 nilD nilD nilD _ _), ?_⟩
  rintro q rfl
  conv => whnf
  refine ⟨_, rightIA_spec, ?_⟩
  rintro q rfl
  conv => whnf
  refine ⟨by first | omega | decide +kernel, ?_⟩
  conv => whnf
  refine ⟨by first | omega | decide +kernel, ?_⟩
  conv => whnf
  refine ⟨_, (LSpec.heapC (controlIA_spec p q xc 0 y) ⟨rfl, OLe.refl _, rfl, OLe.refl _, rfl, ⟨rfl, rfl, rfl, fun k hk => by rcases k2 hk with rfl | rfl <;> rfl⟩, trivial⟩), ?_⟩
  rintro q hq ⟨rfl, rfl⟩
  conv => whnf
  refine ⟨_, _, .refl _, ?_, rfl, rfl⟩
  exact ⟨OLe.refl _, OLe.refl _, OLe.refl _, OLe.refl _, trivial⟩
theorem takeCAw_spec (p q : Pth) (xc : Int) (y : Int) : LSpec Tryz.prog 6 [.ptr Z0 0, .agg (kIL (K.of 11) nilD), vi 0, vi 0] (bsI h2A p q sN xc 999 sN 0 y) (fun r hl => r = .tup [] ∧ hl = [(Z0, .box (bsL h3A p q sN xc 999 sN nilA (.rsl 47000 2 0 1) (.rsl Z1 1 0 2) (.rsl Z2 1 0 2))), (47000, noteO), (Z1, row2 0 0), (Z2, row2 0 y)]) := by
  refine LSpec.run (tysBOk) followsB Tryz.func6 (by decide) rfl Tryz.ntmps6 (Nat.le_of_ble_eq_true rfl) rfl rfl fun w0 R0 Lo hGw => ?_
  conv => whnf
  refine ⟨by first | omega | decide +kernel, ?_⟩
  conv => whnf
  refine ⟨by first | omega | decide +kernel, ?_⟩
  conv => whnf
  refine ⟨_, (closedB_spec _ p q sN xc 999 sN nilD nilD _ _), ?_⟩
  rintro q rfl
  conv => whnf
  refine ⟨_, rightCA_spec, ?_⟩
  rintro q rfl
  conv => whnf
  refine ⟨by first | omega | decide +kernel, ?_⟩
  conv => whnf
  refine ⟨by first | omega | decide +kernel, ?_⟩
  conv => whnf
  refine ⟨_, (LSpec.heapC (controlCA_spec p q xc 0 y) ⟨rfl, OLe.refl _, rfl, OLe.refl _, rfl, ⟨rfl, rfl, rfl, fun k hk => by rcases k2 hk with rfl | rfl <;> rfl⟩, trivial⟩), ?_⟩
  rintro q hq ⟨rfl, rfl⟩
  conv => whnf
  refine ⟨_, _, .refl _, ?_, rfl, rfl⟩
  exact ⟨OLe.refl _, OLe.refl _, OLe.refl _, OLe.refl _, trivial⟩
end Go.Proofs.YtbghocipmlobnaaGreat
