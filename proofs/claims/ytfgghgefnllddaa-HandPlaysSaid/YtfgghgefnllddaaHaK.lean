/- Whatever happens: the walk. -/
import Derived.Test.YtfgghgefnllddaaHaJ
namespace Go.Proofs.Ytfgghgefnllddaa
open Go Towline Towline.Hand
set_option linter.unusedVariables false
set_option linter.unusedSimpArgs false
set_option maxRecDepth 20000
set_option maxHeartbeats 4000000
structure Act where
  op : Int
  now : Int
  c : Chunk.Ch
  n1 : Nat
  f1 : Nat → List D
  n2 : Nat
  f2 : Nat → List D
  n3 : Nat
  f3 : Nat → List D
  empty : Bool
instance : Inhabited Act := ⟨⟨0, 0, default, 0, fun _ => [], 0, fun _ => [], 0, fun _ => [], false⟩⟩
def encAct (a : Act) : List D := [.i .i64 a.op, .i .i64 a.now, .i .i64 a.c.ty, .i .i64 a.c.flags, .i .u32 a.c.tsn, .i .u32 a.c.tag, .i .u32 a.c.window, .i .u32 a.c.ppid, .i .u16 a.c.stream, .i .u16 a.c.ssn, .i .u16 a.c.outs, .i .u16 a.c.ins, .sl 2 a.n1 a.f1, .sl 1 a.n2 a.f2, .sl 2 a.n3 a.f3, .s a.c.text, .b a.empty]
abbrev aL (a : Act) : List AVal := [vi a.c.ty, vi a.c.flags, v32 a.c.tsn, v32 a.c.tag, v32 a.c.window, v32 a.c.ppid, v16 a.c.stream, v16 a.c.ssn, v16 a.c.outs, v16 a.c.ins, .d (.sl 2 a.n1 a.f1), .d (.sl 1 a.n2 a.f2), .d (.sl 2 a.n3 a.f3), vs a.c.text]
structure ActOk (a : Act) : Prop where
  op : -2 ^ 63 ≤ a.op ∧ a.op < 2 ^ 63
  now : -2 ^ 63 ≤ a.now ∧ a.now < 2 ^ 63
  io : 0 ≤ a.c.outs ∧ 0 ≤ a.c.ins
  g : (AVal.d (.sl 2 a.n1 a.f1)).le (.d (slT 2 encG a.c.gaps))
  d : (AVal.d (.sl 1 a.n2 a.f2)).le (.d (slT 1 enc32 a.c.dups))
  i : (AVal.d (.sl 2 a.n3 a.f3)).le (.d (slT 2 encI a.c.items))
  il : a.c.items.length ≤ maxLen
  gap : GapsOk a.c.gaps
theorem light2_spec (c : Chunk.Ch) (h4 : c.items.length ≤ maxLen) : PSpec Try.prog 28 [cA c] (fun r => ∃ b, r = vb b ∧ (b = true → c.items.length ≤ 30 ∧ c.gaps.length ≤ 200 ∧ c.dups.length ≤ 200)) := by
  have h4' : c.items.length ≤ 2 ^ 63 - 1 := h4
  refine PSpec.run tysOk follows Try.func28 (by decide) rfl Try.ntmps28 (Nat.le_of_ble_eq_true rfl) rfl fun w0 R0 => ?_
  conv => whnf
  split <;> rename_i g1
  · conv => whnf
    exact ⟨_, .refl _, ⟨_, rfl, fun h => by cases h⟩, rfl⟩
  have g1 : ¬ (30 : Int) < c.items.length := of_decide_eq_false g1
  conv => whnf
  split <;> rename_i g2
  · conv => whnf
    exact ⟨_, .refl _, ⟨_, rfl, fun h => by cases h⟩, rfl⟩
  have g2 : ¬ (200 : Int) < c.gaps.length := of_decide_eq_false g2
  conv => whnf
  split <;> rename_i g3
  · conv => whnf
    exact ⟨_, .refl _, ⟨_, rfl, fun h => by cases h⟩, rfl⟩
  have g3 : ¬ (200 : Int) < c.dups.length := of_decide_eq_false g3
  conv => whnf
  split <;> rename_i g4
  · conv => whnf
    exact ⟨_, .refl _, ⟨_, rfl, fun h => by cases h⟩, rfl⟩
  conv => whnf
  refine ALoop.introR tysOk follows (fun k : {k // k ≤ c.items.length} => ([(1, .ptr 1 0), (3, vi k.1)], [(1, .box (cL c))])) (fun k => c.items.length - k.1) ⟨0, by omega⟩ ⟨.refl _, .refl _, OLe.refl _, trivial⟩ ?_
  rintro ⟨k, hk1⟩
  dsimp only
  conv => whnf
  split <;> rename_i h1
  · have hlt : k < c.items.length := by simpa using h1
    conv => whnf
    refine ⟨by first | omega | (simp only [Int.toNat_natCast]; omega) | (simp; done) | (simp; omega), ?_⟩
    conv => whnf
    split <;> rename_i h2
    · conv => whnf
      exact ⟨_, .refl _, ⟨_, rfl, fun h => by cases h⟩, rfl⟩
    · conv => whnf
      refine ⟨by first | omega | (simp only [Int.toNat_natCast]; omega) | (simp; done) | (simp; omega), ?_⟩
      conv => whnf
      exact ⟨⟨k + 1, by omega⟩, [], by dsimp only; omega, .refl _, .refl _, OLe.refl _, trivial⟩
  · conv => whnf
    exact ⟨_, .refl _, ⟨_, rfl, fun _ => ⟨by omega, by omega, by omega⟩⟩, rfl⟩
abbrev hF (h : H) : List AVal := [vi h.st, vi h.tries, vi h.due, v32 h.ourTag, v32 h.peerTag, v32 h.ourTsn, v32 h.peerTsn, v32 h.mine, v32 h.window, v16 h.outs, v16 h.ins, vs h.cookie]
def itsH (l : List Tlv.It) : List It := l.map fun x => ⟨x.ty, x.v⟩
theorem act_le {a : Act} (h : ActOk a) : (AVal.agg (aL a)).le (cA a.c) := .agg ⟨.refl _, .refl _, .refl _, .refl _, .refl _, .refl _, .refl _, .refl _, .refl _, .refl _, h.g, h.d, h.i, .refl _, trivial⟩
theorem act_light (a : Act) (h : ActOk a) : PSpec Try.prog 28 [.agg (aL a)] (fun r => ∃ b, r = vb b ∧ (b = true → a.c.items.length ≤ 30 ∧ a.c.gaps.length ≤ 200 ∧ a.c.dups.length ≤ 200)) :=
  (light2_spec a.c h.il).argsC ⟨act_le h, trivial⟩
theorem act_right (a : Act) (h : ActOk a) (hs : a.c.items.length ≤ 30 ∧ a.c.gaps.length ≤ 200 ∧ a.c.dups.length ≤ 200) : PSpec Try.prog 31 [.agg (aL a)] (· = vb ((buildC a.c).2 == 0)) :=
  (right_spec a.c ⟨Nat.le_trans hs.2.1 (by decide), Nat.le_trans hs.2.2 (by decide), Nat.le_trans hs.1 (by decide), h.gap⟩).argsC ⟨act_le h, trivial⟩
def kOf (c : Chunk.Ch) : K := ⟨c.ty, c.flags, c.tsn, c.tag, c.window, c.ppid, c.stream, c.ssn, c.outs, c.ins, c.text⟩
theorem its_le (l : List Tlv.It) : (AVal.d (slT 2 encI l)).le (.d (slT 2 encIt (itsH l))) := .sl (by simp [itsH]) fun k hk => by
  show encI (l.getD k default) = encIt ((itsH l).getD k default)
  have hk : k < l.length := hk
  rw [itsH, List.getD_eq_getElem?_getD, List.getD_eq_getElem?_getD, List.getElem?_map, List.getElem?_eq_getElem hk]
  rfl
theorem act_take (h : H) (a : Act) (hi : ActOk a) (hs : a.c.items.length ≤ 30) (now : Int) (ht : -2 ^ 63 ≤ h.tries) : PSpec Try.prog 29 [.agg (hF h), .agg (aL a), vb a.empty, vi now] (· = rA (takeR h (kOf a.c) (itsH a.c.items) a.empty now)) :=
  (take_spec h (kOf a.c) (.sl 2 a.n1 a.f1) (.sl 1 a.n2 a.f2) (itsH a.c.items) a.empty now (by simp [itsH]; exact Nat.le_trans hs (by decide)) ht).argsC ⟨.refl _, .agg ⟨.refl _, .refl _, .refl _, .refl _, .refl _, .refl _, .refl _, .refl _, .refl _, .refl _, .refl _, .refl _, hi.i.trans (its_le _), .refl _, trivial⟩, .refl _, .refl _, trivial⟩
theorem pickZ_lt (c n : Int) (hc : -2 ^ 63 ≤ c ∧ c < 2 ^ 63) (hn : 0 < n) : 0 ≤ pickZ c n ∧ pickZ c n < n := by
  unfold pickZ
  rw [Int.tmod_eq_emod_of_nonneg (by split <;> omega)]
  exact ⟨Int.emod_nonneg _ (by omega), Int.emod_lt_of_pos _ hn⟩
theorem pick7 (c : Int) (hc : -2 ^ 63 ≤ c ∧ c < 2 ^ 63) : pickZ c 7 = 0 ∨ pickZ c 7 = 1 ∨ pickZ c 7 = 2 ∨ pickZ c 7 = 3 ∨ pickZ c 7 = 4 ∨ pickZ c 7 = 5 ∨ pickZ c 7 = 6 := by
  have := pickZ_lt c 7 hc (by decide)
  omega
theorem plays_spec (l : List Act) (hl : ∀ a ∈ l, ActOk a) : PSpec Try.prog 9 [.d (slT 17 encAct l)] (· = vb true) := by
  refine PSpec.run (tysPOk []) follows Try.func9 (by decide) rfl Try.ntmps9 (Nat.le_of_ble_eq_true rfl) rfl fun w0 R0 => ?_
  conv => whnf
  refine ⟨_, shown_spec, ?_⟩
  rintro q rfl
  conv => whnf
  split <;> rename_i h1
  · conv => whnf
    exact ⟨_, .refl _, rfl, rfl⟩
  have h1 : l.length ≤ 60 := by
    have h1 := of_decide_eq_false h1
    omega
  conv => whnf
  refine ALoop.introR (tysPOk []) follows (fun x : {x : Nat × H × Int // x.1 ≤ l.length ∧ Inv x.2.1 ∧ 0 ≤ x.2.2 ∧ x.2.2 ≤ 5000 * x.1} => ([(0, .d (slT 17 encAct l)), (4, .ptr 4 0), (5, vi x.1.2.2), (6, vi x.1.1)], [(4, .box (hF x.1.2.1))])) (fun x => l.length - x.1.1) ⟨(0, H.nil, 0), by simp, Inv.ofNil, by simp, by simp⟩ ⟨.refl _, .refl _, .refl _, .refl _, OLe.refl _, trivial⟩ ?_
  rintro ⟨⟨k, h, now⟩, hk, hi, hn0, hn1⟩
  dsimp only at hk hi hn0 hn1 ⊢
  conv => whnf
  split <;> rename_i h2
  rotate_left
  · conv => whnf
    exact ⟨_, .refl _, rfl, rfl⟩
  have h2 : k < l.length := Int.ofNat_lt.1 (of_decide_eq_true h2)
  have ha : ActOk (l.getD k default) := hl _ (by rw [List.getD_eq_getElem?_getD, List.getElem?_eq_getElem h2]; exact List.getElem_mem h2)
  obtain ⟨a, ea⟩ : ∃ a, a = l.getD k default := ⟨_, rfl⟩
  rw [← ea] at ha
  conv => whnf
  refine ⟨by first | omega | (simp only [Int.toNat_natCast]; omega) | (simp; done) | (simp; omega), ?_⟩
  conv => whnf
  refine ⟨_, act_light (l.getD k default) (ea ▸ ha), ?_⟩
  rintro q ⟨b, rfl, hb⟩
  rw [← ea] at hb
  cases b with
  | false =>
    conv => whnf
    exact ⟨_, .refl _, rfl, rfl⟩
  | true =>
  have hb := hb rfl
  conv => whnf
  refine ⟨by first | omega | (simp only [Int.toNat_natCast]; omega) | (simp; done) | (simp; omega), ?_⟩
  conv => whnf
  refine ⟨_, act_right (l.getD k default) (ea ▸ ha) (ea ▸ hb), ?_⟩
  rintro q rfl
  rw [← ea]
  cases hR : ((buildC a.c).2 == 0) with
  | false =>
    conv => whnf
    exact ⟨_, .refl _, rfl, rfl⟩
  | true =>
  have hp := pickZ_lt a.now 5000 ha.now (by decide)
  conv => whnf
  refine ⟨by first | omega | (simp only [Int.toNat_natCast]; omega) | (simp; done) | (simp; omega), ?_⟩
  conv => whnf
  rw [show (l.getD (Int.toNat k) default) = a from by rw [ea]; rfl]
  refine ⟨_, pick_spec a.now 5000 ha.now (by decide), ?_⟩
  rintro q rfl
  conv => whnf
  refine ⟨by first | omega | (simp only [Int.toNat_natCast]; omega) | (simp; done) | (simp; omega), ?_⟩
  conv => whnf
  refine ⟨by first | omega | (simp only [Int.toNat_natCast]; omega) | (simp; done) | (simp; omega), ?_⟩
  conv => whnf
  rw [show (l.getD (Int.toNat k) default) = a from by rw [ea]; rfl]
  have ho := pick7 a.op ha.op
  have hC : (kOf a.c).ty = 2 → 0 < (kOf a.c).outs ∧ 0 < (kOf a.c).ins := by
    intro e
    have e : a.c.ty = 2 := e
    have h0 : (buildC a.c).2 = 0 := by simpa using hR
    have hg : goodC a.c = true := by
      rw [buildC] at h0
      split at h0
      · assumption
      · cases h0
    simp [goodC, fitsB, e] at hg
    have := ha.io
    exact ⟨by show 0 < a.c.outs; omega, by show 0 < a.c.ins; omega⟩
  have hN : 0 ≤ now + pickZ a.now 5000 ∧ now + pickZ a.now 5000 ≤ 1000000 := by omega
  refine ⟨_, pick_spec a.op 7 ha.op (by decide), ?_⟩
  rcases ho with ho | ho | ho | ho | ho | ho | ho
  · rw [ho]
    rintro q rfl
    conv => whnf
    have hO := open_spec h 5 6 7 2 (now + pickZ a.now 5000)
    rcases open_ok hi hN with e0 | ⟨e0, hok⟩
    · rw [e0] at hO
      refine ⟨_, hO, ?_⟩
      rintro q rfl
      conv => whnf
      refine ⟨by first | omega | (simp only [Int.toNat_natCast]; omega) | (simp; done) | (simp; omega), ?_⟩
      conv => whnf
      exact ⟨⟨(k + 1, h, now + pickZ a.now 5000), by dsimp only; omega, hi, by dsimp only; omega, by dsimp only; omega⟩, [], by dsimp only; omega, .refl _, .refl _, .refl _, .refl _, OLe.refl _, trivial⟩
    · obtain ⟨r, s, n, eR⟩ : ∃ r s n, openR h 5 6 7 2 (now + pickZ a.now 5000) = ⟨r, s, n⟩ := ⟨_, _, _, rfl⟩
      rw [eR] at hO hok e0
      dsimp only at hok e0
      subst e0
      refine ⟨_, hO, ?_⟩
      rintro q rfl
      conv => whnf
      have hst := hok.inv.st
      split <;> rename_i gz
      · exfalso
        have gz : r.st < 0 := of_decide_eq_true gz
        omega
      clear gz
      conv => whnf
      split <;> rename_i gz
      · exfalso
        have gz : 7 < r.st := of_decide_eq_true gz
        omega
      clear gz
      conv => whnf
      refine ⟨_, goes_spec h.st r.st ⟨hi.st.1, by have := hi.st; omega⟩, ?_⟩
      rintro q rfl
      rw [hok.goes]
      conv => whnf
      refine ⟨_, noted_spec h.st r.st _, ?_⟩
      rintro q rfl
      rw [hok.noted]
      conv => whnf
      have hdue := hok.inv.due
      by_cases hz : r.st = 0
      · have hr := hok.inv.nil hz
        subst hr
        conv => whnf
        refine ⟨_, waits_spec 0, ?_⟩
        conv => whnf
        refine ⟨by kernel_rfl, ?_⟩
        conv => whnf
        have hlen := hok.len
        refine ALoop.introR (tysPOk []) follows (fun x : {j : Nat // j ≤ s.length} => ([(0, .d (slT 17 encAct l)), (4, .ptr 4 0), (5, vi (now + pickZ a.now 5000)), (6, vi k), (8, ksA s), (11, .ptr 11 0), (12, vi x.1)], [(4, .box (hF h)), (11, .box (hF H.nil))])) (fun x => s.length - x.1) ⟨0, by omega⟩ ⟨.refl _, .refl _, .refl _, .refl _, .refl _, .refl _, .refl _, OLe.refl _, OLe.refl _, trivial⟩ ?_
        rintro ⟨j, hj⟩
        dsimp only
        conv => whnf
        split <;> rename_i gj
        · have gj : j < s.length := Int.ofNat_lt.1 (of_decide_eq_true gj)
          conv => whnf
          refine ⟨by first | omega | (simp only [Int.toNat_natCast]; omega) | (simp; done) | (simp; omega), ?_⟩
          conv => whnf
          refine ⟨_, rightK_spec (s.getD j default), ?_⟩
          rintro q rfl
          rw [show ((buildC (chK (s.getD j default))).2 == 0) = true from by
            have := hok.right (s.getD j default) (by rw [List.getD_eq_getElem?_getD, List.getElem?_eq_getElem gj]; exact List.getElem_mem gj)
            simpa [rightK] using this]
          conv => whnf
          refine ⟨by first | omega | (simp only [Int.toNat_natCast]; omega) | (simp; done) | (simp; omega), ?_⟩
          conv => whnf
          exact ⟨⟨j + 1, by omega⟩, [], by dsimp only; omega, .refl _, .refl _, .refl _, .refl _, .refl _, .refl _, .refl _, OLe.refl _, OLe.refl _, trivial⟩
        · conv => whnf
          refine ⟨by first | omega | (simp only [Int.toNat_natCast]; omega) | (simp; done) | (simp; omega), ?_⟩
          conv => whnf
          exact ⟨⟨(k + 1, H.nil, now + pickZ a.now 5000), by dsimp only; omega, hok.inv, by dsimp only; omega, by dsimp only; omega⟩, [], by dsimp only; omega, .refl _, .refl _, .refl _, .refl _, OLe.refl _, trivial⟩
      · rw [show (r.st == 0) = false from by simp [hz]]
        conv => whnf
        split <;> rename_i gz
        · exfalso
          have gz : 9 < r.tries := of_decide_eq_true gz
          have := hok.inv.tries
          omega
        clear gz
        conv => whnf
        refine ⟨_, waits_spec r.st, ?_⟩
        conv => whnf
        refine ⟨by kernel_rfl, ?_⟩
        conv => whnf
        rw [show (decide (0 < r.due) != waitsB r.st) = false from by rw [hdue]; simp [waitsB]]
        conv => whnf
        have hlen := hok.len
        refine ALoop.introR (tysPOk []) follows (fun x : {j : Nat // j ≤ s.length} => ([(0, .d (slT 17 encAct l)), (4, .ptr 4 0), (5, vi (now + pickZ a.now 5000)), (6, vi k), (8, ksA s), (11, .ptr 11 0), (12, vi x.1)], [(4, .box (hF h)), (11, .box (hF r))])) (fun x => s.length - x.1) ⟨0, by omega⟩ ⟨.refl _, .refl _, .refl _, .refl _, .refl _, .refl _, .refl _, OLe.refl _, OLe.refl _, trivial⟩ ?_
        rintro ⟨j, hj⟩
        dsimp only
        conv => whnf
        split <;> rename_i gj
        · have gj : j < s.length := Int.ofNat_lt.1 (of_decide_eq_true gj)
          conv => whnf
          refine ⟨by first | omega | (simp only [Int.toNat_natCast]; omega) | (simp; done) | (simp; omega), ?_⟩
          conv => whnf
          refine ⟨_, rightK_spec (s.getD j default), ?_⟩
          rintro q rfl
          rw [show ((buildC (chK (s.getD j default))).2 == 0) = true from by
            have := hok.right (s.getD j default) (by rw [List.getD_eq_getElem?_getD, List.getElem?_eq_getElem gj]; exact List.getElem_mem gj)
            simpa [rightK] using this]
          conv => whnf
          refine ⟨by first | omega | (simp only [Int.toNat_natCast]; omega) | (simp; done) | (simp; omega), ?_⟩
          conv => whnf
          exact ⟨⟨j + 1, by omega⟩, [], by dsimp only; omega, .refl _, .refl _, .refl _, .refl _, .refl _, .refl _, .refl _, OLe.refl _, OLe.refl _, trivial⟩
        · conv => whnf
          refine ⟨by first | omega | (simp only [Int.toNat_natCast]; omega) | (simp; done) | (simp; omega), ?_⟩
          conv => whnf
          exact ⟨⟨(k + 1, r, now + pickZ a.now 5000), by dsimp only; omega, hok.inv, by dsimp only; omega, by dsimp only; omega⟩, [], by dsimp only; omega, .refl _, .refl _, .refl _, .refl _, OLe.refl _, trivial⟩
  · rw [ho]
    rintro q rfl
    conv => whnf
    refine ⟨by first | omega | (simp only [Int.toNat_natCast]; omega) | (simp; done) | (simp; omega), ?_⟩
    conv => whnf
    rw [show (l.getD (Int.toNat k) default) = a from by rw [ea]; rfl]
    refine ⟨by first | omega | (simp only [Int.toNat_natCast]; omega) | (simp; done) | (simp; omega), ?_⟩
    conv => whnf
    rw [show (l.getD (Int.toNat k) default) = a from by rw [ea]; rfl]
    have hO := act_take h a ha hb.1 (now + pickZ a.now 5000) (by have := hi.tries; omega)
    have hok := take_ok (c := kOf a.c) (l := itsH a.c.items) (e := a.empty) hi hN hC
    obtain ⟨r, s, n, eR⟩ : ∃ r s n, takeR h (kOf a.c) (itsH a.c.items) a.empty (now + pickZ a.now 5000) = ⟨r, s, n⟩ := ⟨_, _, _, rfl⟩
    rw [eR] at hO hok
    dsimp only at hok
    refine ⟨_, hO, ?_⟩
    conv => whnf
    refine ⟨by kernel_rfl, ?_⟩
    conv => whnf
    have hst := hok.inv.st
    split <;> rename_i gz
    · exfalso
      have gz : r.st < 0 := of_decide_eq_true gz
      omega
    clear gz
    conv => whnf
    split <;> rename_i gz
    · exfalso
      have gz : 7 < r.st := of_decide_eq_true gz
      omega
    clear gz
    conv => whnf
    refine ⟨_, goes_spec h.st r.st ⟨hi.st.1, by have := hi.st; omega⟩, ?_⟩
    rintro q rfl
    rw [hok.goes]
    conv => whnf
    refine ⟨_, noted_spec h.st r.st _, ?_⟩
    rintro q rfl
    rw [hok.noted]
    conv => whnf
    have hdue := hok.inv.due
    by_cases hz : r.st = 0
    · have hr := hok.inv.nil hz
      subst hr
      conv => whnf
      refine ⟨_, waits_spec 0, ?_⟩
      conv => whnf
      refine ⟨by kernel_rfl, ?_⟩
      conv => whnf
      have hlen := hok.len
      refine ALoop.introR (tysPOk []) follows (fun x : {j : Nat // j ≤ s.length} => ([(0, .d (slT 17 encAct l)), (4, .ptr 4 0), (5, vi (now + pickZ a.now 5000)), (6, vi k), (8, ksA s), (11, .ptr 11 0), (12, vi x.1)], [(4, .box (hF h)), (11, .box (hF H.nil))])) (fun x => s.length - x.1) ⟨0, by omega⟩ ⟨.refl _, .refl _, .refl _, .refl _, .refl _, .refl _, .refl _, OLe.refl _, OLe.refl _, trivial⟩ ?_
      rintro ⟨j, hj⟩
      dsimp only
      conv => whnf
      split <;> rename_i gj
      · have gj : j < s.length := Int.ofNat_lt.1 (of_decide_eq_true gj)
        conv => whnf
        refine ⟨by first | omega | (simp only [Int.toNat_natCast]; omega) | (simp; done) | (simp; omega), ?_⟩
        conv => whnf
        refine ⟨_, rightK_spec (s.getD j default), ?_⟩
        rintro q rfl
        rw [show ((buildC (chK (s.getD j default))).2 == 0) = true from by
          have := hok.right (s.getD j default) (by rw [List.getD_eq_getElem?_getD, List.getElem?_eq_getElem gj]; exact List.getElem_mem gj)
          simpa [rightK] using this]
        conv => whnf
        refine ⟨by first | omega | (simp only [Int.toNat_natCast]; omega) | (simp; done) | (simp; omega), ?_⟩
        conv => whnf
        exact ⟨⟨j + 1, by omega⟩, [], by dsimp only; omega, .refl _, .refl _, .refl _, .refl _, .refl _, .refl _, .refl _, OLe.refl _, OLe.refl _, trivial⟩
      · conv => whnf
        refine ⟨by first | omega | (simp only [Int.toNat_natCast]; omega) | (simp; done) | (simp; omega), ?_⟩
        conv => whnf
        exact ⟨⟨(k + 1, H.nil, now + pickZ a.now 5000), by dsimp only; omega, hok.inv, by dsimp only; omega, by dsimp only; omega⟩, [], by dsimp only; omega, .refl _, .refl _, .refl _, .refl _, OLe.refl _, trivial⟩
    · rw [show (r.st == 0) = false from by simp [hz]]
      conv => whnf
      split <;> rename_i gz
      · exfalso
        have gz : 9 < r.tries := of_decide_eq_true gz
        have := hok.inv.tries
        omega
      clear gz
      conv => whnf
      refine ⟨_, waits_spec r.st, ?_⟩
      conv => whnf
      refine ⟨by kernel_rfl, ?_⟩
      conv => whnf
      rw [show (decide (0 < r.due) != waitsB r.st) = false from by rw [hdue]; simp [waitsB]]
      conv => whnf
      have hlen := hok.len
      refine ALoop.introR (tysPOk []) follows (fun x : {j : Nat // j ≤ s.length} => ([(0, .d (slT 17 encAct l)), (4, .ptr 4 0), (5, vi (now + pickZ a.now 5000)), (6, vi k), (8, ksA s), (11, .ptr 11 0), (12, vi x.1)], [(4, .box (hF h)), (11, .box (hF r))])) (fun x => s.length - x.1) ⟨0, by omega⟩ ⟨.refl _, .refl _, .refl _, .refl _, .refl _, .refl _, .refl _, OLe.refl _, OLe.refl _, trivial⟩ ?_
      rintro ⟨j, hj⟩
      dsimp only
      conv => whnf
      split <;> rename_i gj
      · have gj : j < s.length := Int.ofNat_lt.1 (of_decide_eq_true gj)
        conv => whnf
        refine ⟨by first | omega | (simp only [Int.toNat_natCast]; omega) | (simp; done) | (simp; omega), ?_⟩
        conv => whnf
        refine ⟨_, rightK_spec (s.getD j default), ?_⟩
        rintro q rfl
        rw [show ((buildC (chK (s.getD j default))).2 == 0) = true from by
          have := hok.right (s.getD j default) (by rw [List.getD_eq_getElem?_getD, List.getElem?_eq_getElem gj]; exact List.getElem_mem gj)
          simpa [rightK] using this]
        conv => whnf
        refine ⟨by first | omega | (simp only [Int.toNat_natCast]; omega) | (simp; done) | (simp; omega), ?_⟩
        conv => whnf
        exact ⟨⟨j + 1, by omega⟩, [], by dsimp only; omega, .refl _, .refl _, .refl _, .refl _, .refl _, .refl _, .refl _, OLe.refl _, OLe.refl _, trivial⟩
      · conv => whnf
        refine ⟨by first | omega | (simp only [Int.toNat_natCast]; omega) | (simp; done) | (simp; omega), ?_⟩
        conv => whnf
        exact ⟨⟨(k + 1, r, now + pickZ a.now 5000), by dsimp only; omega, hok.inv, by dsimp only; omega, by dsimp only; omega⟩, [], by dsimp only; omega, .refl _, .refl _, .refl _, .refl _, OLe.refl _, trivial⟩
  · rw [ho]
    rintro q rfl
    conv => whnf
    refine ⟨by first | omega | (simp only [Int.toNat_natCast]; omega) | (simp; done) | (simp; omega), ?_⟩
    conv => whnf
    rw [show (l.getD (Int.toNat k) default) = a from by rw [ea]; rfl]
    refine ⟨by first | omega | (simp only [Int.toNat_natCast]; omega) | (simp; done) | (simp; omega), ?_⟩
    conv => whnf
    rw [show (l.getD (Int.toNat k) default) = a from by rw [ea]; rfl]
    have hO := act_take h a ha hb.1 (now + pickZ a.now 5000) (by have := hi.tries; omega)
    have hok := take_ok (c := kOf a.c) (l := itsH a.c.items) (e := a.empty) hi hN hC
    obtain ⟨r, s, n, eR⟩ : ∃ r s n, takeR h (kOf a.c) (itsH a.c.items) a.empty (now + pickZ a.now 5000) = ⟨r, s, n⟩ := ⟨_, _, _, rfl⟩
    rw [eR] at hO hok
    dsimp only at hok
    refine ⟨_, hO, ?_⟩
    conv => whnf
    refine ⟨by kernel_rfl, ?_⟩
    conv => whnf
    have hst := hok.inv.st
    split <;> rename_i gz
    · exfalso
      have gz : r.st < 0 := of_decide_eq_true gz
      omega
    clear gz
    conv => whnf
    split <;> rename_i gz
    · exfalso
      have gz : 7 < r.st := of_decide_eq_true gz
      omega
    clear gz
    conv => whnf
    refine ⟨_, goes_spec h.st r.st ⟨hi.st.1, by have := hi.st; omega⟩, ?_⟩
    rintro q rfl
    rw [hok.goes]
    conv => whnf
    refine ⟨_, noted_spec h.st r.st _, ?_⟩
    rintro q rfl
    rw [hok.noted]
    conv => whnf
    have hdue := hok.inv.due
    by_cases hz : r.st = 0
    · have hr := hok.inv.nil hz
      subst hr
      conv => whnf
      refine ⟨_, waits_spec 0, ?_⟩
      conv => whnf
      refine ⟨by kernel_rfl, ?_⟩
      conv => whnf
      have hlen := hok.len
      refine ALoop.introR (tysPOk []) follows (fun x : {j : Nat // j ≤ s.length} => ([(0, .d (slT 17 encAct l)), (4, .ptr 4 0), (5, vi (now + pickZ a.now 5000)), (6, vi k), (8, ksA s), (11, .ptr 11 0), (12, vi x.1)], [(4, .box (hF h)), (11, .box (hF H.nil))])) (fun x => s.length - x.1) ⟨0, by omega⟩ ⟨.refl _, .refl _, .refl _, .refl _, .refl _, .refl _, .refl _, OLe.refl _, OLe.refl _, trivial⟩ ?_
      rintro ⟨j, hj⟩
      dsimp only
      conv => whnf
      split <;> rename_i gj
      · have gj : j < s.length := Int.ofNat_lt.1 (of_decide_eq_true gj)
        conv => whnf
        refine ⟨by first | omega | (simp only [Int.toNat_natCast]; omega) | (simp; done) | (simp; omega), ?_⟩
        conv => whnf
        refine ⟨_, rightK_spec (s.getD j default), ?_⟩
        rintro q rfl
        rw [show ((buildC (chK (s.getD j default))).2 == 0) = true from by
          have := hok.right (s.getD j default) (by rw [List.getD_eq_getElem?_getD, List.getElem?_eq_getElem gj]; exact List.getElem_mem gj)
          simpa [rightK] using this]
        conv => whnf
        refine ⟨by first | omega | (simp only [Int.toNat_natCast]; omega) | (simp; done) | (simp; omega), ?_⟩
        conv => whnf
        exact ⟨⟨j + 1, by omega⟩, [], by dsimp only; omega, .refl _, .refl _, .refl _, .refl _, .refl _, .refl _, .refl _, OLe.refl _, OLe.refl _, trivial⟩
      · conv => whnf
        refine ⟨by first | omega | (simp only [Int.toNat_natCast]; omega) | (simp; done) | (simp; omega), ?_⟩
        conv => whnf
        exact ⟨⟨(k + 1, H.nil, now + pickZ a.now 5000), by dsimp only; omega, hok.inv, by dsimp only; omega, by dsimp only; omega⟩, [], by dsimp only; omega, .refl _, .refl _, .refl _, .refl _, OLe.refl _, trivial⟩
    · rw [show (r.st == 0) = false from by simp [hz]]
      conv => whnf
      split <;> rename_i gz
      · exfalso
        have gz : 9 < r.tries := of_decide_eq_true gz
        have := hok.inv.tries
        omega
      clear gz
      conv => whnf
      refine ⟨_, waits_spec r.st, ?_⟩
      conv => whnf
      refine ⟨by kernel_rfl, ?_⟩
      conv => whnf
      rw [show (decide (0 < r.due) != waitsB r.st) = false from by rw [hdue]; simp [waitsB]]
      conv => whnf
      have hlen := hok.len
      refine ALoop.introR (tysPOk []) follows (fun x : {j : Nat // j ≤ s.length} => ([(0, .d (slT 17 encAct l)), (4, .ptr 4 0), (5, vi (now + pickZ a.now 5000)), (6, vi k), (8, ksA s), (11, .ptr 11 0), (12, vi x.1)], [(4, .box (hF h)), (11, .box (hF r))])) (fun x => s.length - x.1) ⟨0, by omega⟩ ⟨.refl _, .refl _, .refl _, .refl _, .refl _, .refl _, .refl _, OLe.refl _, OLe.refl _, trivial⟩ ?_
      rintro ⟨j, hj⟩
      dsimp only
      conv => whnf
      split <;> rename_i gj
      · have gj : j < s.length := Int.ofNat_lt.1 (of_decide_eq_true gj)
        conv => whnf
        refine ⟨by first | omega | (simp only [Int.toNat_natCast]; omega) | (simp; done) | (simp; omega), ?_⟩
        conv => whnf
        refine ⟨_, rightK_spec (s.getD j default), ?_⟩
        rintro q rfl
        rw [show ((buildC (chK (s.getD j default))).2 == 0) = true from by
          have := hok.right (s.getD j default) (by rw [List.getD_eq_getElem?_getD, List.getElem?_eq_getElem gj]; exact List.getElem_mem gj)
          simpa [rightK] using this]
        conv => whnf
        refine ⟨by first | omega | (simp only [Int.toNat_natCast]; omega) | (simp; done) | (simp; omega), ?_⟩
        conv => whnf
        exact ⟨⟨j + 1, by omega⟩, [], by dsimp only; omega, .refl _, .refl _, .refl _, .refl _, .refl _, .refl _, .refl _, OLe.refl _, OLe.refl _, trivial⟩
      · conv => whnf
        refine ⟨by first | omega | (simp only [Int.toNat_natCast]; omega) | (simp; done) | (simp; omega), ?_⟩
        conv => whnf
        exact ⟨⟨(k + 1, r, now + pickZ a.now 5000), by dsimp only; omega, hok.inv, by dsimp only; omega, by dsimp only; omega⟩, [], by dsimp only; omega, .refl _, .refl _, .refl _, .refl _, OLe.refl _, trivial⟩
  · rw [ho]
    rintro q rfl
    conv => whnf
    refine ⟨by first | omega | (simp only [Int.toNat_natCast]; omega) | (simp; done) | (simp; omega), ?_⟩
    conv => whnf
    rw [show (l.getD (Int.toNat k) default) = a from by rw [ea]; rfl]
    have hO := close_spec h 9 a.empty (now + pickZ a.now 5000)
    rcases close_ok (e := a.empty) hi hN with e0 | ⟨e0, hok⟩
    · rw [e0] at hO
      refine ⟨_, hO, ?_⟩
      conv => whnf
      refine ⟨by kernel_rfl, ?_⟩
      conv => whnf
      refine ⟨by first | omega | (simp only [Int.toNat_natCast]; omega) | (simp; done) | (simp; omega), ?_⟩
      conv => whnf
      exact ⟨⟨(k + 1, h, now + pickZ a.now 5000), by dsimp only; omega, hi, by dsimp only; omega, by dsimp only; omega⟩, [], by dsimp only; omega, .refl _, .refl _, .refl _, .refl _, OLe.refl _, trivial⟩
    · obtain ⟨r, s, n, eR⟩ : ∃ r s n, closeR h 9 a.empty (now + pickZ a.now 5000) = ⟨r, s, n⟩ := ⟨_, _, _, rfl⟩
      rw [eR] at hO hok e0
      dsimp only at hok e0
      subst e0
      refine ⟨_, hO, ?_⟩
      conv => whnf
      refine ⟨by kernel_rfl, ?_⟩
      conv => whnf
      have hst := hok.inv.st
      split <;> rename_i gz
      · exfalso
        have gz : r.st < 0 := of_decide_eq_true gz
        omega
      clear gz
      conv => whnf
      split <;> rename_i gz
      · exfalso
        have gz : 7 < r.st := of_decide_eq_true gz
        omega
      clear gz
      conv => whnf
      refine ⟨_, goes_spec h.st r.st ⟨hi.st.1, by have := hi.st; omega⟩, ?_⟩
      rintro q rfl
      rw [hok.goes]
      conv => whnf
      refine ⟨_, noted_spec h.st r.st _, ?_⟩
      rintro q rfl
      rw [hok.noted]
      conv => whnf
      have hdue := hok.inv.due
      by_cases hz : r.st = 0
      · have hr := hok.inv.nil hz
        subst hr
        conv => whnf
        refine ⟨_, waits_spec 0, ?_⟩
        conv => whnf
        refine ⟨by kernel_rfl, ?_⟩
        conv => whnf
        have hlen := hok.len
        refine ALoop.introR (tysPOk []) follows (fun x : {j : Nat // j ≤ s.length} => ([(0, .d (slT 17 encAct l)), (4, .ptr 4 0), (5, vi (now + pickZ a.now 5000)), (6, vi k), (8, ksA s), (11, .ptr 11 0), (12, vi x.1)], [(4, .box (hF h)), (11, .box (hF H.nil))])) (fun x => s.length - x.1) ⟨0, by omega⟩ ⟨.refl _, .refl _, .refl _, .refl _, .refl _, .refl _, .refl _, OLe.refl _, OLe.refl _, trivial⟩ ?_
        rintro ⟨j, hj⟩
        dsimp only
        conv => whnf
        split <;> rename_i gj
        · have gj : j < s.length := Int.ofNat_lt.1 (of_decide_eq_true gj)
          conv => whnf
          refine ⟨by first | omega | (simp only [Int.toNat_natCast]; omega) | (simp; done) | (simp; omega), ?_⟩
          conv => whnf
          refine ⟨_, rightK_spec (s.getD j default), ?_⟩
          rintro q rfl
          rw [show ((buildC (chK (s.getD j default))).2 == 0) = true from by
            have := hok.right (s.getD j default) (by rw [List.getD_eq_getElem?_getD, List.getElem?_eq_getElem gj]; exact List.getElem_mem gj)
            simpa [rightK] using this]
          conv => whnf
          refine ⟨by first | omega | (simp only [Int.toNat_natCast]; omega) | (simp; done) | (simp; omega), ?_⟩
          conv => whnf
          exact ⟨⟨j + 1, by omega⟩, [], by dsimp only; omega, .refl _, .refl _, .refl _, .refl _, .refl _, .refl _, .refl _, OLe.refl _, OLe.refl _, trivial⟩
        · conv => whnf
          refine ⟨by first | omega | (simp only [Int.toNat_natCast]; omega) | (simp; done) | (simp; omega), ?_⟩
          conv => whnf
          exact ⟨⟨(k + 1, H.nil, now + pickZ a.now 5000), by dsimp only; omega, hok.inv, by dsimp only; omega, by dsimp only; omega⟩, [], by dsimp only; omega, .refl _, .refl _, .refl _, .refl _, OLe.refl _, trivial⟩
      · rw [show (r.st == 0) = false from by simp [hz]]
        conv => whnf
        split <;> rename_i gz
        · exfalso
          have gz : 9 < r.tries := of_decide_eq_true gz
          have := hok.inv.tries
          omega
        clear gz
        conv => whnf
        refine ⟨_, waits_spec r.st, ?_⟩
        conv => whnf
        refine ⟨by kernel_rfl, ?_⟩
        conv => whnf
        rw [show (decide (0 < r.due) != waitsB r.st) = false from by rw [hdue]; simp [waitsB]]
        conv => whnf
        have hlen := hok.len
        refine ALoop.introR (tysPOk []) follows (fun x : {j : Nat // j ≤ s.length} => ([(0, .d (slT 17 encAct l)), (4, .ptr 4 0), (5, vi (now + pickZ a.now 5000)), (6, vi k), (8, ksA s), (11, .ptr 11 0), (12, vi x.1)], [(4, .box (hF h)), (11, .box (hF r))])) (fun x => s.length - x.1) ⟨0, by omega⟩ ⟨.refl _, .refl _, .refl _, .refl _, .refl _, .refl _, .refl _, OLe.refl _, OLe.refl _, trivial⟩ ?_
        rintro ⟨j, hj⟩
        dsimp only
        conv => whnf
        split <;> rename_i gj
        · have gj : j < s.length := Int.ofNat_lt.1 (of_decide_eq_true gj)
          conv => whnf
          refine ⟨by first | omega | (simp only [Int.toNat_natCast]; omega) | (simp; done) | (simp; omega), ?_⟩
          conv => whnf
          refine ⟨_, rightK_spec (s.getD j default), ?_⟩
          rintro q rfl
          rw [show ((buildC (chK (s.getD j default))).2 == 0) = true from by
            have := hok.right (s.getD j default) (by rw [List.getD_eq_getElem?_getD, List.getElem?_eq_getElem gj]; exact List.getElem_mem gj)
            simpa [rightK] using this]
          conv => whnf
          refine ⟨by first | omega | (simp only [Int.toNat_natCast]; omega) | (simp; done) | (simp; omega), ?_⟩
          conv => whnf
          exact ⟨⟨j + 1, by omega⟩, [], by dsimp only; omega, .refl _, .refl _, .refl _, .refl _, .refl _, .refl _, .refl _, OLe.refl _, OLe.refl _, trivial⟩
        · conv => whnf
          refine ⟨by first | omega | (simp only [Int.toNat_natCast]; omega) | (simp; done) | (simp; omega), ?_⟩
          conv => whnf
          exact ⟨⟨(k + 1, r, now + pickZ a.now 5000), by dsimp only; omega, hok.inv, by dsimp only; omega, by dsimp only; omega⟩, [], by dsimp only; omega, .refl _, .refl _, .refl _, .refl _, OLe.refl _, trivial⟩
  · rw [ho]
    rintro q rfl
    conv => whnf
    have hO := empty_spec h 9 (now + pickZ a.now 5000)
    have hok := empty_ok hi hN
    obtain ⟨r, s, n, eR⟩ : ∃ r s n, emptyR h 9 (now + pickZ a.now 5000) = ⟨r, s, n⟩ := ⟨_, _, _, rfl⟩
    rw [eR] at hO hok
    dsimp only at hok
    refine ⟨_, hO, ?_⟩
    rintro q rfl
    conv => whnf
    have hst := hok.inv.st
    split <;> rename_i gz
    · exfalso
      have gz : r.st < 0 := of_decide_eq_true gz
      omega
    clear gz
    conv => whnf
    split <;> rename_i gz
    · exfalso
      have gz : 7 < r.st := of_decide_eq_true gz
      omega
    clear gz
    conv => whnf
    refine ⟨_, goes_spec h.st r.st ⟨hi.st.1, by have := hi.st; omega⟩, ?_⟩
    rintro q rfl
    rw [hok.goes]
    conv => whnf
    refine ⟨_, noted_spec h.st r.st _, ?_⟩
    rintro q rfl
    rw [hok.noted]
    conv => whnf
    have hdue := hok.inv.due
    by_cases hz : r.st = 0
    · have hr := hok.inv.nil hz
      subst hr
      conv => whnf
      refine ⟨_, waits_spec 0, ?_⟩
      conv => whnf
      refine ⟨by kernel_rfl, ?_⟩
      conv => whnf
      have hlen := hok.len
      refine ALoop.introR (tysPOk []) follows (fun x : {j : Nat // j ≤ s.length} => ([(0, .d (slT 17 encAct l)), (4, .ptr 4 0), (5, vi (now + pickZ a.now 5000)), (6, vi k), (8, ksA s), (11, .ptr 11 0), (12, vi x.1)], [(4, .box (hF h)), (11, .box (hF H.nil))])) (fun x => s.length - x.1) ⟨0, by omega⟩ ⟨.refl _, .refl _, .refl _, .refl _, .refl _, .refl _, .refl _, OLe.refl _, OLe.refl _, trivial⟩ ?_
      rintro ⟨j, hj⟩
      dsimp only
      conv => whnf
      split <;> rename_i gj
      · have gj : j < s.length := Int.ofNat_lt.1 (of_decide_eq_true gj)
        conv => whnf
        refine ⟨by first | omega | (simp only [Int.toNat_natCast]; omega) | (simp; done) | (simp; omega), ?_⟩
        conv => whnf
        refine ⟨_, rightK_spec (s.getD j default), ?_⟩
        rintro q rfl
        rw [show ((buildC (chK (s.getD j default))).2 == 0) = true from by
          have := hok.right (s.getD j default) (by rw [List.getD_eq_getElem?_getD, List.getElem?_eq_getElem gj]; exact List.getElem_mem gj)
          simpa [rightK] using this]
        conv => whnf
        refine ⟨by first | omega | (simp only [Int.toNat_natCast]; omega) | (simp; done) | (simp; omega), ?_⟩
        conv => whnf
        exact ⟨⟨j + 1, by omega⟩, [], by dsimp only; omega, .refl _, .refl _, .refl _, .refl _, .refl _, .refl _, .refl _, OLe.refl _, OLe.refl _, trivial⟩
      · conv => whnf
        refine ⟨by first | omega | (simp only [Int.toNat_natCast]; omega) | (simp; done) | (simp; omega), ?_⟩
        conv => whnf
        exact ⟨⟨(k + 1, H.nil, now + pickZ a.now 5000), by dsimp only; omega, hok.inv, by dsimp only; omega, by dsimp only; omega⟩, [], by dsimp only; omega, .refl _, .refl _, .refl _, .refl _, OLe.refl _, trivial⟩
    · rw [show (r.st == 0) = false from by simp [hz]]
      conv => whnf
      split <;> rename_i gz
      · exfalso
        have gz : 9 < r.tries := of_decide_eq_true gz
        have := hok.inv.tries
        omega
      clear gz
      conv => whnf
      refine ⟨_, waits_spec r.st, ?_⟩
      conv => whnf
      refine ⟨by kernel_rfl, ?_⟩
      conv => whnf
      rw [show (decide (0 < r.due) != waitsB r.st) = false from by rw [hdue]; simp [waitsB]]
      conv => whnf
      have hlen := hok.len
      refine ALoop.introR (tysPOk []) follows (fun x : {j : Nat // j ≤ s.length} => ([(0, .d (slT 17 encAct l)), (4, .ptr 4 0), (5, vi (now + pickZ a.now 5000)), (6, vi k), (8, ksA s), (11, .ptr 11 0), (12, vi x.1)], [(4, .box (hF h)), (11, .box (hF r))])) (fun x => s.length - x.1) ⟨0, by omega⟩ ⟨.refl _, .refl _, .refl _, .refl _, .refl _, .refl _, .refl _, OLe.refl _, OLe.refl _, trivial⟩ ?_
      rintro ⟨j, hj⟩
      dsimp only
      conv => whnf
      split <;> rename_i gj
      · have gj : j < s.length := Int.ofNat_lt.1 (of_decide_eq_true gj)
        conv => whnf
        refine ⟨by first | omega | (simp only [Int.toNat_natCast]; omega) | (simp; done) | (simp; omega), ?_⟩
        conv => whnf
        refine ⟨_, rightK_spec (s.getD j default), ?_⟩
        rintro q rfl
        rw [show ((buildC (chK (s.getD j default))).2 == 0) = true from by
          have := hok.right (s.getD j default) (by rw [List.getD_eq_getElem?_getD, List.getElem?_eq_getElem gj]; exact List.getElem_mem gj)
          simpa [rightK] using this]
        conv => whnf
        refine ⟨by first | omega | (simp only [Int.toNat_natCast]; omega) | (simp; done) | (simp; omega), ?_⟩
        conv => whnf
        exact ⟨⟨j + 1, by omega⟩, [], by dsimp only; omega, .refl _, .refl _, .refl _, .refl _, .refl _, .refl _, .refl _, OLe.refl _, OLe.refl _, trivial⟩
      · conv => whnf
        refine ⟨by first | omega | (simp only [Int.toNat_natCast]; omega) | (simp; done) | (simp; omega), ?_⟩
        conv => whnf
        exact ⟨⟨(k + 1, r, now + pickZ a.now 5000), by dsimp only; omega, hok.inv, by dsimp only; omega, by dsimp only; omega⟩, [], by dsimp only; omega, .refl _, .refl _, .refl _, .refl _, OLe.refl _, trivial⟩
  · rw [ho]
    rintro q rfl
    conv => whnf
    have hO := tick_spec h 9 (now + pickZ a.now 5000) (by have := hi.tries; omega)
    have hok := tick_ok hi hN
    obtain ⟨r, s, n, eR⟩ : ∃ r s n, tickR h 9 (now + pickZ a.now 5000) = ⟨r, s, n⟩ := ⟨_, _, _, rfl⟩
    rw [eR] at hO hok
    dsimp only at hok
    refine ⟨_, hO, ?_⟩
    rintro q rfl
    conv => whnf
    have hst := hok.inv.st
    split <;> rename_i gz
    · exfalso
      have gz : r.st < 0 := of_decide_eq_true gz
      omega
    clear gz
    conv => whnf
    split <;> rename_i gz
    · exfalso
      have gz : 7 < r.st := of_decide_eq_true gz
      omega
    clear gz
    conv => whnf
    refine ⟨_, goes_spec h.st r.st ⟨hi.st.1, by have := hi.st; omega⟩, ?_⟩
    rintro q rfl
    rw [hok.goes]
    conv => whnf
    refine ⟨_, noted_spec h.st r.st _, ?_⟩
    rintro q rfl
    rw [hok.noted]
    conv => whnf
    have hdue := hok.inv.due
    by_cases hz : r.st = 0
    · have hr := hok.inv.nil hz
      subst hr
      conv => whnf
      refine ⟨_, waits_spec 0, ?_⟩
      conv => whnf
      refine ⟨by kernel_rfl, ?_⟩
      conv => whnf
      have hlen := hok.len
      refine ALoop.introR (tysPOk []) follows (fun x : {j : Nat // j ≤ s.length} => ([(0, .d (slT 17 encAct l)), (4, .ptr 4 0), (5, vi (now + pickZ a.now 5000)), (6, vi k), (8, ksA s), (11, .ptr 11 0), (12, vi x.1)], [(4, .box (hF h)), (11, .box (hF H.nil))])) (fun x => s.length - x.1) ⟨0, by omega⟩ ⟨.refl _, .refl _, .refl _, .refl _, .refl _, .refl _, .refl _, OLe.refl _, OLe.refl _, trivial⟩ ?_
      rintro ⟨j, hj⟩
      dsimp only
      conv => whnf
      split <;> rename_i gj
      · have gj : j < s.length := Int.ofNat_lt.1 (of_decide_eq_true gj)
        conv => whnf
        refine ⟨by first | omega | (simp only [Int.toNat_natCast]; omega) | (simp; done) | (simp; omega), ?_⟩
        conv => whnf
        refine ⟨_, rightK_spec (s.getD j default), ?_⟩
        rintro q rfl
        rw [show ((buildC (chK (s.getD j default))).2 == 0) = true from by
          have := hok.right (s.getD j default) (by rw [List.getD_eq_getElem?_getD, List.getElem?_eq_getElem gj]; exact List.getElem_mem gj)
          simpa [rightK] using this]
        conv => whnf
        refine ⟨by first | omega | (simp only [Int.toNat_natCast]; omega) | (simp; done) | (simp; omega), ?_⟩
        conv => whnf
        exact ⟨⟨j + 1, by omega⟩, [], by dsimp only; omega, .refl _, .refl _, .refl _, .refl _, .refl _, .refl _, .refl _, OLe.refl _, OLe.refl _, trivial⟩
      · conv => whnf
        refine ⟨by first | omega | (simp only [Int.toNat_natCast]; omega) | (simp; done) | (simp; omega), ?_⟩
        conv => whnf
        exact ⟨⟨(k + 1, H.nil, now + pickZ a.now 5000), by dsimp only; omega, hok.inv, by dsimp only; omega, by dsimp only; omega⟩, [], by dsimp only; omega, .refl _, .refl _, .refl _, .refl _, OLe.refl _, trivial⟩
    · rw [show (r.st == 0) = false from by simp [hz]]
      conv => whnf
      split <;> rename_i gz
      · exfalso
        have gz : 9 < r.tries := of_decide_eq_true gz
        have := hok.inv.tries
        omega
      clear gz
      conv => whnf
      refine ⟨_, waits_spec r.st, ?_⟩
      conv => whnf
      refine ⟨by kernel_rfl, ?_⟩
      conv => whnf
      rw [show (decide (0 < r.due) != waitsB r.st) = false from by rw [hdue]; simp [waitsB]]
      conv => whnf
      have hlen := hok.len
      refine ALoop.introR (tysPOk []) follows (fun x : {j : Nat // j ≤ s.length} => ([(0, .d (slT 17 encAct l)), (4, .ptr 4 0), (5, vi (now + pickZ a.now 5000)), (6, vi k), (8, ksA s), (11, .ptr 11 0), (12, vi x.1)], [(4, .box (hF h)), (11, .box (hF r))])) (fun x => s.length - x.1) ⟨0, by omega⟩ ⟨.refl _, .refl _, .refl _, .refl _, .refl _, .refl _, .refl _, OLe.refl _, OLe.refl _, trivial⟩ ?_
      rintro ⟨j, hj⟩
      dsimp only
      conv => whnf
      split <;> rename_i gj
      · have gj : j < s.length := Int.ofNat_lt.1 (of_decide_eq_true gj)
        conv => whnf
        refine ⟨by first | omega | (simp only [Int.toNat_natCast]; omega) | (simp; done) | (simp; omega), ?_⟩
        conv => whnf
        refine ⟨_, rightK_spec (s.getD j default), ?_⟩
        rintro q rfl
        rw [show ((buildC (chK (s.getD j default))).2 == 0) = true from by
          have := hok.right (s.getD j default) (by rw [List.getD_eq_getElem?_getD, List.getElem?_eq_getElem gj]; exact List.getElem_mem gj)
          simpa [rightK] using this]
        conv => whnf
        refine ⟨by first | omega | (simp only [Int.toNat_natCast]; omega) | (simp; done) | (simp; omega), ?_⟩
        conv => whnf
        exact ⟨⟨j + 1, by omega⟩, [], by dsimp only; omega, .refl _, .refl _, .refl _, .refl _, .refl _, .refl _, .refl _, OLe.refl _, OLe.refl _, trivial⟩
      · conv => whnf
        refine ⟨by first | omega | (simp only [Int.toNat_natCast]; omega) | (simp; done) | (simp; omega), ?_⟩
        conv => whnf
        exact ⟨⟨(k + 1, r, now + pickZ a.now 5000), by dsimp only; omega, hok.inv, by dsimp only; omega, by dsimp only; omega⟩, [], by dsimp only; omega, .refl _, .refl _, .refl _, .refl _, OLe.refl _, trivial⟩
  · rw [ho]
    rintro q rfl
    conv => whnf
    have hO := drop_spec h
    have hok := drop_ok hi
    obtain ⟨r, s, n, eR⟩ : ∃ r s n, dropR h = ⟨r, s, n⟩ := ⟨_, _, _, rfl⟩
    rw [eR] at hO hok
    dsimp only at hok
    refine ⟨_, hO, ?_⟩
    rintro q rfl
    conv => whnf
    have hst := hok.inv.st
    split <;> rename_i gz
    · exfalso
      have gz : r.st < 0 := of_decide_eq_true gz
      omega
    clear gz
    conv => whnf
    split <;> rename_i gz
    · exfalso
      have gz : 7 < r.st := of_decide_eq_true gz
      omega
    clear gz
    conv => whnf
    refine ⟨_, goes_spec h.st r.st ⟨hi.st.1, by have := hi.st; omega⟩, ?_⟩
    rintro q rfl
    rw [hok.goes]
    conv => whnf
    refine ⟨_, noted_spec h.st r.st _, ?_⟩
    rintro q rfl
    rw [hok.noted]
    conv => whnf
    have hdue := hok.inv.due
    by_cases hz : r.st = 0
    · have hr := hok.inv.nil hz
      subst hr
      conv => whnf
      refine ⟨_, waits_spec 0, ?_⟩
      conv => whnf
      refine ⟨by kernel_rfl, ?_⟩
      conv => whnf
      have hlen := hok.len
      refine ALoop.introR (tysPOk []) follows (fun x : {j : Nat // j ≤ s.length} => ([(0, .d (slT 17 encAct l)), (4, .ptr 4 0), (5, vi (now + pickZ a.now 5000)), (6, vi k), (8, ksA s), (11, .ptr 11 0), (12, vi x.1)], [(4, .box (hF h)), (11, .box (hF H.nil))])) (fun x => s.length - x.1) ⟨0, by omega⟩ ⟨.refl _, .refl _, .refl _, .refl _, .refl _, .refl _, .refl _, OLe.refl _, OLe.refl _, trivial⟩ ?_
      rintro ⟨j, hj⟩
      dsimp only
      conv => whnf
      split <;> rename_i gj
      · have gj : j < s.length := Int.ofNat_lt.1 (of_decide_eq_true gj)
        conv => whnf
        refine ⟨by first | omega | (simp only [Int.toNat_natCast]; omega) | (simp; done) | (simp; omega), ?_⟩
        conv => whnf
        refine ⟨_, rightK_spec (s.getD j default), ?_⟩
        rintro q rfl
        rw [show ((buildC (chK (s.getD j default))).2 == 0) = true from by
          have := hok.right (s.getD j default) (by rw [List.getD_eq_getElem?_getD, List.getElem?_eq_getElem gj]; exact List.getElem_mem gj)
          simpa [rightK] using this]
        conv => whnf
        refine ⟨by first | omega | (simp only [Int.toNat_natCast]; omega) | (simp; done) | (simp; omega), ?_⟩
        conv => whnf
        exact ⟨⟨j + 1, by omega⟩, [], by dsimp only; omega, .refl _, .refl _, .refl _, .refl _, .refl _, .refl _, .refl _, OLe.refl _, OLe.refl _, trivial⟩
      · conv => whnf
        refine ⟨by first | omega | (simp only [Int.toNat_natCast]; omega) | (simp; done) | (simp; omega), ?_⟩
        conv => whnf
        exact ⟨⟨(k + 1, H.nil, now + pickZ a.now 5000), by dsimp only; omega, hok.inv, by dsimp only; omega, by dsimp only; omega⟩, [], by dsimp only; omega, .refl _, .refl _, .refl _, .refl _, OLe.refl _, trivial⟩
    · rw [show (r.st == 0) = false from by simp [hz]]
      conv => whnf
      split <;> rename_i gz
      · exfalso
        have gz : 9 < r.tries := of_decide_eq_true gz
        have := hok.inv.tries
        omega
      clear gz
      conv => whnf
      refine ⟨_, waits_spec r.st, ?_⟩
      conv => whnf
      refine ⟨by kernel_rfl, ?_⟩
      conv => whnf
      rw [show (decide (0 < r.due) != waitsB r.st) = false from by rw [hdue]; simp [waitsB]]
      conv => whnf
      have hlen := hok.len
      refine ALoop.introR (tysPOk []) follows (fun x : {j : Nat // j ≤ s.length} => ([(0, .d (slT 17 encAct l)), (4, .ptr 4 0), (5, vi (now + pickZ a.now 5000)), (6, vi k), (8, ksA s), (11, .ptr 11 0), (12, vi x.1)], [(4, .box (hF h)), (11, .box (hF r))])) (fun x => s.length - x.1) ⟨0, by omega⟩ ⟨.refl _, .refl _, .refl _, .refl _, .refl _, .refl _, .refl _, OLe.refl _, OLe.refl _, trivial⟩ ?_
      rintro ⟨j, hj⟩
      dsimp only
      conv => whnf
      split <;> rename_i gj
      · have gj : j < s.length := Int.ofNat_lt.1 (of_decide_eq_true gj)
        conv => whnf
        refine ⟨by first | omega | (simp only [Int.toNat_natCast]; omega) | (simp; done) | (simp; omega), ?_⟩
        conv => whnf
        refine ⟨_, rightK_spec (s.getD j default), ?_⟩
        rintro q rfl
        rw [show ((buildC (chK (s.getD j default))).2 == 0) = true from by
          have := hok.right (s.getD j default) (by rw [List.getD_eq_getElem?_getD, List.getElem?_eq_getElem gj]; exact List.getElem_mem gj)
          simpa [rightK] using this]
        conv => whnf
        refine ⟨by first | omega | (simp only [Int.toNat_natCast]; omega) | (simp; done) | (simp; omega), ?_⟩
        conv => whnf
        exact ⟨⟨j + 1, by omega⟩, [], by dsimp only; omega, .refl _, .refl _, .refl _, .refl _, .refl _, .refl _, .refl _, OLe.refl _, OLe.refl _, trivial⟩
      · conv => whnf
        refine ⟨by first | omega | (simp only [Int.toNat_natCast]; omega) | (simp; done) | (simp; omega), ?_⟩
        conv => whnf
        exact ⟨⟨(k + 1, r, now + pickZ a.now 5000), by dsimp only; omega, hok.inv, by dsimp only; omega, by dsimp only; omega⟩, [], by dsimp only; omega, .refl _, .refl _, .refl _, .refl _, OLe.refl _, trivial⟩
theorem wt_gap {n : Nat} {l : List D} (h : wt tys (n + 2) 100 l) : ∃ g : Int × Int, l = encG g ∧ (0 ≤ g.1 ∧ g.1 < 65536 ∧ 0 ≤ g.2 ∧ g.2 < 65536) := by
  obtain ⟨hz, hk⟩ := h
  match l, hz with
  | [a1, a2], _ =>
    obtain ⟨x1, rfl, k1⟩ := wt_u16 (hk 0 (by decide))
    obtain ⟨x2, rfl, k2⟩ := wt_u16 (hk 1 (by decide))
    exact ⟨(x1, x2), rfl, k1.1, k1.2, k2.1, k2.2⟩
theorem gaps_ok {l : List (Int × Int)} (h : ∀ g ∈ l, 0 ≤ g.1 ∧ g.1 < 65536 ∧ 0 ≤ g.2 ∧ g.2 < 65536) : GapsOk l := by
  intro j
  rcases Nat.lt_or_ge j l.length with hj | hj
  · rw [List.getD_eq_getElem?_getD, List.getElem?_eq_getElem hj]; exact h _ (List.getElem_mem hj)
  · rw [List.getD_eq_getElem?_getD, List.getElem?_eq_none hj]; decide
theorem wt_gaps {n : Nat} {a : D} (h : wt tys (n + 3) 59 [a]) : ∃ (m : Nat) (f : Nat → List D) (l : List (Int × Int)), a = .sl 2 m f ∧ (AVal.d (.sl 2 m f)).le (.d (slT 2 encG l)) ∧ GapsOk l := by
  obtain ⟨m, f, ha, hm, hf⟩ := h
  obtain ⟨l, h1, h2, h3⟩ := list_of (enc := encG) (p := fun g => 0 ≤ g.1 ∧ g.1 < 65536 ∧ 0 ≤ g.2 ∧ g.2 < 65536) fun k hk => wt_gap (hf k hk).2
  obtain ⟨rfl, _⟩ := List.cons.inj ha
  exact ⟨m, f, l, rfl, .sl h1.symm fun k hk => h3 k hk, gaps_ok h2⟩
theorem wt_dups {n : Nat} {a : D} (h : wt tys (n + 2) 60 [a]) : ∃ (m : Nat) (f : Nat → List D) (l : List Int), a = .sl 1 m f ∧ (AVal.d (.sl 1 m f)).le (.d (slT 1 enc32 l)) := by
  obtain ⟨m, f, ha, hm, hf⟩ := h
  obtain ⟨l, h1, h2, h3⟩ := list_of (enc := enc32) (p := fun _ => True) (f := f) (m := m) fun k hk => by
    obtain ⟨h4, h5⟩ := hf k hk
    match hfk : f k, h4 with
    | [b], _ =>
      rw [hfk] at h5
      obtain ⟨x, rfl, _⟩ := wt_u32 h5
      exact ⟨x, rfl, trivial⟩
  obtain ⟨rfl, _⟩ := List.cons.inj ha
  exact ⟨m, f, l, rfl, .sl h1.symm fun k hk => h3 k hk⟩
theorem wt_it7 {n : Nat} {l : List D} (h : wt tys (n + 2) 68 l) : ∃ x : Tlv.It, l = encI x := by
  obtain ⟨x, hx⟩ := wt_it h
  exact ⟨⟨x.ty, x.v⟩, hx⟩
theorem wt_its7 {n : Nat} {a : D} (h : wt tys (n + 3) 61 [a]) : ∃ (m : Nat) (f : Nat → List D) (l : List Tlv.It), a = .sl 2 m f ∧ l.length ≤ maxLen ∧ (AVal.d (.sl 2 m f)).le (.d (slT 2 encI l)) := by
  obtain ⟨m, f, ha, hm, hf⟩ := h
  obtain ⟨l, h1, h2, h3⟩ := list_of (enc := encI) (p := fun _ => True) fun k hk => (wt_it7 (hf k hk).2).imp fun x hx => ⟨hx, trivial⟩
  obtain ⟨rfl, _⟩ := List.cons.inj ha
  exact ⟨m, f, l, rfl, by omega, .sl h1.symm fun k hk => h3 k hk⟩
theorem wt_act {n : Nat} {l : List D} (h : wt tys (n + 5) 79 l) : ∃ a : Act, l = encAct a ∧ ActOk a := by
  obtain ⟨h0, h1, h2, h3, h4, _⟩ := h
  match l, h0 with
  | [b1, b2, a1, a2, a3, a4, a5, a6, a7, a8, a9, a10, a11, a12, a13, a14, b3], _ =>
    obtain ⟨y1, rfl, r1⟩ := wt_int h1
    obtain ⟨y2, rfl, r2⟩ := wt_int h2
    obtain ⟨y3, rfl⟩ := wt_bool h4
    obtain ⟨_, h1, h2, h3, h4, h5, h6, h7, h8, h9, h10, h11, h12, h13, h14, _⟩ := h3
    obtain ⟨x1, rfl, _⟩ := wt_int h1
    obtain ⟨x2, rfl, _⟩ := wt_int h2
    obtain ⟨x3, rfl, _⟩ := wt_u32 h3
    obtain ⟨x4, rfl, _⟩ := wt_u32 h4
    obtain ⟨x5, rfl, _⟩ := wt_u32 h5
    obtain ⟨x6, rfl, _⟩ := wt_u32 h6
    obtain ⟨x7, rfl, _⟩ := wt_u16 h7
    obtain ⟨x8, rfl, _⟩ := wt_u16 h8
    obtain ⟨x9, rfl, k9⟩ := wt_u16 h9
    obtain ⟨x10, rfl, k10⟩ := wt_u16 h10
    obtain ⟨m1, f1, l1, rfl, e1, e2⟩ := wt_gaps h11
    obtain ⟨m2, f2, l2, rfl, e3⟩ := wt_dups h12
    obtain ⟨m3, f3, l3, rfl, e4, e5⟩ := wt_its7 h13
    obtain ⟨x14, rfl, _⟩ := wt_str h14
    exact ⟨⟨y1, y2, ⟨x1, x2, x3, x4, x5, x6, x7, x8, x9, x10, l1, l2, l3, x14⟩, m1, f1, m2, f2, m3, f3, y3⟩, rfl, ⟨r1, r2, ⟨k9.1, k10.1⟩, e1, e3, e5, e4, e2⟩⟩
theorem handPlays_of {l0 : List D} (h0 : wt tys 8 77 l0) :
    PSpec Try.prog 9 [asV false l0] (· = vb true) := by
  obtain ⟨m, f, ha, hm, hf⟩ := h0
  obtain ⟨l, h1, h2, h3⟩ := list_of (enc := encAct) (p := ActOk) fun k hk => wt_act (n := 2) (hf k hk).2
  subst ha
  exact (plays_spec l h2).argsC ⟨.sl h1.symm fun k hk => h3 k hk, trivial⟩
end Go.Proofs.Ytfgghgefnllddaa
