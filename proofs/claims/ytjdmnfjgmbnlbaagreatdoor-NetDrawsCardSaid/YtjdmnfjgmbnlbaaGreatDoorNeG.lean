/- The statement NetDraws: its walk. -/
import Derived.Test.YtjdmnfjgmbnlbaaGreatDoorNeF
namespace Go.Proofs.YtjdmnfjgmbnlbaaGreatDoor
open Go Go.RowKit Towline
set_option linter.unusedVariables false
set_option linter.unusedSimpArgs false
set_option maxRecDepth 20000
set_option maxHeartbeats 4000000
def ow8 : Nat → Own
  | 0 => []
  | i + 1 => oput (ow8 i) (adr i) i
def lastIx (s : List UInt8) : Nat → Int
  | 0 => -1
  | i + 1 => if adr i = s then i else lastIx s i
theorem ow8_last (s : List UInt8) : ∀ i, ownI (olook (ow8 i) s) = lastIx s i
  | 0 => rfl
  | i + 1 => by
    rw [ow8, olook_oput, lastIx]
    by_cases h : s = adr i
    · rw [if_pos h, if_pos h.symm]; rfl
    · rw [if_neg h, if_neg (fun e => h e.symm)]; exact ow8_last s i
theorem ow8_free : ∀ i, i < 8 → olook (ow8 i) (adr i) = none
  | 0, _ => by decide
  | 1, _ => by decide
  | 2, _ => by decide
  | 3, _ => by decide
  | 4, _ => by decide
  | 5, _ => by decide
  | 6, _ => by decide
  | 7, _ => by decide
  | n + 8, h => by omega
theorem lastIx_lt (s : List UInt8) : ∀ i, -1 ≤ lastIx s i ∧ lastIx s i < i
  | 0 => by simp [lastIx]
  | i + 1 => by
    have := lastIx_lt s i
    rw [lastIx]
    split <;> omega
theorem lastIx_cases (s : List UInt8) : lastIx s 8 = -1 ∨ lastIx s 8 = 0 ∨ lastIx s 8 = 1 ∨ lastIx s 8 = 2 ∨ lastIx s 8 = 3 ∨ lastIx s 8 = 4 ∨ lastIx s 8 = 5 ∨ lastIx s 8 = 6 ∨ lastIx s 8 = 7 := by
  have := lastIx_lt s 8
  omega
theorem sockNew_err (now : Int) : LSpec Tryz.prog 23 [.agg [nnil, n16 0, ns [], n32 0, n16 0], ni now] [] (fun r hl => r = .tup [nptr, ni 1] ∧ hl = []) := by
  refine LSpec.run (tysNOk) followsB Tryz.func23 (by decide) rfl Tryz.ntmps23 (Nat.le_of_ble_eq_true rfl) rfl rfl fun w0 R0 Lo hGw => ?_
  conv => whnf
  refine ⟨_, _, .refl _, ?_, rfl, rfl⟩
  exact trivial
abbrev netN (seed : List UInt8) : Heap := [(Z0, .box (netC seed 0 0 nnil Z1 Z2 0)), (Z1, .dmp []), (Z2, .mp [])]
theorem add_arg (seed : List UInt8) : LSpec Tryz.prog 8 [.ptr Z0 0, .agg [nnil, n16 0, ns [], n32 0, n16 0]] (netN seed) (fun r hl => r = .tup [ni 0, ni 1] ∧ hl = netN seed) := by
  refine LSpec.run (tysNgOk) followsB Tryz.func8 (by decide) rfl Tryz.ntmps8 (Nat.le_of_ble_eq_true rfl) rfl rfl fun w0 R0 Lo hGw => ?_
  conv => whnf
  refine ALoop.rounds tysNgOk followsB 1 ?_
  conv => whnf
  refine ⟨_, _, (sockNew_err 0), ?_⟩
  conv => whnf
  refine ⟨by kernel_rfl, ?_⟩
  conv => whnf
  refine ⟨_, _, .refl _, ?_, rfl, rfl⟩
  exact ⟨OLe.refl _, OLe.refl _, OLe.refl _, trivial⟩
abbrev iF (L : List Int) : Nat → List D := fun k => [.i .i64 (L.getD k 0)]
theorem kEq_refl (k : IntKind) : kEq k k = true := by cases k <;> rfl
/-- Two numbers that are held against each other, where it is known what comes of it. -/
theorem AOps.neq {P : Program} {T : Tys} {nt : Nat} {ops : Array Oper} {K : Env → Heap → Prop} {o : Oper} {r : List Oper} {env : Env} {heap : Heap} {t ty ty2 x y : Nat} {k : IntKind} {a b : Int} (c : Bool) (h1 : o.guard = none) (h2 : o.op = .binOp .neq ty (.tmp x) (.tmp y) ty2) (h3 : o.dst = some t) (h4 : Nat.blt t nt = true)
    (h5 : Towline.look x env = .d (.i k a)) (h6 : Towline.look y env = .d (.i k b)) (hc : (a != b) = c) (h : AOps P T nt ops K r ((t, .d (.b c)) :: env) heap) : AOps P T nt ops K (o :: r) env heap := by
  have ha : aop T (fun t => Towline.look t env) (fun i => lookO i heap) o.op = some (.val (.d (.b c))) := by
    rw [h2, ← hc]
    simp [aop, newOp, arrOp, aop0, opnd, h5, h6, isNilP, isNil, aBin, aBinI, kEq_refl]
  unfold AOps
  rw [h1]
  dsimp only
  unfold AStep
  rw [h2] at ha ⊢
  dsimp only
  rw [ha]
  dsimp only [ARes]
  rw [h3]
  dsimp only [putF]
  rw [h4]
  dsimp only [forceV, forceD]
  exact h
theorem putR.num {nt : Nat} {t : Nat} {ex : Bool} {env : Env} {heap : Heap} {k : Env → Heap → Prop} {kk : IntKind} {x : Int} (hx : ex = true) (ht : Nat.blt t nt = true) (h : k ((t, .d (.i kk x)) :: env) heap) : putR nt (some t) ex env heap k (.d (.i kk x)) := by
  subst hx
  show (match Nat.blt t nt with | true => k ((t, .d (.i kk x)) :: env) heap | false => False)
  rw [ht]
  exact h
theorem netDraws_main (seed : List UInt8) (L : List Int) (s : List UInt8) (hx : ∀ x ∈ L, -9223372036854775808 ≤ x ∧ x ≤ 9223372036854775807) : PSpec Tryz.prog 4 [ns seed, .d (.sl 1 L.length (iF L)), ns s] (· = nb true) := by
  refine PSpec.runS (tysDOk) followsB Tryz.func4 (by decide) rfl Tryz.ntmps4 (Nat.le_of_ble_eq_true rfl) rfl fun w0 R0 hGw => ?_
  conv => whnf
  refine ⟨_, shown_spec, ?_⟩
  rintro q rfl
  conv => whnf
  by_cases h1 : 200 < seed.length
  · rw [decide_eq_true (show (200 : Int) < seed.length by omega)]
    conv => whnf
    refine AGo.go (tysDOk) followsB ?_
    conv => whnf
    exact ⟨_, .refl _, rfl, rfl⟩
  rw [decide_eq_false (show ¬ (200 : Int) < seed.length by omega)]
  conv => whnf
  by_cases h2 : 30 < L.length
  · rw [decide_eq_true (show (30 : Int) < L.length by omega)]
    conv => whnf
    refine AGo.go (tysDOk) followsB ?_
    conv => whnf
    exact ⟨_, .refl _, rfl, rfl⟩
  rw [decide_eq_false (show ¬ (30 : Int) < L.length by omega)]
  conv => whnf
  by_cases h3 : 100 < s.length
  · rw [decide_eq_true (show (100 : Int) < s.length by omega)]
    conv => whnf
    refine AGo.go (tysDOk) followsB ?_
    conv => whnf
    exact ⟨_, .refl _, rfl, rfl⟩
  rw [decide_eq_false (show ¬ (100 : Int) < s.length by omega)]
  conv => whnf
  refine AGo.go (tysDOk) followsB ?_
  conv => whnf
  refine ⟨_, (netNew_spec seed), ?_⟩
  rintro q hq ⟨rfl, rfl⟩
  conv => whnf
  dsimp only [newBase, Nat.reduceAdd, Nat.reduceMul]
  refine AGo.adoptCell 40000 3 900 1 38 (fun _ => []) rfl rfl rfl rfl rfl ?_
  refine AGo.go (tysDOk) followsB ?_
  conv => whnf
  refine ALoop.introR tysDOk followsB (fun q : {q : Nat × Nat // q.1 ≤ L.length ∧ q.2 ≤ 1099511627776} => ([(0, ns seed), (1, .d (.sl 1 L.length (iF L))), (2, ns s), (8, .ptr 40000 0), (9, ni q.1.1), (10, ni q.1.2), (11, ni q.1.1)], [(40000, .box (netC seed q.1.1 q.1.2 (.rsl 900 1 0 0) 40001 40002 0)), (900, .row 38 1 0 fun _ => []), (40001, .dmp []), (40002, .mp [])])) (fun q => L.length - q.1.1) ⟨(0, 0), Nat.zero_le _, Nat.zero_le _⟩ ?_ ?_
  · exact ⟨.refl _, .refl _, .refl _, .refl _, .refl _, .refl _, .refl _, OLe.refl _, OLe.refl _, OLe.refl _, OLe.refl _, trivial⟩
  rintro ⟨⟨i, now⟩, hi, hn⟩
  dsimp only at hi hn ⊢
  conv => whnf
  split <;> rename_i h4
  · have hlt : i < L.length := by have := of_decide_eq_true h4; omega
    have hdraw := draw_spec seed (by omega) i (by omega) now 0 (fun _ => []) [] 0
    have hdrawn := drawn_spec seed (by omega) i (by omega)
    generalize drw seed i = d at hdraw hdrawn
    conv => whnf
    refine ⟨_, hdraw, ?_⟩
    rintro q hq ⟨rfl, rfl⟩
    unfold ABack
    generalize hfr : freshN _ _ _ _ = fb
    have hb : fb = true := by
      rw [← hfr]
      conv => lhs; whnf
    subst hb
    clear hfr
    dsimp only
    conv => whnf
    dsimp only [newBase, Nat.reduceAdd, Nat.reduceMul]
    refine ⟨_, hdrawn, ?_⟩
    rintro q rfl
    refine putR.num rfl rfl ?_
    refine AOps.neq false rfl rfl rfl rfl rfl rfl (by simp) ?_
    conv => whnf
    refine ⟨by first | omega | (simp only [Int.toNat_natCast]; omega) | (simp; done) | (simp; omega), ?_⟩
    conv => whnf
    refine ⟨_, (now_spec seed (i + 1 : Nat) now (.sl 1 0 fun _ => []) .o .o 0), ?_⟩
    rintro q rfl
    conv => whnf
    rw [show ((now : Int) != (now : Nat)) = false from by simp]
    conv => whnf
    refine ⟨by first | omega | (simp only [Int.toNat_natCast]; omega) | (simp; done) | (simp; omega), ?_⟩
    conv => whnf
    refine ⟨by first | omega | (simp only [Int.toNat_natCast]; omega) | (simp; done) | (simp; omega), ?_⟩
    conv => whnf
    have hget : L.getD (i : Int).toNat 0 = L[i] := by simp [List.getD_eq_getElem?_getD, hlt]
    rw [hget]
    generalize hxi : L[i] = x
    have hxb := hx L[i] (List.getElem_mem hlt)
    rw [hxi] at hxb
    refine ⟨_, (wait_spec seed ((i + 1 : Nat) : Int) now hn (fun _ => []) [] 0 x), ?_⟩
    rintro q hq ⟨rfl, rfl⟩
    unfold ABack
    generalize hfr : freshN _ _ _ _ = fb
    have hb : fb = true := by
      rw [← hfr]
      conv => lhs; whnf
    subst hb
    clear hfr
    dsimp only
    conv => whnf
    dsimp only [newBase, Nat.reduceAdd, Nat.reduceMul]
    refine ⟨by first | omega | (simp only [Int.toNat_natCast]; omega) | (simp; done) | (simp; omega), ?_⟩
    conv => whnf
    rw [hget, hxi]
    by_cases c1 : 1 ≤ x
    · rw [decide_eq_true c1]
      conv => whnf
      refine ⟨by first | omega | (simp only [Int.toNat_natCast]; omega) | (simp; done) | (simp; omega), ?_⟩
      conv => whnf
      rw [hget, hxi]
      by_cases c2 : x ≤ 1073741824
      · rw [decide_eq_true c2]
        conv => whnf
        refine ⟨by first | omega | (simp only [Int.toNat_natCast]; omega) | (simp; done) | (simp; omega), ?_⟩
        conv => whnf
        rw [hget, hxi]
        refine ⟨by first | omega | (simp only [Int.toNat_natCast]; omega) | (simp; done) | (simp; omega), ?_⟩
        conv => whnf
        by_cases c3 : (now : Int) + x ≤ 1099511627776
        · rw [decide_eq_true c3]
          conv => whnf
          refine ⟨by first | omega | (simp only [Int.toNat_natCast]; omega) | (simp; done) | (simp; omega), ?_⟩
          conv => whnf
          rw [hget, hxi]
          refine ⟨by first | omega | (simp only [Int.toNat_natCast]; omega) | (simp; done) | (simp; omega), ?_⟩
          conv => whnf
          refine ⟨by first | omega | (simp only [Int.toNat_natCast]; omega) | (simp; done) | (simp; omega), ?_⟩
          conv => whnf
          refine ⟨⟨(i + 1, now + x.toNat), by dsimp only; omega, by dsimp only; omega⟩, [], by dsimp only; omega, .refl _, .refl _, .refl _, .refl _, .refl _, .of_eq (congrArg ni (show (now : Int) + x = ((now + x.toNat : Nat) : Int) by omega)), .refl _, ?_⟩
          rw [if_pos ⟨c1, c2, c3⟩]
          exact ⟨OLe.refl _, OLe.refl _, OLe.refl _, OLe.refl _, trivial⟩
        · have hc : ¬ (1 ≤ x ∧ x ≤ 1073741824 ∧ (now : Int) + x ≤ 1099511627776) := fun h => c3 h.2.2
          rw [decide_eq_false c3]
          conv => whnf
          refine ⟨by first | omega | (simp only [Int.toNat_natCast]; omega) | (simp; done) | (simp; omega), ?_⟩
          conv => whnf
          refine ⟨⟨(i + 1, now), by dsimp only; omega, hn⟩, [], by dsimp only; omega, .refl _, .refl _, .refl _, .refl _, .refl _, .refl _, .refl _, ?_⟩
          rw [if_neg hc]
          exact ⟨OLe.refl _, OLe.refl _, OLe.refl _, OLe.refl _, trivial⟩
      · have hc : ¬ (1 ≤ x ∧ x ≤ 1073741824 ∧ (now : Int) + x ≤ 1099511627776) := fun h => c2 h.2.1
        rw [decide_eq_false c2]
        conv => whnf
        refine ⟨by first | omega | (simp only [Int.toNat_natCast]; omega) | (simp; done) | (simp; omega), ?_⟩
        conv => whnf
        refine ⟨⟨(i + 1, now), by dsimp only; omega, hn⟩, [], by dsimp only; omega, .refl _, .refl _, .refl _, .refl _, .refl _, .refl _, .refl _, ?_⟩
        rw [if_neg hc]
        exact ⟨OLe.refl _, OLe.refl _, OLe.refl _, OLe.refl _, trivial⟩
    · have hc : ¬ (1 ≤ x ∧ x ≤ 1073741824 ∧ (now : Int) + x ≤ 1099511627776) := fun h => c1 h.1
      rw [decide_eq_false c1]
      conv => whnf
      refine ⟨by first | omega | (simp only [Int.toNat_natCast]; omega) | (simp; done) | (simp; omega), ?_⟩
      conv => whnf
      refine ⟨⟨(i + 1, now), by dsimp only; omega, hn⟩, [], by dsimp only; omega, .refl _, .refl _, .refl _, .refl _, .refl _, .refl _, .refl _, ?_⟩
      rw [if_neg hc]
      exact ⟨OLe.refl _, OLe.refl _, OLe.refl _, OLe.refl _, trivial⟩
  · conv => whnf
    refine ALoop.introR tysDOk followsB (fun q : {q : Nat × (Nat → List D) // q.1 ≤ 9} => ([(0, ns seed), (2, ns s), (8, .ptr 40000 0), (12, ni q.1.1)], [(40000, .box (netC seed i now (.rsl 900 1 0 (min q.1.1 8)) 40001 40002 0)), (900, .row 38 1 (min q.1.1 8) fun k => [.pt (q.1.2 k)]), (40001, .dmp (ownM (ow8 (min q.1.1 8)))), (40002, .mp [])])) (fun q => 9 - q.1.1) ⟨(0, fun _ => []), Nat.zero_le _⟩ ?_ ?_
    · exact ⟨.refl _, .refl _, .refl _, .refl _, OLe.refl _, ⟨rfl, rfl, rfl, fun k hk => absurd hk (Nat.not_lt_zero k)⟩, OLe.refl _, OLe.refl _, trivial⟩
    rintro ⟨⟨j, ds⟩, hj⟩
    dsimp only at hj ⊢
    conv => whnf
    split <;> rename_i h5
    · have hlt : j < 9 := by have := of_decide_eq_true h5; omega
      conv => whnf
      refine ⟨_, (config_spec j (by omega)), ?_⟩
      rintro q rfl
      conv => whnf
      by_cases h6 : j < 8
      · rw [show min j 8 = j by omega]
        have hadd := add_ok seed i now j h6 (fun k => [.pt (ds k)]) (ow8 j) 0 [adr j] (by simp) (by simp) (fun s hs => by simp at hs; rw [hs]; rfl) (fun s hs => by simp at hs; rw [hs]; exact ow8_free j h6) (j + 7 : Nat) (by omega) keyT 60000 4 (by decide) (by decide)
        refine ⟨_, hadd, ?_⟩
        rintro q hq ⟨rfl, rfl⟩
        unfold ABack
        generalize hfr : freshN _ _ _ _ = fb
        have hb : fb = true := by
          rw [← hfr]
          conv => lhs; whnf
        subst hb
        clear hfr
        dsimp only
        conv => whnf
        dsimp only [newBase, Nat.reduceAdd, Nat.reduceMul]
        rw [decide_eq_true (show (j : Int) < 8 by omega)]
        conv => whnf
        rw [show ((j : Int) != j) = false from by simp]
        conv => whnf
        rw [show ((j : Int) == 8) = false from by simp; omega]
        conv => whnf
        refine ⟨by first | omega | (simp only [Int.toNat_natCast]; omega) | (simp; done) | (simp; omega), ?_⟩
        conv => whnf
        refine ⟨⟨(j + 1, fun k => if k < j then ds k else epD [adr j] (j + 7 : Nat) keyT 60000 4 now), by dsimp only; omega⟩, [(104000, 900)], by dsimp only; omega, .refl _, .refl _, .refl _, .refl _, ?_⟩
        dsimp only
        rw [show min (j + 1) 8 = j + 1 by omega]
        refine ⟨OLe.refl _, ⟨rfl, rfl, rfl, fun k hk => ?_⟩, OLe.refl _, OLe.refl _, trivial⟩
        show addE j (fun k => [.pt (ds k)]) _ k = [D.pt (if k < j then ds k else _)]
        unfold addE
        split <;> rfl
      · obtain rfl : j = 8 := by omega
        refine ⟨_, (add_full seed i now 8 (Nat.le_refl _) (fun k => [.pt (ds k)]) (ow8 8) 0 [adr 8] (8 + 7 : Nat) keyT 60000 4), ?_⟩
        rintro q hq ⟨rfl, rfl⟩
        unfold ABack
        generalize hfr : freshN _ _ _ _ = fb
        have hb : fb = true := by
          rw [← hfr]
          conv => lhs; whnf
        subst hb
        clear hfr
        dsimp only
        conv => whnf
        dsimp only [newBase, Nat.reduceAdd, Nat.reduceMul]
        refine ⟨by first | omega | (simp only [Int.toNat_natCast]; omega) | (simp; done) | (simp; omega), ?_⟩
        conv => whnf
        exact ⟨⟨(9, ds), Nat.le_refl _⟩, [], by dsimp only; omega, .refl _, .refl _, .refl _, .refl _, OLe.refl _, OLe.refl _, OLe.refl _, OLe.refl _, trivial⟩
    · obtain rfl : j = 9 := by have := of_decide_eq_false h5; omega
      conv => whnf
      refine ⟨_, (netNew_spec seed), ?_⟩
      rintro q hq ⟨rfl, rfl⟩
      unfold ABack
      generalize hfr : freshN _ _ _ _ = fb
      have hb : fb = true := by
        rw [← hfr]
        conv => lhs; whnf
      subst hb
      clear hfr
      dsimp only
      conv => whnf
      dsimp only [newBase, Nat.reduceAdd, Nat.reduceMul]
      refine ⟨_, (add_arg seed), ?_⟩
      rintro q hq ⟨rfl, rfl⟩
      unfold ABack
      generalize hfr : freshN _ _ _ _ = fb
      have hb : fb = true := by
        rw [← hfr]
        conv => lhs; whnf
      subst hb
      clear hfr
      dsimp only
      conv => whnf
      dsimp only [newBase, Nat.reduceAdd, Nat.reduceMul]
      refine ALoop.introR tysDOk followsB (fun k : {k : Nat // k ≤ 8} => ([(2, ns s), (8, .ptr 40000 0), (16, ni 1), (17, ni (lastIx s k.1)), (18, ni k.1)], [(40000, .box (netC seed i now (.rsl 900 1 0 8) 40001 40002 0)), (900, .row 38 1 8 fun k => [.pt (ds k)]), (40001, .dmp (ownM (ow8 8))), (40002, .mp [])])) (fun k => 8 - k.1) ⟨0, Nat.zero_le _⟩ ?_ ?_
      · exact ⟨.refl _, .refl _, .refl _, .refl _, .refl _, OLe.refl _, OLe.refl _, OLe.refl _, OLe.refl _, trivial⟩
      rintro ⟨k, hk⟩
      dsimp only at hk ⊢
      conv => whnf
      split <;> rename_i h7
      · have hlt : k < 8 := by have := of_decide_eq_true h7; omega
        conv => whnf
        refine ⟨_, (address_spec k (by omega)), ?_⟩
        rintro q rfl
        conv => whnf
        by_cases h8 : adr k = s
        · rw [show (([10, 0, 0, UInt8.ofNat (k + 1)] : List UInt8) == s) = true from by rw [show ([10, 0, 0, UInt8.ofNat (k + 1)] : List UInt8) = s from h8]; simp]
          conv => whnf
          refine ⟨by first | omega | (simp only [Int.toNat_natCast]; omega) | (simp; done) | (simp; omega), ?_⟩
          conv => whnf
          exact ⟨⟨k + 1, by omega⟩, [], by dsimp only; omega, .refl _, .refl _, .refl _, .of_eq (by show ni k = ni (lastIx s (k + 1)); rw [lastIx, if_pos h8]), .refl _, OLe.refl _, OLe.refl _, OLe.refl _, OLe.refl _, trivial⟩
        · rw [show (([10, 0, 0, UInt8.ofNat (k + 1)] : List UInt8) == s) = false from beq_eq_false_iff_ne.2 h8]
          conv => whnf
          refine ⟨by first | omega | (simp only [Int.toNat_natCast]; omega) | (simp; done) | (simp; omega), ?_⟩
          conv => whnf
          exact ⟨⟨k + 1, by omega⟩, [], by dsimp only; omega, .refl _, .refl _, .refl _, .of_eq (by show ni (lastIx s k) = ni (lastIx s (k + 1)); rw [lastIx, if_neg h8]), .refl _, OLe.refl _, OLe.refl _, OLe.refl _, OLe.refl _, trivial⟩
      · obtain rfl : k = 8 := by have := of_decide_eq_false h7; omega
        have ho := owner_spec seed i now 8 (fun k => [.pt (ds k)]) (ow8 8) 0 s
        rw [ow8_last] at ho
        have hoc := lastIx_cases s
        have he1 := netEnd_spec seed i now 8 ds (ow8 8) 0 8
        rw [if_neg (by decide)] at he1
        have he2 := netEnd_spec seed i now 8 ds (ow8 8) 0 (-1)
        rw [if_neg (by decide)] at he2
        have he3 := netEnd_spec seed i now 8 ds (ow8 8) 0 0
        rw [if_pos (by decide)] at he3
        generalize lastIx s 8 = o at ho hoc ⊢
        rcases hoc with rfl | rfl | rfl | rfl | rfl | rfl | rfl | rfl | rfl
        · conv => whnf
          refine ⟨_, ho, ?_⟩
          rintro q hq ⟨rfl, rfl⟩
          unfold ABack
          generalize hfr : freshN _ _ _ _ = fb
          have hb : fb = true := by
            rw [← hfr]
            conv => lhs; whnf
          subst hb
          clear hfr
          dsimp only
          conv => whnf
          dsimp only [newBase, Nat.reduceAdd, Nat.reduceMul]
          refine ⟨_, he1, ?_⟩
          rintro q hq ⟨rfl, rfl⟩
          unfold ABack
          generalize hfr : freshN _ _ _ _ = fb
          have hb : fb = true := by
            rw [← hfr]
            conv => lhs; whnf
          subst hb
          clear hfr
          dsimp only
          conv => whnf
          dsimp only [newBase, Nat.reduceAdd, Nat.reduceMul]
          refine ⟨_, he2, ?_⟩
          rintro q hq ⟨rfl, rfl⟩
          unfold ABack
          generalize hfr : freshN _ _ _ _ = fb
          have hb : fb = true := by
            rw [← hfr]
            conv => lhs; whnf
          subst hb
          clear hfr
          dsimp only
          conv => whnf
          dsimp only [newBase, Nat.reduceAdd, Nat.reduceMul]
          refine ⟨_, he3, ?_⟩
          rintro q hq ⟨rfl, rfl⟩
          conv => whnf
          exact ⟨_, .refl _, rfl, rfl⟩
        · conv => whnf
          refine ⟨_, ho, ?_⟩
          rintro q hq ⟨rfl, rfl⟩
          unfold ABack
          generalize hfr : freshN _ _ _ _ = fb
          have hb : fb = true := by
            rw [← hfr]
            conv => lhs; whnf
          subst hb
          clear hfr
          dsimp only
          conv => whnf
          dsimp only [newBase, Nat.reduceAdd, Nat.reduceMul]
          refine ⟨_, he1, ?_⟩
          rintro q hq ⟨rfl, rfl⟩
          unfold ABack
          generalize hfr : freshN _ _ _ _ = fb
          have hb : fb = true := by
            rw [← hfr]
            conv => lhs; whnf
          subst hb
          clear hfr
          dsimp only
          conv => whnf
          dsimp only [newBase, Nat.reduceAdd, Nat.reduceMul]
          refine ⟨_, he2, ?_⟩
          rintro q hq ⟨rfl, rfl⟩
          unfold ABack
          generalize hfr : freshN _ _ _ _ = fb
          have hb : fb = true := by
            rw [← hfr]
            conv => lhs; whnf
          subst hb
          clear hfr
          dsimp only
          conv => whnf
          dsimp only [newBase, Nat.reduceAdd, Nat.reduceMul]
          refine ⟨_, he3, ?_⟩
          rintro q hq ⟨rfl, rfl⟩
          conv => whnf
          exact ⟨_, .refl _, rfl, rfl⟩
        · conv => whnf
          refine ⟨_, ho, ?_⟩
          rintro q hq ⟨rfl, rfl⟩
          unfold ABack
          generalize hfr : freshN _ _ _ _ = fb
          have hb : fb = true := by
            rw [← hfr]
            conv => lhs; whnf
          subst hb
          clear hfr
          dsimp only
          conv => whnf
          dsimp only [newBase, Nat.reduceAdd, Nat.reduceMul]
          refine ⟨_, he1, ?_⟩
          rintro q hq ⟨rfl, rfl⟩
          unfold ABack
          generalize hfr : freshN _ _ _ _ = fb
          have hb : fb = true := by
            rw [← hfr]
            conv => lhs; whnf
          subst hb
          clear hfr
          dsimp only
          conv => whnf
          dsimp only [newBase, Nat.reduceAdd, Nat.reduceMul]
          refine ⟨_, he2, ?_⟩
          rintro q hq ⟨rfl, rfl⟩
          unfold ABack
          generalize hfr : freshN _ _ _ _ = fb
          have hb : fb = true := by
            rw [← hfr]
            conv => lhs; whnf
          subst hb
          clear hfr
          dsimp only
          conv => whnf
          dsimp only [newBase, Nat.reduceAdd, Nat.reduceMul]
          refine ⟨_, he3, ?_⟩
          rintro q hq ⟨rfl, rfl⟩
          conv => whnf
          exact ⟨_, .refl _, rfl, rfl⟩
        · conv => whnf
          refine ⟨_, ho, ?_⟩
          rintro q hq ⟨rfl, rfl⟩
          unfold ABack
          generalize hfr : freshN _ _ _ _ = fb
          have hb : fb = true := by
            rw [← hfr]
            conv => lhs; whnf
          subst hb
          clear hfr
          dsimp only
          conv => whnf
          dsimp only [newBase, Nat.reduceAdd, Nat.reduceMul]
          refine ⟨_, he1, ?_⟩
          rintro q hq ⟨rfl, rfl⟩
          unfold ABack
          generalize hfr : freshN _ _ _ _ = fb
          have hb : fb = true := by
            rw [← hfr]
            conv => lhs; whnf
          subst hb
          clear hfr
          dsimp only
          conv => whnf
          dsimp only [newBase, Nat.reduceAdd, Nat.reduceMul]
          refine ⟨_, he2, ?_⟩
          rintro q hq ⟨rfl, rfl⟩
          unfold ABack
          generalize hfr : freshN _ _ _ _ = fb
          have hb : fb = true := by
            rw [← hfr]
            conv => lhs; whnf
          subst hb
          clear hfr
          dsimp only
          conv => whnf
          dsimp only [newBase, Nat.reduceAdd, Nat.reduceMul]
          refine ⟨_, he3, ?_⟩
          rintro q hq ⟨rfl, rfl⟩
          conv => whnf
          exact ⟨_, .refl _, rfl, rfl⟩
        · conv => whnf
          refine ⟨_, ho, ?_⟩
          rintro q hq ⟨rfl, rfl⟩
          unfold ABack
          generalize hfr : freshN _ _ _ _ = fb
          have hb : fb = true := by
            rw [← hfr]
            conv => lhs; whnf
          subst hb
          clear hfr
          dsimp only
          conv => whnf
          dsimp only [newBase, Nat.reduceAdd, Nat.reduceMul]
          refine ⟨_, he1, ?_⟩
          rintro q hq ⟨rfl, rfl⟩
          unfold ABack
          generalize hfr : freshN _ _ _ _ = fb
          have hb : fb = true := by
            rw [← hfr]
            conv => lhs; whnf
          subst hb
          clear hfr
          dsimp only
          conv => whnf
          dsimp only [newBase, Nat.reduceAdd, Nat.reduceMul]
          refine ⟨_, he2, ?_⟩
          rintro q hq ⟨rfl, rfl⟩
          unfold ABack
          generalize hfr : freshN _ _ _ _ = fb
          have hb : fb = true := by
            rw [← hfr]
            conv => lhs; whnf
          subst hb
          clear hfr
          dsimp only
          conv => whnf
          dsimp only [newBase, Nat.reduceAdd, Nat.reduceMul]
          refine ⟨_, he3, ?_⟩
          rintro q hq ⟨rfl, rfl⟩
          conv => whnf
          exact ⟨_, .refl _, rfl, rfl⟩
        · conv => whnf
          refine ⟨_, ho, ?_⟩
          rintro q hq ⟨rfl, rfl⟩
          unfold ABack
          generalize hfr : freshN _ _ _ _ = fb
          have hb : fb = true := by
            rw [← hfr]
            conv => lhs; whnf
          subst hb
          clear hfr
          dsimp only
          conv => whnf
          dsimp only [newBase, Nat.reduceAdd, Nat.reduceMul]
          refine ⟨_, he1, ?_⟩
          rintro q hq ⟨rfl, rfl⟩
          unfold ABack
          generalize hfr : freshN _ _ _ _ = fb
          have hb : fb = true := by
            rw [← hfr]
            conv => lhs; whnf
          subst hb
          clear hfr
          dsimp only
          conv => whnf
          dsimp only [newBase, Nat.reduceAdd, Nat.reduceMul]
          refine ⟨_, he2, ?_⟩
          rintro q hq ⟨rfl, rfl⟩
          unfold ABack
          generalize hfr : freshN _ _ _ _ = fb
          have hb : fb = true := by
            rw [← hfr]
            conv => lhs; whnf
          subst hb
          clear hfr
          dsimp only
          conv => whnf
          dsimp only [newBase, Nat.reduceAdd, Nat.reduceMul]
          refine ⟨_, he3, ?_⟩
          rintro q hq ⟨rfl, rfl⟩
          conv => whnf
          exact ⟨_, .refl _, rfl, rfl⟩
        · conv => whnf
          refine ⟨_, ho, ?_⟩
          rintro q hq ⟨rfl, rfl⟩
          unfold ABack
          generalize hfr : freshN _ _ _ _ = fb
          have hb : fb = true := by
            rw [← hfr]
            conv => lhs; whnf
          subst hb
          clear hfr
          dsimp only
          conv => whnf
          dsimp only [newBase, Nat.reduceAdd, Nat.reduceMul]
          refine ⟨_, he1, ?_⟩
          rintro q hq ⟨rfl, rfl⟩
          unfold ABack
          generalize hfr : freshN _ _ _ _ = fb
          have hb : fb = true := by
            rw [← hfr]
            conv => lhs; whnf
          subst hb
          clear hfr
          dsimp only
          conv => whnf
          dsimp only [newBase, Nat.reduceAdd, Nat.reduceMul]
          refine ⟨_, he2, ?_⟩
          rintro q hq ⟨rfl, rfl⟩
          unfold ABack
          generalize hfr : freshN _ _ _ _ = fb
          have hb : fb = true := by
            rw [← hfr]
            conv => lhs; whnf
          subst hb
          clear hfr
          dsimp only
          conv => whnf
          dsimp only [newBase, Nat.reduceAdd, Nat.reduceMul]
          refine ⟨_, he3, ?_⟩
          rintro q hq ⟨rfl, rfl⟩
          conv => whnf
          exact ⟨_, .refl _, rfl, rfl⟩
        · conv => whnf
          refine ⟨_, ho, ?_⟩
          rintro q hq ⟨rfl, rfl⟩
          unfold ABack
          generalize hfr : freshN _ _ _ _ = fb
          have hb : fb = true := by
            rw [← hfr]
            conv => lhs; whnf
          subst hb
          clear hfr
          dsimp only
          conv => whnf
          dsimp only [newBase, Nat.reduceAdd, Nat.reduceMul]
          refine ⟨_, he1, ?_⟩
          rintro q hq ⟨rfl, rfl⟩
          unfold ABack
          generalize hfr : freshN _ _ _ _ = fb
          have hb : fb = true := by
            rw [← hfr]
            conv => lhs; whnf
          subst hb
          clear hfr
          dsimp only
          conv => whnf
          dsimp only [newBase, Nat.reduceAdd, Nat.reduceMul]
          refine ⟨_, he2, ?_⟩
          rintro q hq ⟨rfl, rfl⟩
          unfold ABack
          generalize hfr : freshN _ _ _ _ = fb
          have hb : fb = true := by
            rw [← hfr]
            conv => lhs; whnf
          subst hb
          clear hfr
          dsimp only
          conv => whnf
          dsimp only [newBase, Nat.reduceAdd, Nat.reduceMul]
          refine ⟨_, he3, ?_⟩
          rintro q hq ⟨rfl, rfl⟩
          conv => whnf
          exact ⟨_, .refl _, rfl, rfl⟩
        · conv => whnf
          refine ⟨_, ho, ?_⟩
          rintro q hq ⟨rfl, rfl⟩
          unfold ABack
          generalize hfr : freshN _ _ _ _ = fb
          have hb : fb = true := by
            rw [← hfr]
            conv => lhs; whnf
          subst hb
          clear hfr
          dsimp only
          conv => whnf
          dsimp only [newBase, Nat.reduceAdd, Nat.reduceMul]
          refine ⟨_, he1, ?_⟩
          rintro q hq ⟨rfl, rfl⟩
          unfold ABack
          generalize hfr : freshN _ _ _ _ = fb
          have hb : fb = true := by
            rw [← hfr]
            conv => lhs; whnf
          subst hb
          clear hfr
          dsimp only
          conv => whnf
          dsimp only [newBase, Nat.reduceAdd, Nat.reduceMul]
          refine ⟨_, he2, ?_⟩
          rintro q hq ⟨rfl, rfl⟩
          unfold ABack
          generalize hfr : freshN _ _ _ _ = fb
          have hb : fb = true := by
            rw [← hfr]
            conv => lhs; whnf
          subst hb
          clear hfr
          dsimp only
          conv => whnf
          dsimp only [newBase, Nat.reduceAdd, Nat.reduceMul]
          refine ⟨_, he3, ?_⟩
          rintro q hq ⟨rfl, rfl⟩
          conv => whnf
          exact ⟨_, .refl _, rfl, rfl⟩
theorem netDraws_of {l0 l1 l2 : List D} (h0 : wt tys 8 9 l0) (h1 : wt tys 8 41 l1) (h2 : wt tys 8 9 l2) : PSpec Tryz.prog 4 [asV false l0, asV false l1, asV false l2] (· = .d (.b true)) := by
  obtain ⟨seed, rfl, _⟩ := h0
  obtain ⟨s, rfl, _⟩ := h2
  obtain ⟨m, f, rfl, hm, hf⟩ := h1
  have key : ∀ k, k < m → ∃ x : Int, f k = [.i .i64 x] ∧ -9223372036854775808 ≤ x ∧ x ≤ 9223372036854775807 := by
    intro k hk
    obtain ⟨_, x, hx, hw⟩ := hf k hk
    exact ⟨x, hx, bounds_i64 hw⟩
  obtain ⟨p, hp⟩ : ∃ p : Nat → Int, ∀ k, k < m → f k = [.i .i64 (p k)] ∧ -9223372036854775808 ≤ p k ∧ p k ≤ 9223372036854775807 := by
    refine ⟨fun k => if h : k < m then (key k h).choose else 0, fun k hk => ?_⟩
    simp only [dif_pos hk]
    exact (key k hk).choose_spec
  have hlen : ((List.range m).map p).length = m := by simp
  refine (netDraws_main seed ((List.range m).map p) s (fun x hx => ?_)).argsC ⟨.refl _, .sl hlen.symm fun k hk => ?_, .refl _, trivial⟩
  · obtain ⟨k, hk, rfl⟩ := List.mem_map.1 hx
    exact (hp k (List.mem_range.1 hk)).2
  · rw [(hp k hk).1]
    simp [iF, hk]
end Go.Proofs.YtjdmnfjgmbnlbaaGreatDoor
