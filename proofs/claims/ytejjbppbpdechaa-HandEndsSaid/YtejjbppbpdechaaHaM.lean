/- Both ends close: the walk. -/
import Derived.Test.YtejjbppbpdechaaHaL
namespace Go.Proofs.Ytejjbppbpdechaa
open Go Go.RowKit Towline Towline.Hand
set_option linter.unusedVariables false
set_option linter.unusedSimpArgs false
set_option maxRecDepth 20000
set_option maxHeartbeats 4000000
theorem followsB : Try.prog.follows .mixedOrders = true := by kernel_rfl
def encHd (h : H) : List D := [.i .i64 h.st, .i .i64 h.tries, .i .i64 h.due, .i .u32 h.ourTag, .i .u32 h.peerTag, .i .u32 h.ourTsn, .i .u32 h.peerTsn, .i .u32 h.mine, .i .u32 h.window, .i .u16 h.outs, .i .u16 h.ins, .s h.cookie]
def two2 (x y : List D) : Nat → List D := fun k => match k with | 0 => x | _ + 1 => y
def rowK (w : List K) : AObj := .row 41 14 w.length fun k => encK (w.getD k default)
theorem takeK_spec (h : H) (c : K) (e : Bool) (now : Int) (ht : 0 ≤ h.tries) : PSpec Try.prog 6 [hA h, kA c, vb e, vi now] (· = rA (takeR h c [] e now)) :=
  (take_spec h c (.v (.slice none 0 0)) (.v (.slice none 0 0)) [] e now (by show 0 ≤ maxLen; decide) (by omega)).argsC ⟨.refl _, .agg ⟨.refl _, .refl _, .refl _, .refl _, .refl _, .refl _, .refl _, .refl _, .refl _, .refl _, .refl _, .refl _, .nil, .refl _, trivial⟩, .refl _, .refl _, trivial⟩
theorem fcatK (l m : List K) (k : Nat) : fcat (fun k => encK (l.getD k default)) l.length (fun k => encK (m.getD k default)) k = encK ((l ++ m).getD k default) := by
  unfold fcat
  split
  · rename_i h
    show encK (l.getD k default) = _
    rw [List.getD_eq_getElem?_getD, List.getD_eq_getElem?_getD, List.getElem?_append_left h]
  · rename_i h
    show encK (m.getD (k - l.length) default) = _
    rw [List.getD_eq_getElem?_getD, List.getD_eq_getElem?_getD, List.getElem?_append_right (by omega)]
theorem fold_len (e : Bool) : ∀ (l : List K) (s : Sd), 0 ≤ s.h.tries → (l.foldl (eat1 e) s).w.length ≤ s.w.length + l.length ∧ 0 ≤ (l.foldl (eat1 e) s).h.tries
  | [], s, h => ⟨by simp, h⟩
  | c :: r, s, h => by
    have h1 := fold_len e r (eat1 e s c) (takeR_tries h c e 10)
    have h2 := takeR_len s.h c e 10
    refine ⟨Nat.le_trans h1.1 ?_, h1.2⟩
    show (s.w ++ (takeR s.h c [] e 10).l).length + r.length ≤ s.w.length + (r.length + 1)
    rw [List.length_append]
    omega
theorem fold_take (e : Bool) (l : List K) (s : Sd) (k : Nat) (hk : k < l.length) : (l.take (k + 1)).foldl (eat1 e) s = eat1 e ((l.take k).foldl (eat1 e) s) (l.getD k default) := by
  rw [List.take_add_one, List.getElem?_eq_getElem hk, List.foldl_append, List.getD_eq_getElem?_getD, List.getElem?_eq_getElem hk]
  rfl
abbrev nilA : AVal := .d (.v (.slice none 0 0))
abbrev handsO (E : Sd × Sd) : AObj := .row 26 12 2 (two2 (encHd E.1.h) (encHd E.2.h))
abbrev empO (a b : Bool) : AObj := .row 4 1 2 (two2 [.b a] [.b b])
abbrev notesO (E : Sd × Sd) : AObj := .row 3 1 2 (two2 [.i .i64 E.1.n] [.i .i64 E.2.n])
inductive Tri | a | b | c
abbrev preE (b : Bool) (i : Int) : Env := [(2, vb b), (8, .rsl 29 12 0 2), (9, .rsl 32 1 0 2), (10, .rsl 33 1 0 2), (11, .rsl 34 1 0 2), (12, vi i)]
def preS (f s b : Bool) : Tri → Env × Heap
  | .a => (preE b 0, [(29, handsO (⟨h0 1 2, [], 0⟩, ⟨h0 2 1, [], 0⟩)), (32, empO f s), (33, notesO (⟨h0 1 2, [], 0⟩, ⟨h0 2 1, [], 0⟩)), (34, .box [nilA, nilA])])
  | .b => (preE b 1, [(29, handsO (cls (h0 1 2) f, ⟨h0 2 1, [], 0⟩)), (32, empO f s), (33, notesO (⟨h0 1 2, [], 0⟩, ⟨h0 2 1, [], 0⟩)), (34, .box [.rsl 9001 14 0 (cls (h0 1 2) f).w.length, nilA]), (9001, rowK (cls (h0 1 2) f).w)])
  | .c => match b with
    | true => (preE true 2, [(29, handsO (endSt f s true 0)), (32, empO f s), (33, notesO (endSt f s true 0)), (34, .box [.rsl 9001 14 0 (endSt f s true 0).1.w.length, .rsl 9000 14 0 (endSt f s true 0).2.w.length]), (9001, rowK (endSt f s true 0).1.w), (9000, rowK (endSt f s true 0).2.w)])
    | false => (preE false 2, [(29, handsO (endSt f s false 0)), (32, empO f s), (33, notesO (endSt f s false 0)), (34, .box [.rsl 9001 14 0 (endSt f s false 0).1.w.length, nilA]), (9001, rowK (endSt f s false 0).1.w)])
def Tri.m : Tri → Nat | .a => 2 | .b => 1 | .c => 0
inductive Rd | first | even (m : Nat) | odd (m : Nat)
def Rd.r : Rd → Nat | .first => 0 | .even m => 2 * m + 2 | .odd m => 2 * m + 1
abbrev midE (r : Int) : Env := [(8, .rsl 29 12 0 2), (9, .rsl 32 1 0 2), (10, .rsl 33 1 0 2), (11, .rsl 34 1 0 2), (16, vi r)]
def mainS (f s b : Bool) : Rd → Env × Heap
  | .first => (midE 0, [(29, handsO (endSt f s b 0)), (32, empO f s), (33, notesO (endSt f s b 0)), (34, .box [.rsl 9001 14 0 (endSt f s b 0).1.w.length, .rsl 9000 14 0 (endSt f s b 0).2.w.length]), (9001, rowK (endSt f s b 0).1.w), (9000, rowK (endSt f s b 0).2.w)])
  | .even m => (midE (2 * m + 2 : Nat), [(29, handsO (endSt f s b (2 * m + 2))), (32, empO (emp0 f (2 * m + 2)) (emp1 s (2 * m + 2))), (33, notesO (endSt f s b (2 * m + 2))), (34, .box [nilA, .rsl 9000 14 0 (endSt f s b (2 * m + 2)).2.w.length]), (9000, rowK (endSt f s b (2 * m + 2)).2.w)])
  | .odd m => (midE (2 * m + 1 : Nat), [(29, handsO (endSt f s b (2 * m + 1))), (32, empO (emp0 f (2 * m + 1)) (emp1 s (2 * m + 1))), (33, notesO (endSt f s b (2 * m + 1))), (34, .box [.rsl 9000 14 0 (endSt f s b (2 * m + 1)).1.w.length, nilA]), (9000, rowK (endSt f s b (2 * m + 1)).1.w)])
def inner0 (r : Int) (a0 a1 : Bool) (x y : Sd) (k : Nat) : Env × Heap :=
  (midE r ++ [(17, vi 0), (18, vi k)], [(29, handsO (x, y)), (32, empO a0 a1), (33, notesO (x, y)), (34, .box [.rsl 9001 14 0 x.w.length, .rsl 9000 14 0 y.w.length]), (9001, rowK x.w), (9000, rowK y.w)])
def inner1 (r : Int) (a0 a1 : Bool) (x y : Sd) (k : Nat) : Env × Heap :=
  (midE r ++ [(17, vi 1), (18, vi k)], [(29, handsO (x, y)), (32, empO a0 a1), (33, notesO (x, y)), (34, .box [.rsl 9000 14 0 x.w.length, .rsl 9001 14 0 y.w.length]), (9001, rowK y.w), (9000, rowK x.w)])
theorem endSt_even (f s b : Bool) (r : Nat) (h : r % 2 = 0) : endSt f s b (r + 1) = (after ((endSt f s b r).2.w.foldl (eat1 (emp0 f r)) (endSt f s b r).1), clear (endSt f s b r).2) := by
  rw [endSt, if_pos h]
theorem endSt_odd (f s b : Bool) (r : Nat) (h : ¬ r % 2 = 0) : endSt f s b (r + 1) = (clear (endSt f s b r).1, after ((endSt f s b r).1.w.foldl (eat1 (emp1 s r)) (endSt f s b r).2)) := by
  rw [endSt, if_neg h]
theorem emptyR_one (h : H) (c n : Int) : (emptyR h c n).l.length ≤ 1 := by
  unfold emptyR
  repeat' (first | (dsimp only; exact sends_len _ _) | (simp; done) | split)
theorem ends_spec (f s b : Bool) : PSpec Try.prog 3 [vb f, vb s, vb b] (· = vb true) := by
  refine PSpec.run ((tysXOk false [] [] [2000000000 + 31])) followsB Try.func3 (by decide) rfl Try.ntmps3 (Nat.le_of_ble_eq_true rfl) rfl fun w0 R0 hG => ?_
  conv => whnf
  refine ⟨_, shown_spec, ?_⟩
  rintro q rfl
  conv => whnf
  refine ⟨by first | omega | decide +kernel, ?_⟩
  conv => whnf
  refine ALoop.introR (tysXOk false [] [] [2000000000 + 31]) followsB (preS f s b) Tri.m .a ?_ ?_
  · exact ⟨.refl _, .refl _, .refl _, .refl _, .refl _, .refl _, ⟨rfl, rfl, rfl, fun k hk => by rcases (show k = 0 ∨ k = 1 by omega) with rfl | rfl <;> rfl⟩, ⟨rfl, rfl, rfl, fun k hk => by rcases (show k = 0 ∨ k = 1 by omega) with rfl | rfl <;> rfl⟩, ⟨rfl, rfl, rfl, fun k hk => by rcases (show k = 0 ∨ k = 1 by omega) with rfl | rfl <;> rfl⟩, ⟨.refl _, .refl _, trivial⟩, trivial⟩
  intro x
  cases x
  · dsimp only [preS]
    conv => whnf
    refine ⟨by first | omega | decide +kernel, ?_⟩
    conv => whnf
    refine ⟨by first | omega | decide +kernel, ?_⟩
    conv => whnf
    refine ⟨by first | omega | decide +kernel, ?_⟩
    conv => whnf
    refine ⟨by first | omega | decide +kernel, ?_⟩
    conv => whnf
    refine ⟨_, (close_spec (h0 1 2) 5 f 0), ?_⟩
    conv => whnf
    refine ⟨by kernel_rfl, ?_⟩
    conv => whnf
    refine ⟨by first | omega | decide +kernel, ?_⟩
    conv => whnf
    refine ⟨by first | omega | decide +kernel, ?_⟩
    conv => whnf
    refine ⟨by first | omega | decide +kernel, ?_⟩
    conv => whnf
    have hl : (closeR (h0 1 2) 5 f 0).l.length ≤ 1 := by cases f <;> decide
    refine ⟨by simp only [ty41]; constructor <;> omega, ?_⟩
    conv => whnf
    refine ⟨by first | omega | decide +kernel, ?_⟩
    conv => whnf
    refine ⟨by first | omega | decide +kernel, ?_⟩
    conv => whnf
    exact ⟨.b, [(70, 9001)], by decide, .refl _, .refl _, .refl _, .refl _, .refl _, .refl _, ⟨rfl, rfl, rfl, fun k hk => by rcases (show k = 0 ∨ k = 1 by omega) with rfl | rfl <;> rfl⟩, ⟨rfl, rfl, rfl, fun k hk => by rcases (show k = 0 ∨ k = 1 by omega) with rfl | rfl <;> rfl⟩, ⟨rfl, rfl, rfl, fun k hk => by rcases (show k = 0 ∨ k = 1 by omega) with rfl | rfl <;> rfl⟩, ⟨.refl _, .refl _, trivial⟩, ⟨rfl, rfl, rfl, fun k hk => rfl⟩, trivial⟩
  · dsimp only [preS]
    cases b
    · conv => whnf
      refine ⟨by first | omega | decide +kernel, ?_⟩
      conv => whnf
      exact ⟨.c, [], by decide, .refl _, .refl _, .refl _, .refl _, .refl _, .refl _, ⟨rfl, rfl, rfl, fun k hk => by rcases (show k = 0 ∨ k = 1 by omega) with rfl | rfl <;> rfl⟩, ⟨rfl, rfl, rfl, fun k hk => by rcases (show k = 0 ∨ k = 1 by omega) with rfl | rfl <;> rfl⟩, ⟨rfl, rfl, rfl, fun k hk => by rcases (show k = 0 ∨ k = 1 by omega) with rfl | rfl <;> rfl⟩, ⟨.refl _, .refl _, trivial⟩, ⟨rfl, rfl, rfl, fun k hk => rfl⟩, trivial⟩
    · conv => whnf
      refine ⟨by first | omega | decide +kernel, ?_⟩
      conv => whnf
      refine ⟨by first | omega | decide +kernel, ?_⟩
      conv => whnf
      refine ⟨by first | omega | decide +kernel, ?_⟩
      conv => whnf
      refine ⟨by first | omega | decide +kernel, ?_⟩
      conv => whnf
      refine ⟨_, (close_spec (h0 2 1) 5 s 0), ?_⟩
      conv => whnf
      refine ⟨by kernel_rfl, ?_⟩
      conv => whnf
      refine ⟨by first | omega | decide +kernel, ?_⟩
      conv => whnf
      refine ⟨by first | omega | decide +kernel, ?_⟩
      conv => whnf
      refine ⟨by first | omega | decide +kernel, ?_⟩
      conv => whnf
      have hl : (closeR (h0 2 1) 5 s 0).l.length ≤ 1 := by cases s <;> decide
      refine ⟨by simp only [ty41]; constructor <;> omega, ?_⟩
      conv => whnf
      refine ⟨by first | omega | decide +kernel, ?_⟩
      conv => whnf
      refine ⟨by first | omega | decide +kernel, ?_⟩
      conv => whnf
      exact ⟨.c, [(70, 9000)], by decide, .refl _, .refl _, .refl _, .refl _, .refl _, .refl _, ⟨rfl, rfl, rfl, fun k hk => by rcases (show k = 0 ∨ k = 1 by omega) with rfl | rfl <;> rfl⟩, ⟨rfl, rfl, rfl, fun k hk => by rcases (show k = 0 ∨ k = 1 by omega) with rfl | rfl <;> rfl⟩, ⟨rfl, rfl, rfl, fun k hk => by rcases (show k = 0 ∨ k = 1 by omega) with rfl | rfl <;> rfl⟩, ⟨.refl _, .refl _, trivial⟩, ⟨rfl, rfl, rfl, fun k hk => rfl⟩, ⟨rfl, rfl, rfl, fun k hk => rfl⟩, trivial⟩
  · cases hb : b
    all_goals
      dsimp only [preS]
      conv => whnf
    · refine ALoop.adoptCell 34 1 9000 14 41 (fun _ => []) rfl rfl rfl rfl rfl ?_
      refine ALoop.introR (tysXOk false [] [] [2000000000 + 31]) followsB (fun x : {x : Rd // x.r ≤ 12} => mainS f s b x.1) (fun x => 12 - x.1.r) ⟨.first, by decide⟩ ?_ ?_
      · subst hb
        exact ⟨.refl _, .refl _, .refl _, .refl _, .refl _, ⟨rfl, rfl, rfl, fun k hk => by rcases (show k = 0 ∨ k = 1 by omega) with rfl | rfl <;> rfl⟩, ⟨rfl, rfl, rfl, fun k hk => by rcases (show k = 0 ∨ k = 1 by omega) with rfl | rfl <;> rfl⟩, ⟨rfl, rfl, rfl, fun k hk => by rcases (show k = 0 ∨ k = 1 by omega) with rfl | rfl <;> rfl⟩, ⟨.refl _, .refl _, trivial⟩, ⟨rfl, rfl, rfl, fun k hk => rfl⟩, ⟨rfl, rfl, rfl, fun k hk => by first | rfl | exact absurd hk (Nat.not_lt_zero _)⟩, trivial⟩
      clear hb
      rintro ⟨x, hx⟩
      rcases x with _ | m | m
      · dsimp only [mainS]
        obtain ⟨w1, w2, t1, t2⟩ := end_small f s b 0 (by have := hx; simp only [Rd.r] at this; omega)
        have hnext := endSt_even f s b 0 (by omega)
        generalize endSt f s b 0 = E at *
        conv => whnf
        refine ⟨by first | omega | decide +kernel, ?_⟩
        conv => whnf
        refine ALoop.introR (tysXOk false [] [] [2000000000 + 31]) followsB (fun k : {k : Nat // k ≤ E.2.w.length} => inner0 0 (emp0 f 0) (emp1 s 0) ((E.2.w.take k.1).foldl (eat1 (emp0 f 0)) E.1) E.2 k.1) (fun k => E.2.w.length - k.1) ⟨0, by omega⟩ ?_ ?_
        · exact ⟨.refl _, .refl _, .refl _, .refl _, .refl _, .refl _, .refl _, ⟨rfl, rfl, rfl, fun k hk => by rcases (show k = 0 ∨ k = 1 by omega) with rfl | rfl <;> rfl⟩, ⟨rfl, rfl, rfl, fun k hk => by rcases (show k = 0 ∨ k = 1 by omega) with rfl | rfl <;> rfl⟩, ⟨rfl, rfl, rfl, fun k hk => by rcases (show k = 0 ∨ k = 1 by omega) with rfl | rfl <;> rfl⟩, ⟨.refl _, .refl _, trivial⟩, ⟨rfl, rfl, rfl, fun k hk => rfl⟩, ⟨rfl, rfl, rfl, fun k hk => rfl⟩, trivial⟩
        rintro ⟨k, hk⟩
        dsimp only
        obtain ⟨hfl, hft⟩ := fold_len (emp0 f 0) (E.2.w.take k) E.1 t1
        rw [List.length_take, Nat.min_eq_left hk] at hfl
        have hstep := fun h => fold_take (emp0 f 0) E.2.w E.1 k h
        have hend : k = E.2.w.length → (E.2.w.take k).foldl (eat1 (emp0 f 0)) E.1 = E.2.w.foldl (eat1 (emp0 f 0)) E.1 := fun e => by rw [e, List.take_length]
        generalize hX : (E.2.w.take k).foldl (eat1 (emp0 f 0)) E.1 = X at *
        dsimp only [inner0]
        conv => whnf
        refine ⟨by first | omega | (simp only [Int.toNat_natCast]; omega) | (simp; done) | (simp; omega), ?_⟩
        conv => whnf
        refine ⟨by first | omega | (simp only [Int.toNat_natCast]; omega) | (simp; done) | (simp; omega), ?_⟩
        conv => whnf
        by_cases hkk : k < E.2.w.length
        · rw [show decide ((k : Int) < (E.2.w.length : Int)) = true from decide_eq_true (by omega)]
          conv => whnf
          refine ⟨by first | omega | (simp only [Int.toNat_natCast]; omega) | (simp; done) | (simp; omega), ?_⟩
          conv => whnf
          refine ⟨by first | omega | (simp only [Int.toNat_natCast]; omega) | (simp; done) | (simp; omega), ?_⟩
          conv => whnf
          refine ⟨by first | omega | (simp only [Int.toNat_natCast]; omega) | (simp; done) | (simp; omega), ?_⟩
          conv => whnf
          refine ⟨by first | omega | (simp only [Int.toNat_natCast]; omega) | (simp; done) | (simp; omega), ?_⟩
          conv => whnf
          rw [show 0 + ((k : Nat) : Int).toNat = k from by omega]
          refine ⟨by first | omega | (simp only [Int.toNat_natCast]; omega) | (simp; done) | (simp; omega), ?_⟩
          conv => whnf
          refine ⟨by first | omega | (simp only [Int.toNat_natCast]; omega) | (simp; done) | (simp; omega), ?_⟩
          conv => whnf
          refine ⟨by first | omega | (simp only [Int.toNat_natCast]; omega) | (simp; done) | (simp; omega), ?_⟩
          conv => whnf
          refine ⟨by first | omega | (simp only [Int.toNat_natCast]; omega) | (simp; done) | (simp; omega), ?_⟩
          conv => whnf
          refine ⟨_, (takeK_spec X.h (E.2.w.getD k default) _ 10 hft), ?_⟩
          conv => whnf
          refine ⟨by kernel_rfl, ?_⟩
          conv => whnf
          have hl1 := takeR_len X.h (E.2.w.getD k default) (emp0 f 0) 10
          refine ⟨by first | omega | (simp only [Int.toNat_natCast]; omega) | (simp; done) | (simp; omega), ?_⟩
          conv => whnf
          refine ⟨by first | omega | (simp only [Int.toNat_natCast]; omega) | (simp; done) | (simp; omega), ?_⟩
          conv => whnf
          refine ⟨by first | omega | (simp only [Int.toNat_natCast]; omega) | (simp; done) | (simp; omega), ?_⟩
          conv => whnf
          refine ⟨⟨by omega, by omega, by simp only [ty41]; omega⟩, ?_⟩
          conv => whnf
          refine ⟨by first | omega | (simp only [Int.toNat_natCast]; omega) | (simp; done) | (simp; omega), ?_⟩
          conv => whnf
          refine ⟨by first | omega | (simp only [Int.toNat_natCast]; omega) | (simp; done) | (simp; omega), ?_⟩
          conv => whnf
          refine ⟨by first | omega | (simp only [Int.toNat_natCast]; omega) | (simp; done) | (simp; omega), ?_⟩
          conv => whnf
          refine ⟨by first | omega | (simp only [Int.toNat_natCast]; omega) | (simp; done) | (simp; omega), ?_⟩
          conv => whnf
          refine ⟨by first | omega | (simp only [Int.toNat_natCast]; omega) | (simp; done) | (simp; omega), ?_⟩
          conv => whnf
          refine ⟨by first | omega | (simp only [Int.toNat_natCast]; omega) | (simp; done) | (simp; omega), ?_⟩
          conv => whnf
          refine ⟨⟨k + 1, hkk⟩, [(120, 9001)], by dsimp only; omega, ?_⟩
          dsimp only
          rw [hstep hkk]
          exact ⟨.refl _, .refl _, .refl _, .refl _, .refl _, .refl _, .refl _, ⟨rfl, rfl, rfl, fun k hk => by rcases (show k = 0 ∨ k = 1 by omega) with rfl | rfl <;> rfl⟩, ⟨rfl, rfl, rfl, fun k hk => by rcases (show k = 0 ∨ k = 1 by omega) with rfl | rfl <;> rfl⟩, ⟨rfl, rfl, rfl, fun k hk => by rcases (show k = 0 ∨ k = 1 by omega) with rfl | rfl <;> rfl⟩, ⟨by show AVal.le (.rsl 9001 14 0 (X.w.length + _)) (.rsl 9001 14 0 (X.w ++ _).length); rw [List.length_append]; exact .refl _, .refl _, trivial⟩, ⟨rfl, rfl, (List.length_append ..).symm, fun j hj => fcatK _ _ j⟩, ⟨rfl, rfl, rfl, fun k hk => rfl⟩, trivial⟩
        · rw [show decide ((k : Int) < (E.2.w.length : Int)) = false from decide_eq_false (by omega)]
          conv => whnf
          refine ⟨by first | omega | (simp only [Int.toNat_natCast]; omega) | (simp; done) | (simp; omega), ?_⟩
          conv => whnf
          refine ⟨by first | omega | (simp only [Int.toNat_natCast]; omega) | (simp; done) | (simp; omega), ?_⟩
          conv => whnf
          refine ⟨by first | omega | (simp only [Int.toNat_natCast]; omega) | (simp; done) | (simp; omega), ?_⟩
          conv => whnf
          refine ⟨by first | omega | (simp only [Int.toNat_natCast]; omega) | (simp; done) | (simp; omega), ?_⟩
          conv => whnf
          refine ⟨by first | omega | (simp only [Int.toNat_natCast]; omega) | (simp; done) | (simp; omega), ?_⟩
          conv => whnf
          refine ⟨by first | omega | (simp only [Int.toNat_natCast]; omega) | (simp; done) | (simp; omega), ?_⟩
          conv => whnf
          refine ⟨_, (empty_spec X.h 6 20), ?_⟩
          rintro q rfl
          conv => whnf
          have hl1 := emptyR_one X.h 6 20
          refine ⟨by first | omega | (simp only [Int.toNat_natCast]; omega) | (simp; done) | (simp; omega), ?_⟩
          conv => whnf
          refine ⟨by first | omega | (simp only [Int.toNat_natCast]; omega) | (simp; done) | (simp; omega), ?_⟩
          conv => whnf
          refine ⟨by first | omega | (simp only [Int.toNat_natCast]; omega) | (simp; done) | (simp; omega), ?_⟩
          conv => whnf
          refine ⟨⟨by omega, by omega, by simp only [ty41]; omega⟩, ?_⟩
          conv => whnf
          refine ⟨by first | omega | (simp only [Int.toNat_natCast]; omega) | (simp; done) | (simp; omega), ?_⟩
          conv => whnf
          refine ⟨by first | omega | (simp only [Int.toNat_natCast]; omega) | (simp; done) | (simp; omega), ?_⟩
          conv => whnf
          have hnext' : endSt f s b (2 * 0 + 1) = _ := hnext
          refine ⟨⟨.odd 0, by simp only [Rd.r]; omega⟩, [(157, 9000)], by simp only [Rd.r]; omega, ?_⟩
          dsimp only [mainS]
          rw [hnext', ← hend (by omega)]
          exact ⟨.refl _, .refl _, .refl _, .refl _, .refl _, ⟨rfl, rfl, rfl, fun k hk => by rcases (show k = 0 ∨ k = 1 by omega) with rfl | rfl <;> rfl⟩, ⟨rfl, rfl, rfl, fun k hk => by rcases (show k = 0 ∨ k = 1 by omega) with rfl | rfl <;> rfl⟩, ⟨rfl, rfl, rfl, fun k hk => by rcases (show k = 0 ∨ k = 1 by omega) with rfl | rfl <;> rfl⟩, ⟨by show AVal.le (.rsl 9000 14 0 (X.w.length + _)) (.rsl 9000 14 0 (X.w ++ _).length); rw [List.length_append]; exact .refl _, .refl _, trivial⟩, ⟨rfl, rfl, (List.length_append ..).symm, fun j hj => fcatK _ _ j⟩, trivial⟩
      · dsimp only [mainS]
        obtain ⟨w1, w2, t1, t2⟩ := end_small f s b (2 * m + 2) (by have := hx; simp only [Rd.r] at this; omega)
        have hnil : (endSt f s b (2 * m + 2)).1.w = [] := by
          rw [show 2 * m + 2 = (2 * m + 1) + 1 from rfl, endSt_odd f s b (2 * m + 1) (by omega)]
          rfl
        have hnext := endSt_even f s b (2 * m + 2) (by omega)
        have hfin : m = 5 → (endSt f s b (2 * m + 2)).1.h.st = 0 ∧ (endSt f s b (2 * m + 2)).2.h.st = 0 ∧ (endSt f s b (2 * m + 2)).1.n = 2 ∧ (endSt f s b (2 * m + 2)).2.n = 2 := fun e => by rw [e]; exact end_all f s b
        generalize endSt f s b (2 * m + 2) = E at *
        conv => whnf
        by_cases hr : (2 * m + 2) < 12
        rotate_left
        · rw [show decide ((((2 * m + 2) : Nat) : Int) < 12) = false from decide_eq_false (by omega)]
          have hm : m = 5 := by have := hx; simp only [Rd.r] at this; omega
          obtain ⟨z1, z2, z3, z4⟩ := hfin hm
          conv => whnf
          refine ⟨by first | omega | decide +kernel, ?_⟩
          conv => whnf
          refine ⟨by first | omega | decide +kernel, ?_⟩
          conv => whnf
          rw [show (E.1.h.st == 0) = true from by rw [z1]; rfl]
          conv => whnf
          refine ⟨by first | omega | decide +kernel, ?_⟩
          conv => whnf
          refine ⟨by first | omega | decide +kernel, ?_⟩
          conv => whnf
          rw [show (E.2.h.st == 0) = true from by rw [z2]; rfl]
          conv => whnf
          refine ⟨by first | omega | decide +kernel, ?_⟩
          conv => whnf
          refine ⟨by first | omega | decide +kernel, ?_⟩
          conv => whnf
          rw [show (E.1.n == 2) = true from by rw [z3]; rfl]
          conv => whnf
          refine ⟨by first | omega | decide +kernel, ?_⟩
          conv => whnf
          refine ⟨by first | omega | decide +kernel, ?_⟩
          conv => whnf
          rw [show (E.2.n == 2) = true from by rw [z4]; rfl]
          conv => whnf
          exact ⟨_, .refl _, rfl, rfl⟩
        rw [show decide ((((2 * m + 2) : Nat) : Int) < 12) = true from decide_eq_true (by omega)]
        conv => whnf
        refine ⟨by first | omega | decide +kernel, ?_⟩
        conv => whnf
        rw [show (((2 * m + 2) : Nat) : Int).tmod 2 = 0 from by rw [Int.tmod_eq_emod_of_nonneg (by omega)]; omega]
        conv => whnf
        refine ALoop.adoptCell 34 0 9001 14 41 (fun _ => []) rfl rfl rfl rfl rfl ?_
        refine ALoop.introR (tysXOk false [] [] [2000000000 + 31]) followsB (fun k : {k : Nat // k ≤ E.2.w.length} => inner0 ((2 * m + 2) : Nat) (emp0 f (2 * m + 2)) (emp1 s (2 * m + 2)) ((E.2.w.take k.1).foldl (eat1 (emp0 f (2 * m + 2))) E.1) E.2 k.1) (fun k => E.2.w.length - k.1) ⟨0, by omega⟩ ?_ ?_
        · exact ⟨.refl _, .refl _, .refl _, .refl _, .refl _, .refl _, .refl _, ⟨rfl, rfl, rfl, fun k hk => by rcases (show k = 0 ∨ k = 1 by omega) with rfl | rfl <;> rfl⟩, ⟨rfl, rfl, rfl, fun k hk => by rcases (show k = 0 ∨ k = 1 by omega) with rfl | rfl <;> rfl⟩, ⟨rfl, rfl, rfl, fun k hk => by rcases (show k = 0 ∨ k = 1 by omega) with rfl | rfl <;> rfl⟩, ⟨by show AVal.le (.rsl 9001 14 0 0) (.rsl 9001 14 0 E.1.w.length); rw [hnil]; exact .refl _, .refl _, trivial⟩, ⟨rfl, rfl, by show 0 = E.1.w.length; rw [hnil]; rfl, fun k hk => absurd hk (Nat.not_lt_zero _)⟩, ⟨rfl, rfl, rfl, fun k hk => rfl⟩, trivial⟩
        rintro ⟨k, hk⟩
        dsimp only
        obtain ⟨hfl, hft⟩ := fold_len (emp0 f (2 * m + 2)) (E.2.w.take k) E.1 t1
        rw [List.length_take, Nat.min_eq_left hk] at hfl
        have hstep := fun h => fold_take (emp0 f (2 * m + 2)) E.2.w E.1 k h
        have hend : k = E.2.w.length → (E.2.w.take k).foldl (eat1 (emp0 f (2 * m + 2))) E.1 = E.2.w.foldl (eat1 (emp0 f (2 * m + 2))) E.1 := fun e => by rw [e, List.take_length]
        generalize hX : (E.2.w.take k).foldl (eat1 (emp0 f (2 * m + 2))) E.1 = X at *
        dsimp only [inner0]
        conv => whnf
        refine ⟨by first | omega | (simp only [Int.toNat_natCast]; omega) | (simp; done) | (simp; omega), ?_⟩
        conv => whnf
        refine ⟨by first | omega | (simp only [Int.toNat_natCast]; omega) | (simp; done) | (simp; omega), ?_⟩
        conv => whnf
        by_cases hkk : k < E.2.w.length
        · rw [show decide ((k : Int) < (E.2.w.length : Int)) = true from decide_eq_true (by omega)]
          conv => whnf
          refine ⟨by first | omega | (simp only [Int.toNat_natCast]; omega) | (simp; done) | (simp; omega), ?_⟩
          conv => whnf
          refine ⟨by first | omega | (simp only [Int.toNat_natCast]; omega) | (simp; done) | (simp; omega), ?_⟩
          conv => whnf
          refine ⟨by first | omega | (simp only [Int.toNat_natCast]; omega) | (simp; done) | (simp; omega), ?_⟩
          conv => whnf
          refine ⟨by first | omega | (simp only [Int.toNat_natCast]; omega) | (simp; done) | (simp; omega), ?_⟩
          conv => whnf
          rw [show 0 + ((k : Nat) : Int).toNat = k from by omega]
          refine ⟨by first | omega | (simp only [Int.toNat_natCast]; omega) | (simp; done) | (simp; omega), ?_⟩
          conv => whnf
          refine ⟨by first | omega | (simp only [Int.toNat_natCast]; omega) | (simp; done) | (simp; omega), ?_⟩
          conv => whnf
          refine ⟨by first | omega | (simp only [Int.toNat_natCast]; omega) | (simp; done) | (simp; omega), ?_⟩
          conv => whnf
          refine ⟨by first | omega | (simp only [Int.toNat_natCast]; omega) | (simp; done) | (simp; omega), ?_⟩
          conv => whnf
          refine ⟨_, (takeK_spec X.h (E.2.w.getD k default) _ 10 hft), ?_⟩
          conv => whnf
          refine ⟨by kernel_rfl, ?_⟩
          conv => whnf
          have hl1 := takeR_len X.h (E.2.w.getD k default) (emp0 f (2 * m + 2)) 10
          refine ⟨by first | omega | (simp only [Int.toNat_natCast]; omega) | (simp; done) | (simp; omega), ?_⟩
          conv => whnf
          refine ⟨by first | omega | (simp only [Int.toNat_natCast]; omega) | (simp; done) | (simp; omega), ?_⟩
          conv => whnf
          refine ⟨by first | omega | (simp only [Int.toNat_natCast]; omega) | (simp; done) | (simp; omega), ?_⟩
          conv => whnf
          refine ⟨⟨by omega, by omega, by simp only [ty41]; omega⟩, ?_⟩
          conv => whnf
          refine ⟨by first | omega | (simp only [Int.toNat_natCast]; omega) | (simp; done) | (simp; omega), ?_⟩
          conv => whnf
          refine ⟨by first | omega | (simp only [Int.toNat_natCast]; omega) | (simp; done) | (simp; omega), ?_⟩
          conv => whnf
          refine ⟨by first | omega | (simp only [Int.toNat_natCast]; omega) | (simp; done) | (simp; omega), ?_⟩
          conv => whnf
          refine ⟨by first | omega | (simp only [Int.toNat_natCast]; omega) | (simp; done) | (simp; omega), ?_⟩
          conv => whnf
          refine ⟨by first | omega | (simp only [Int.toNat_natCast]; omega) | (simp; done) | (simp; omega), ?_⟩
          conv => whnf
          refine ⟨by first | omega | (simp only [Int.toNat_natCast]; omega) | (simp; done) | (simp; omega), ?_⟩
          conv => whnf
          refine ⟨⟨k + 1, hkk⟩, [(120, 9001)], by dsimp only; omega, ?_⟩
          dsimp only
          rw [hstep hkk]
          exact ⟨.refl _, .refl _, .refl _, .refl _, .refl _, .refl _, .refl _, ⟨rfl, rfl, rfl, fun k hk => by rcases (show k = 0 ∨ k = 1 by omega) with rfl | rfl <;> rfl⟩, ⟨rfl, rfl, rfl, fun k hk => by rcases (show k = 0 ∨ k = 1 by omega) with rfl | rfl <;> rfl⟩, ⟨rfl, rfl, rfl, fun k hk => by rcases (show k = 0 ∨ k = 1 by omega) with rfl | rfl <;> rfl⟩, ⟨by show AVal.le (.rsl 9001 14 0 (X.w.length + _)) (.rsl 9001 14 0 (X.w ++ _).length); rw [List.length_append]; exact .refl _, .refl _, trivial⟩, ⟨rfl, rfl, (List.length_append ..).symm, fun j hj => fcatK _ _ j⟩, ⟨rfl, rfl, rfl, fun k hk => rfl⟩, trivial⟩
        · rw [show decide ((k : Int) < (E.2.w.length : Int)) = false from decide_eq_false (by omega)]
          conv => whnf
          refine ⟨by first | omega | (simp only [Int.toNat_natCast]; omega) | (simp; done) | (simp; omega), ?_⟩
          conv => whnf
          refine ⟨by first | omega | (simp only [Int.toNat_natCast]; omega) | (simp; done) | (simp; omega), ?_⟩
          conv => whnf
          refine ⟨by first | omega | (simp only [Int.toNat_natCast]; omega) | (simp; done) | (simp; omega), ?_⟩
          conv => whnf
          refine ⟨by first | omega | (simp only [Int.toNat_natCast]; omega) | (simp; done) | (simp; omega), ?_⟩
          conv => whnf
          refine ⟨by first | omega | (simp only [Int.toNat_natCast]; omega) | (simp; done) | (simp; omega), ?_⟩
          conv => whnf
          refine ⟨by first | omega | (simp only [Int.toNat_natCast]; omega) | (simp; done) | (simp; omega), ?_⟩
          conv => whnf
          refine ⟨_, (empty_spec X.h 6 20), ?_⟩
          rintro q rfl
          conv => whnf
          have hl1 := emptyR_one X.h 6 20
          refine ⟨by first | omega | (simp only [Int.toNat_natCast]; omega) | (simp; done) | (simp; omega), ?_⟩
          conv => whnf
          refine ⟨by first | omega | (simp only [Int.toNat_natCast]; omega) | (simp; done) | (simp; omega), ?_⟩
          conv => whnf
          refine ⟨by first | omega | (simp only [Int.toNat_natCast]; omega) | (simp; done) | (simp; omega), ?_⟩
          conv => whnf
          refine ⟨⟨by omega, by omega, by simp only [ty41]; omega⟩, ?_⟩
          conv => whnf
          refine ⟨by first | omega | (simp only [Int.toNat_natCast]; omega) | (simp; done) | (simp; omega), ?_⟩
          conv => whnf
          refine ⟨by first | omega | (simp only [Int.toNat_natCast]; omega) | (simp; done) | (simp; omega), ?_⟩
          conv => whnf
          have hnext' : endSt f s b (2 * (m + 1) + 1) = _ := hnext
          refine ⟨⟨.odd (m + 1), by simp only [Rd.r]; omega⟩, [(157, 9000)], by simp only [Rd.r]; omega, ?_⟩
          dsimp only [mainS]
          rw [hnext', ← hend (by omega)]
          exact ⟨.refl _, .refl _, .refl _, .refl _, .refl _, ⟨rfl, rfl, rfl, fun k hk => by rcases (show k = 0 ∨ k = 1 by omega) with rfl | rfl <;> rfl⟩, ⟨rfl, rfl, rfl, fun k hk => by rcases (show k = 0 ∨ k = 1 by omega) with rfl | rfl <;> rfl⟩, ⟨rfl, rfl, rfl, fun k hk => by rcases (show k = 0 ∨ k = 1 by omega) with rfl | rfl <;> rfl⟩, ⟨by show AVal.le (.rsl 9000 14 0 (X.w.length + _)) (.rsl 9000 14 0 (X.w ++ _).length); rw [List.length_append]; exact .refl _, .refl _, trivial⟩, ⟨rfl, rfl, (List.length_append ..).symm, fun j hj => fcatK _ _ j⟩, trivial⟩
      · dsimp only [mainS]
        obtain ⟨w1, w2, t1, t2⟩ := end_small f s b (2 * m + 1) (by have := hx; simp only [Rd.r] at this; omega)
        have hnil : (endSt f s b (2 * m + 1)).2.w = [] := by
          rw [endSt_even f s b (2 * m) (by omega)]
          rfl
        have hnext := endSt_odd f s b (2 * m + 1) (by omega)
        generalize endSt f s b (2 * m + 1) = E at *
        conv => whnf
        by_cases hr : (2 * m + 1) < 12
        rotate_left
        · rw [show decide ((((2 * m + 1) : Nat) : Int) < 12) = false from decide_eq_false (by omega)]
          exact absurd hr (by have := hx; simp only [Rd.r] at this; omega)
        rw [show decide ((((2 * m + 1) : Nat) : Int) < 12) = true from decide_eq_true (by omega)]
        conv => whnf
        refine ⟨by first | omega | decide +kernel, ?_⟩
        conv => whnf
        rw [show (((2 * m + 1) : Nat) : Int).tmod 2 = 1 from by rw [Int.tmod_eq_emod_of_nonneg (by omega)]; omega]
        conv => whnf
        refine ALoop.adoptCell 34 1 9001 14 41 (fun _ => []) rfl rfl rfl rfl rfl ?_
        refine ALoop.introR (tysXOk false [] [] [2000000000 + 31]) followsB (fun k : {k : Nat // k ≤ E.1.w.length} => inner1 ((2 * m + 1) : Nat) (emp0 f (2 * m + 1)) (emp1 s (2 * m + 1)) E.1 ((E.1.w.take k.1).foldl (eat1 (emp1 s (2 * m + 1))) E.2) k.1) (fun k => E.1.w.length - k.1) ⟨0, by omega⟩ ?_ ?_
        · exact ⟨.refl _, .refl _, .refl _, .refl _, .refl _, .refl _, .refl _, ⟨rfl, rfl, rfl, fun k hk => by rcases (show k = 0 ∨ k = 1 by omega) with rfl | rfl <;> rfl⟩, ⟨rfl, rfl, rfl, fun k hk => by rcases (show k = 0 ∨ k = 1 by omega) with rfl | rfl <;> rfl⟩, ⟨rfl, rfl, rfl, fun k hk => by rcases (show k = 0 ∨ k = 1 by omega) with rfl | rfl <;> rfl⟩, ⟨.refl _, by show AVal.le (.rsl 9001 14 0 0) (.rsl 9001 14 0 E.2.w.length); rw [hnil]; exact .refl _, trivial⟩, ⟨rfl, rfl, by show 0 = E.2.w.length; rw [hnil]; rfl, fun k hk => absurd hk (Nat.not_lt_zero _)⟩, ⟨rfl, rfl, rfl, fun k hk => rfl⟩, trivial⟩
        rintro ⟨k, hk⟩
        dsimp only
        obtain ⟨hfl, hft⟩ := fold_len (emp1 s (2 * m + 1)) (E.1.w.take k) E.2 t2
        rw [List.length_take, Nat.min_eq_left hk] at hfl
        have hstep := fun h => fold_take (emp1 s (2 * m + 1)) E.1.w E.2 k h
        have hend : k = E.1.w.length → (E.1.w.take k).foldl (eat1 (emp1 s (2 * m + 1))) E.2 = E.1.w.foldl (eat1 (emp1 s (2 * m + 1))) E.2 := fun e => by rw [e, List.take_length]
        generalize hX : (E.1.w.take k).foldl (eat1 (emp1 s (2 * m + 1))) E.2 = X at *
        dsimp only [inner1]
        conv => whnf
        refine ⟨by first | omega | (simp only [Int.toNat_natCast]; omega) | (simp; done) | (simp; omega), ?_⟩
        conv => whnf
        refine ⟨by first | omega | (simp only [Int.toNat_natCast]; omega) | (simp; done) | (simp; omega), ?_⟩
        conv => whnf
        by_cases hkk : k < E.1.w.length
        · rw [show decide ((k : Int) < (E.1.w.length : Int)) = true from decide_eq_true (by omega)]
          conv => whnf
          refine ⟨by first | omega | (simp only [Int.toNat_natCast]; omega) | (simp; done) | (simp; omega), ?_⟩
          conv => whnf
          refine ⟨by first | omega | (simp only [Int.toNat_natCast]; omega) | (simp; done) | (simp; omega), ?_⟩
          conv => whnf
          refine ⟨by first | omega | (simp only [Int.toNat_natCast]; omega) | (simp; done) | (simp; omega), ?_⟩
          conv => whnf
          refine ⟨by first | omega | (simp only [Int.toNat_natCast]; omega) | (simp; done) | (simp; omega), ?_⟩
          conv => whnf
          rw [show 0 + ((k : Nat) : Int).toNat = k from by omega]
          refine ⟨by first | omega | (simp only [Int.toNat_natCast]; omega) | (simp; done) | (simp; omega), ?_⟩
          conv => whnf
          refine ⟨by first | omega | (simp only [Int.toNat_natCast]; omega) | (simp; done) | (simp; omega), ?_⟩
          conv => whnf
          refine ⟨by first | omega | (simp only [Int.toNat_natCast]; omega) | (simp; done) | (simp; omega), ?_⟩
          conv => whnf
          refine ⟨by first | omega | (simp only [Int.toNat_natCast]; omega) | (simp; done) | (simp; omega), ?_⟩
          conv => whnf
          refine ⟨_, (takeK_spec X.h (E.1.w.getD k default) _ 10 hft), ?_⟩
          conv => whnf
          refine ⟨by kernel_rfl, ?_⟩
          conv => whnf
          have hl1 := takeR_len X.h (E.1.w.getD k default) (emp1 s (2 * m + 1)) 10
          refine ⟨by first | omega | (simp only [Int.toNat_natCast]; omega) | (simp; done) | (simp; omega), ?_⟩
          conv => whnf
          refine ⟨by first | omega | (simp only [Int.toNat_natCast]; omega) | (simp; done) | (simp; omega), ?_⟩
          conv => whnf
          refine ⟨by first | omega | (simp only [Int.toNat_natCast]; omega) | (simp; done) | (simp; omega), ?_⟩
          conv => whnf
          refine ⟨⟨by omega, by omega, by simp only [ty41]; omega⟩, ?_⟩
          conv => whnf
          refine ⟨by first | omega | (simp only [Int.toNat_natCast]; omega) | (simp; done) | (simp; omega), ?_⟩
          conv => whnf
          refine ⟨by first | omega | (simp only [Int.toNat_natCast]; omega) | (simp; done) | (simp; omega), ?_⟩
          conv => whnf
          refine ⟨by first | omega | (simp only [Int.toNat_natCast]; omega) | (simp; done) | (simp; omega), ?_⟩
          conv => whnf
          refine ⟨by first | omega | (simp only [Int.toNat_natCast]; omega) | (simp; done) | (simp; omega), ?_⟩
          conv => whnf
          refine ⟨by first | omega | (simp only [Int.toNat_natCast]; omega) | (simp; done) | (simp; omega), ?_⟩
          conv => whnf
          refine ⟨by first | omega | (simp only [Int.toNat_natCast]; omega) | (simp; done) | (simp; omega), ?_⟩
          conv => whnf
          refine ⟨⟨k + 1, hkk⟩, [(120, 9001)], by dsimp only; omega, ?_⟩
          dsimp only
          rw [hstep hkk]
          exact ⟨.refl _, .refl _, .refl _, .refl _, .refl _, .refl _, .refl _, ⟨rfl, rfl, rfl, fun k hk => by rcases (show k = 0 ∨ k = 1 by omega) with rfl | rfl <;> rfl⟩, ⟨rfl, rfl, rfl, fun k hk => by rcases (show k = 0 ∨ k = 1 by omega) with rfl | rfl <;> rfl⟩, ⟨rfl, rfl, rfl, fun k hk => by rcases (show k = 0 ∨ k = 1 by omega) with rfl | rfl <;> rfl⟩, ⟨.refl _, by show AVal.le (.rsl 9001 14 0 (X.w.length + _)) (.rsl 9001 14 0 (X.w ++ _).length); rw [List.length_append]; exact .refl _, trivial⟩, ⟨rfl, rfl, (List.length_append ..).symm, fun j hj => fcatK _ _ j⟩, ⟨rfl, rfl, rfl, fun k hk => rfl⟩, trivial⟩
        · rw [show decide ((k : Int) < (E.1.w.length : Int)) = false from decide_eq_false (by omega)]
          conv => whnf
          refine ⟨by first | omega | (simp only [Int.toNat_natCast]; omega) | (simp; done) | (simp; omega), ?_⟩
          conv => whnf
          refine ⟨by first | omega | (simp only [Int.toNat_natCast]; omega) | (simp; done) | (simp; omega), ?_⟩
          conv => whnf
          refine ⟨by first | omega | (simp only [Int.toNat_natCast]; omega) | (simp; done) | (simp; omega), ?_⟩
          conv => whnf
          refine ⟨by first | omega | (simp only [Int.toNat_natCast]; omega) | (simp; done) | (simp; omega), ?_⟩
          conv => whnf
          refine ⟨by first | omega | (simp only [Int.toNat_natCast]; omega) | (simp; done) | (simp; omega), ?_⟩
          conv => whnf
          refine ⟨by first | omega | (simp only [Int.toNat_natCast]; omega) | (simp; done) | (simp; omega), ?_⟩
          conv => whnf
          refine ⟨_, (empty_spec X.h 6 20), ?_⟩
          rintro q rfl
          conv => whnf
          have hl1 := emptyR_one X.h 6 20
          refine ⟨by first | omega | (simp only [Int.toNat_natCast]; omega) | (simp; done) | (simp; omega), ?_⟩
          conv => whnf
          refine ⟨by first | omega | (simp only [Int.toNat_natCast]; omega) | (simp; done) | (simp; omega), ?_⟩
          conv => whnf
          refine ⟨by first | omega | (simp only [Int.toNat_natCast]; omega) | (simp; done) | (simp; omega), ?_⟩
          conv => whnf
          refine ⟨⟨by omega, by omega, by simp only [ty41]; omega⟩, ?_⟩
          conv => whnf
          refine ⟨by first | omega | (simp only [Int.toNat_natCast]; omega) | (simp; done) | (simp; omega), ?_⟩
          conv => whnf
          refine ⟨by first | omega | (simp only [Int.toNat_natCast]; omega) | (simp; done) | (simp; omega), ?_⟩
          conv => whnf
          have hnext' : endSt f s b (2 * m + 2) = _ := hnext
          refine ⟨⟨.even m, by simp only [Rd.r]; omega⟩, [(157, 9000)], by simp only [Rd.r]; omega, ?_⟩
          dsimp only [mainS]
          rw [hnext', ← hend (by omega)]
          exact ⟨.refl _, .refl _, .refl _, .refl _, .refl _, ⟨rfl, rfl, rfl, fun k hk => by rcases (show k = 0 ∨ k = 1 by omega) with rfl | rfl <;> rfl⟩, ⟨rfl, rfl, rfl, fun k hk => by rcases (show k = 0 ∨ k = 1 by omega) with rfl | rfl <;> rfl⟩, ⟨rfl, rfl, rfl, fun k hk => by rcases (show k = 0 ∨ k = 1 by omega) with rfl | rfl <;> rfl⟩, ⟨.refl _, by show AVal.le (.rsl 9000 14 0 (X.w.length + _)) (.rsl 9000 14 0 (X.w ++ _).length); rw [List.length_append]; exact .refl _, trivial⟩, ⟨rfl, rfl, (List.length_append ..).symm, fun j hj => fcatK _ _ j⟩, trivial⟩
    · refine ALoop.introR (tysXOk false [] [] [2000000000 + 31]) followsB (fun x : {x : Rd // x.r ≤ 12} => mainS f s b x.1) (fun x => 12 - x.1.r) ⟨.first, by decide⟩ ?_ ?_
      · subst hb
        exact ⟨.refl _, .refl _, .refl _, .refl _, .refl _, ⟨rfl, rfl, rfl, fun k hk => by rcases (show k = 0 ∨ k = 1 by omega) with rfl | rfl <;> rfl⟩, ⟨rfl, rfl, rfl, fun k hk => by rcases (show k = 0 ∨ k = 1 by omega) with rfl | rfl <;> rfl⟩, ⟨rfl, rfl, rfl, fun k hk => by rcases (show k = 0 ∨ k = 1 by omega) with rfl | rfl <;> rfl⟩, ⟨.refl _, .refl _, trivial⟩, ⟨rfl, rfl, rfl, fun k hk => rfl⟩, ⟨rfl, rfl, rfl, fun k hk => by first | rfl | exact absurd hk (Nat.not_lt_zero _)⟩, trivial⟩
      clear hb
      rintro ⟨x, hx⟩
      rcases x with _ | m | m
      · dsimp only [mainS]
        obtain ⟨w1, w2, t1, t2⟩ := end_small f s b 0 (by have := hx; simp only [Rd.r] at this; omega)
        have hnext := endSt_even f s b 0 (by omega)
        generalize endSt f s b 0 = E at *
        conv => whnf
        refine ⟨by first | omega | decide +kernel, ?_⟩
        conv => whnf
        refine ALoop.introR (tysXOk false [] [] [2000000000 + 31]) followsB (fun k : {k : Nat // k ≤ E.2.w.length} => inner0 0 (emp0 f 0) (emp1 s 0) ((E.2.w.take k.1).foldl (eat1 (emp0 f 0)) E.1) E.2 k.1) (fun k => E.2.w.length - k.1) ⟨0, by omega⟩ ?_ ?_
        · exact ⟨.refl _, .refl _, .refl _, .refl _, .refl _, .refl _, .refl _, ⟨rfl, rfl, rfl, fun k hk => by rcases (show k = 0 ∨ k = 1 by omega) with rfl | rfl <;> rfl⟩, ⟨rfl, rfl, rfl, fun k hk => by rcases (show k = 0 ∨ k = 1 by omega) with rfl | rfl <;> rfl⟩, ⟨rfl, rfl, rfl, fun k hk => by rcases (show k = 0 ∨ k = 1 by omega) with rfl | rfl <;> rfl⟩, ⟨.refl _, .refl _, trivial⟩, ⟨rfl, rfl, rfl, fun k hk => rfl⟩, ⟨rfl, rfl, rfl, fun k hk => rfl⟩, trivial⟩
        rintro ⟨k, hk⟩
        dsimp only
        obtain ⟨hfl, hft⟩ := fold_len (emp0 f 0) (E.2.w.take k) E.1 t1
        rw [List.length_take, Nat.min_eq_left hk] at hfl
        have hstep := fun h => fold_take (emp0 f 0) E.2.w E.1 k h
        have hend : k = E.2.w.length → (E.2.w.take k).foldl (eat1 (emp0 f 0)) E.1 = E.2.w.foldl (eat1 (emp0 f 0)) E.1 := fun e => by rw [e, List.take_length]
        generalize hX : (E.2.w.take k).foldl (eat1 (emp0 f 0)) E.1 = X at *
        dsimp only [inner0]
        conv => whnf
        refine ⟨by first | omega | (simp only [Int.toNat_natCast]; omega) | (simp; done) | (simp; omega), ?_⟩
        conv => whnf
        refine ⟨by first | omega | (simp only [Int.toNat_natCast]; omega) | (simp; done) | (simp; omega), ?_⟩
        conv => whnf
        by_cases hkk : k < E.2.w.length
        · rw [show decide ((k : Int) < (E.2.w.length : Int)) = true from decide_eq_true (by omega)]
          conv => whnf
          refine ⟨by first | omega | (simp only [Int.toNat_natCast]; omega) | (simp; done) | (simp; omega), ?_⟩
          conv => whnf
          refine ⟨by first | omega | (simp only [Int.toNat_natCast]; omega) | (simp; done) | (simp; omega), ?_⟩
          conv => whnf
          refine ⟨by first | omega | (simp only [Int.toNat_natCast]; omega) | (simp; done) | (simp; omega), ?_⟩
          conv => whnf
          refine ⟨by first | omega | (simp only [Int.toNat_natCast]; omega) | (simp; done) | (simp; omega), ?_⟩
          conv => whnf
          rw [show 0 + ((k : Nat) : Int).toNat = k from by omega]
          refine ⟨by first | omega | (simp only [Int.toNat_natCast]; omega) | (simp; done) | (simp; omega), ?_⟩
          conv => whnf
          refine ⟨by first | omega | (simp only [Int.toNat_natCast]; omega) | (simp; done) | (simp; omega), ?_⟩
          conv => whnf
          refine ⟨by first | omega | (simp only [Int.toNat_natCast]; omega) | (simp; done) | (simp; omega), ?_⟩
          conv => whnf
          refine ⟨by first | omega | (simp only [Int.toNat_natCast]; omega) | (simp; done) | (simp; omega), ?_⟩
          conv => whnf
          refine ⟨_, (takeK_spec X.h (E.2.w.getD k default) _ 10 hft), ?_⟩
          conv => whnf
          refine ⟨by kernel_rfl, ?_⟩
          conv => whnf
          have hl1 := takeR_len X.h (E.2.w.getD k default) (emp0 f 0) 10
          refine ⟨by first | omega | (simp only [Int.toNat_natCast]; omega) | (simp; done) | (simp; omega), ?_⟩
          conv => whnf
          refine ⟨by first | omega | (simp only [Int.toNat_natCast]; omega) | (simp; done) | (simp; omega), ?_⟩
          conv => whnf
          refine ⟨by first | omega | (simp only [Int.toNat_natCast]; omega) | (simp; done) | (simp; omega), ?_⟩
          conv => whnf
          refine ⟨⟨by omega, by omega, by simp only [ty41]; omega⟩, ?_⟩
          conv => whnf
          refine ⟨by first | omega | (simp only [Int.toNat_natCast]; omega) | (simp; done) | (simp; omega), ?_⟩
          conv => whnf
          refine ⟨by first | omega | (simp only [Int.toNat_natCast]; omega) | (simp; done) | (simp; omega), ?_⟩
          conv => whnf
          refine ⟨by first | omega | (simp only [Int.toNat_natCast]; omega) | (simp; done) | (simp; omega), ?_⟩
          conv => whnf
          refine ⟨by first | omega | (simp only [Int.toNat_natCast]; omega) | (simp; done) | (simp; omega), ?_⟩
          conv => whnf
          refine ⟨by first | omega | (simp only [Int.toNat_natCast]; omega) | (simp; done) | (simp; omega), ?_⟩
          conv => whnf
          refine ⟨by first | omega | (simp only [Int.toNat_natCast]; omega) | (simp; done) | (simp; omega), ?_⟩
          conv => whnf
          refine ⟨⟨k + 1, hkk⟩, [(120, 9001)], by dsimp only; omega, ?_⟩
          dsimp only
          rw [hstep hkk]
          exact ⟨.refl _, .refl _, .refl _, .refl _, .refl _, .refl _, .refl _, ⟨rfl, rfl, rfl, fun k hk => by rcases (show k = 0 ∨ k = 1 by omega) with rfl | rfl <;> rfl⟩, ⟨rfl, rfl, rfl, fun k hk => by rcases (show k = 0 ∨ k = 1 by omega) with rfl | rfl <;> rfl⟩, ⟨rfl, rfl, rfl, fun k hk => by rcases (show k = 0 ∨ k = 1 by omega) with rfl | rfl <;> rfl⟩, ⟨by show AVal.le (.rsl 9001 14 0 (X.w.length + _)) (.rsl 9001 14 0 (X.w ++ _).length); rw [List.length_append]; exact .refl _, .refl _, trivial⟩, ⟨rfl, rfl, (List.length_append ..).symm, fun j hj => fcatK _ _ j⟩, ⟨rfl, rfl, rfl, fun k hk => rfl⟩, trivial⟩
        · rw [show decide ((k : Int) < (E.2.w.length : Int)) = false from decide_eq_false (by omega)]
          conv => whnf
          refine ⟨by first | omega | (simp only [Int.toNat_natCast]; omega) | (simp; done) | (simp; omega), ?_⟩
          conv => whnf
          refine ⟨by first | omega | (simp only [Int.toNat_natCast]; omega) | (simp; done) | (simp; omega), ?_⟩
          conv => whnf
          refine ⟨by first | omega | (simp only [Int.toNat_natCast]; omega) | (simp; done) | (simp; omega), ?_⟩
          conv => whnf
          refine ⟨by first | omega | (simp only [Int.toNat_natCast]; omega) | (simp; done) | (simp; omega), ?_⟩
          conv => whnf
          refine ⟨by first | omega | (simp only [Int.toNat_natCast]; omega) | (simp; done) | (simp; omega), ?_⟩
          conv => whnf
          refine ⟨by first | omega | (simp only [Int.toNat_natCast]; omega) | (simp; done) | (simp; omega), ?_⟩
          conv => whnf
          refine ⟨_, (empty_spec X.h 6 20), ?_⟩
          rintro q rfl
          conv => whnf
          have hl1 := emptyR_one X.h 6 20
          refine ⟨by first | omega | (simp only [Int.toNat_natCast]; omega) | (simp; done) | (simp; omega), ?_⟩
          conv => whnf
          refine ⟨by first | omega | (simp only [Int.toNat_natCast]; omega) | (simp; done) | (simp; omega), ?_⟩
          conv => whnf
          refine ⟨by first | omega | (simp only [Int.toNat_natCast]; omega) | (simp; done) | (simp; omega), ?_⟩
          conv => whnf
          refine ⟨⟨by omega, by omega, by simp only [ty41]; omega⟩, ?_⟩
          conv => whnf
          refine ⟨by first | omega | (simp only [Int.toNat_natCast]; omega) | (simp; done) | (simp; omega), ?_⟩
          conv => whnf
          refine ⟨by first | omega | (simp only [Int.toNat_natCast]; omega) | (simp; done) | (simp; omega), ?_⟩
          conv => whnf
          have hnext' : endSt f s b (2 * 0 + 1) = _ := hnext
          refine ⟨⟨.odd 0, by simp only [Rd.r]; omega⟩, [(157, 9000)], by simp only [Rd.r]; omega, ?_⟩
          dsimp only [mainS]
          rw [hnext', ← hend (by omega)]
          exact ⟨.refl _, .refl _, .refl _, .refl _, .refl _, ⟨rfl, rfl, rfl, fun k hk => by rcases (show k = 0 ∨ k = 1 by omega) with rfl | rfl <;> rfl⟩, ⟨rfl, rfl, rfl, fun k hk => by rcases (show k = 0 ∨ k = 1 by omega) with rfl | rfl <;> rfl⟩, ⟨rfl, rfl, rfl, fun k hk => by rcases (show k = 0 ∨ k = 1 by omega) with rfl | rfl <;> rfl⟩, ⟨by show AVal.le (.rsl 9000 14 0 (X.w.length + _)) (.rsl 9000 14 0 (X.w ++ _).length); rw [List.length_append]; exact .refl _, .refl _, trivial⟩, ⟨rfl, rfl, (List.length_append ..).symm, fun j hj => fcatK _ _ j⟩, trivial⟩
      · dsimp only [mainS]
        obtain ⟨w1, w2, t1, t2⟩ := end_small f s b (2 * m + 2) (by have := hx; simp only [Rd.r] at this; omega)
        have hnil : (endSt f s b (2 * m + 2)).1.w = [] := by
          rw [show 2 * m + 2 = (2 * m + 1) + 1 from rfl, endSt_odd f s b (2 * m + 1) (by omega)]
          rfl
        have hnext := endSt_even f s b (2 * m + 2) (by omega)
        have hfin : m = 5 → (endSt f s b (2 * m + 2)).1.h.st = 0 ∧ (endSt f s b (2 * m + 2)).2.h.st = 0 ∧ (endSt f s b (2 * m + 2)).1.n = 2 ∧ (endSt f s b (2 * m + 2)).2.n = 2 := fun e => by rw [e]; exact end_all f s b
        generalize endSt f s b (2 * m + 2) = E at *
        conv => whnf
        by_cases hr : (2 * m + 2) < 12
        rotate_left
        · rw [show decide ((((2 * m + 2) : Nat) : Int) < 12) = false from decide_eq_false (by omega)]
          have hm : m = 5 := by have := hx; simp only [Rd.r] at this; omega
          obtain ⟨z1, z2, z3, z4⟩ := hfin hm
          conv => whnf
          refine ⟨by first | omega | decide +kernel, ?_⟩
          conv => whnf
          refine ⟨by first | omega | decide +kernel, ?_⟩
          conv => whnf
          rw [show (E.1.h.st == 0) = true from by rw [z1]; rfl]
          conv => whnf
          refine ⟨by first | omega | decide +kernel, ?_⟩
          conv => whnf
          refine ⟨by first | omega | decide +kernel, ?_⟩
          conv => whnf
          rw [show (E.2.h.st == 0) = true from by rw [z2]; rfl]
          conv => whnf
          refine ⟨by first | omega | decide +kernel, ?_⟩
          conv => whnf
          refine ⟨by first | omega | decide +kernel, ?_⟩
          conv => whnf
          rw [show (E.1.n == 2) = true from by rw [z3]; rfl]
          conv => whnf
          refine ⟨by first | omega | decide +kernel, ?_⟩
          conv => whnf
          refine ⟨by first | omega | decide +kernel, ?_⟩
          conv => whnf
          rw [show (E.2.n == 2) = true from by rw [z4]; rfl]
          conv => whnf
          exact ⟨_, .refl _, rfl, rfl⟩
        rw [show decide ((((2 * m + 2) : Nat) : Int) < 12) = true from decide_eq_true (by omega)]
        conv => whnf
        refine ⟨by first | omega | decide +kernel, ?_⟩
        conv => whnf
        rw [show (((2 * m + 2) : Nat) : Int).tmod 2 = 0 from by rw [Int.tmod_eq_emod_of_nonneg (by omega)]; omega]
        conv => whnf
        refine ALoop.adoptCell 34 0 9001 14 41 (fun _ => []) rfl rfl rfl rfl rfl ?_
        refine ALoop.introR (tysXOk false [] [] [2000000000 + 31]) followsB (fun k : {k : Nat // k ≤ E.2.w.length} => inner0 ((2 * m + 2) : Nat) (emp0 f (2 * m + 2)) (emp1 s (2 * m + 2)) ((E.2.w.take k.1).foldl (eat1 (emp0 f (2 * m + 2))) E.1) E.2 k.1) (fun k => E.2.w.length - k.1) ⟨0, by omega⟩ ?_ ?_
        · exact ⟨.refl _, .refl _, .refl _, .refl _, .refl _, .refl _, .refl _, ⟨rfl, rfl, rfl, fun k hk => by rcases (show k = 0 ∨ k = 1 by omega) with rfl | rfl <;> rfl⟩, ⟨rfl, rfl, rfl, fun k hk => by rcases (show k = 0 ∨ k = 1 by omega) with rfl | rfl <;> rfl⟩, ⟨rfl, rfl, rfl, fun k hk => by rcases (show k = 0 ∨ k = 1 by omega) with rfl | rfl <;> rfl⟩, ⟨by show AVal.le (.rsl 9001 14 0 0) (.rsl 9001 14 0 E.1.w.length); rw [hnil]; exact .refl _, .refl _, trivial⟩, ⟨rfl, rfl, by show 0 = E.1.w.length; rw [hnil]; rfl, fun k hk => absurd hk (Nat.not_lt_zero _)⟩, ⟨rfl, rfl, rfl, fun k hk => rfl⟩, trivial⟩
        rintro ⟨k, hk⟩
        dsimp only
        obtain ⟨hfl, hft⟩ := fold_len (emp0 f (2 * m + 2)) (E.2.w.take k) E.1 t1
        rw [List.length_take, Nat.min_eq_left hk] at hfl
        have hstep := fun h => fold_take (emp0 f (2 * m + 2)) E.2.w E.1 k h
        have hend : k = E.2.w.length → (E.2.w.take k).foldl (eat1 (emp0 f (2 * m + 2))) E.1 = E.2.w.foldl (eat1 (emp0 f (2 * m + 2))) E.1 := fun e => by rw [e, List.take_length]
        generalize hX : (E.2.w.take k).foldl (eat1 (emp0 f (2 * m + 2))) E.1 = X at *
        dsimp only [inner0]
        conv => whnf
        refine ⟨by first | omega | (simp only [Int.toNat_natCast]; omega) | (simp; done) | (simp; omega), ?_⟩
        conv => whnf
        refine ⟨by first | omega | (simp only [Int.toNat_natCast]; omega) | (simp; done) | (simp; omega), ?_⟩
        conv => whnf
        by_cases hkk : k < E.2.w.length
        · rw [show decide ((k : Int) < (E.2.w.length : Int)) = true from decide_eq_true (by omega)]
          conv => whnf
          refine ⟨by first | omega | (simp only [Int.toNat_natCast]; omega) | (simp; done) | (simp; omega), ?_⟩
          conv => whnf
          refine ⟨by first | omega | (simp only [Int.toNat_natCast]; omega) | (simp; done) | (simp; omega), ?_⟩
          conv => whnf
          refine ⟨by first | omega | (simp only [Int.toNat_natCast]; omega) | (simp; done) | (simp; omega), ?_⟩
          conv => whnf
          refine ⟨by first | omega | (simp only [Int.toNat_natCast]; omega) | (simp; done) | (simp; omega), ?_⟩
          conv => whnf
          rw [show 0 + ((k : Nat) : Int).toNat = k from by omega]
          refine ⟨by first | omega | (simp only [Int.toNat_natCast]; omega) | (simp; done) | (simp; omega), ?_⟩
          conv => whnf
          refine ⟨by first | omega | (simp only [Int.toNat_natCast]; omega) | (simp; done) | (simp; omega), ?_⟩
          conv => whnf
          refine ⟨by first | omega | (simp only [Int.toNat_natCast]; omega) | (simp; done) | (simp; omega), ?_⟩
          conv => whnf
          refine ⟨by first | omega | (simp only [Int.toNat_natCast]; omega) | (simp; done) | (simp; omega), ?_⟩
          conv => whnf
          refine ⟨_, (takeK_spec X.h (E.2.w.getD k default) _ 10 hft), ?_⟩
          conv => whnf
          refine ⟨by kernel_rfl, ?_⟩
          conv => whnf
          have hl1 := takeR_len X.h (E.2.w.getD k default) (emp0 f (2 * m + 2)) 10
          refine ⟨by first | omega | (simp only [Int.toNat_natCast]; omega) | (simp; done) | (simp; omega), ?_⟩
          conv => whnf
          refine ⟨by first | omega | (simp only [Int.toNat_natCast]; omega) | (simp; done) | (simp; omega), ?_⟩
          conv => whnf
          refine ⟨by first | omega | (simp only [Int.toNat_natCast]; omega) | (simp; done) | (simp; omega), ?_⟩
          conv => whnf
          refine ⟨⟨by omega, by omega, by simp only [ty41]; omega⟩, ?_⟩
          conv => whnf
          refine ⟨by first | omega | (simp only [Int.toNat_natCast]; omega) | (simp; done) | (simp; omega), ?_⟩
          conv => whnf
          refine ⟨by first | omega | (simp only [Int.toNat_natCast]; omega) | (simp; done) | (simp; omega), ?_⟩
          conv => whnf
          refine ⟨by first | omega | (simp only [Int.toNat_natCast]; omega) | (simp; done) | (simp; omega), ?_⟩
          conv => whnf
          refine ⟨by first | omega | (simp only [Int.toNat_natCast]; omega) | (simp; done) | (simp; omega), ?_⟩
          conv => whnf
          refine ⟨by first | omega | (simp only [Int.toNat_natCast]; omega) | (simp; done) | (simp; omega), ?_⟩
          conv => whnf
          refine ⟨by first | omega | (simp only [Int.toNat_natCast]; omega) | (simp; done) | (simp; omega), ?_⟩
          conv => whnf
          refine ⟨⟨k + 1, hkk⟩, [(120, 9001)], by dsimp only; omega, ?_⟩
          dsimp only
          rw [hstep hkk]
          exact ⟨.refl _, .refl _, .refl _, .refl _, .refl _, .refl _, .refl _, ⟨rfl, rfl, rfl, fun k hk => by rcases (show k = 0 ∨ k = 1 by omega) with rfl | rfl <;> rfl⟩, ⟨rfl, rfl, rfl, fun k hk => by rcases (show k = 0 ∨ k = 1 by omega) with rfl | rfl <;> rfl⟩, ⟨rfl, rfl, rfl, fun k hk => by rcases (show k = 0 ∨ k = 1 by omega) with rfl | rfl <;> rfl⟩, ⟨by show AVal.le (.rsl 9001 14 0 (X.w.length + _)) (.rsl 9001 14 0 (X.w ++ _).length); rw [List.length_append]; exact .refl _, .refl _, trivial⟩, ⟨rfl, rfl, (List.length_append ..).symm, fun j hj => fcatK _ _ j⟩, ⟨rfl, rfl, rfl, fun k hk => rfl⟩, trivial⟩
        · rw [show decide ((k : Int) < (E.2.w.length : Int)) = false from decide_eq_false (by omega)]
          conv => whnf
          refine ⟨by first | omega | (simp only [Int.toNat_natCast]; omega) | (simp; done) | (simp; omega), ?_⟩
          conv => whnf
          refine ⟨by first | omega | (simp only [Int.toNat_natCast]; omega) | (simp; done) | (simp; omega), ?_⟩
          conv => whnf
          refine ⟨by first | omega | (simp only [Int.toNat_natCast]; omega) | (simp; done) | (simp; omega), ?_⟩
          conv => whnf
          refine ⟨by first | omega | (simp only [Int.toNat_natCast]; omega) | (simp; done) | (simp; omega), ?_⟩
          conv => whnf
          refine ⟨by first | omega | (simp only [Int.toNat_natCast]; omega) | (simp; done) | (simp; omega), ?_⟩
          conv => whnf
          refine ⟨by first | omega | (simp only [Int.toNat_natCast]; omega) | (simp; done) | (simp; omega), ?_⟩
          conv => whnf
          refine ⟨_, (empty_spec X.h 6 20), ?_⟩
          rintro q rfl
          conv => whnf
          have hl1 := emptyR_one X.h 6 20
          refine ⟨by first | omega | (simp only [Int.toNat_natCast]; omega) | (simp; done) | (simp; omega), ?_⟩
          conv => whnf
          refine ⟨by first | omega | (simp only [Int.toNat_natCast]; omega) | (simp; done) | (simp; omega), ?_⟩
          conv => whnf
          refine ⟨by first | omega | (simp only [Int.toNat_natCast]; omega) | (simp; done) | (simp; omega), ?_⟩
          conv => whnf
          refine ⟨⟨by omega, by omega, by simp only [ty41]; omega⟩, ?_⟩
          conv => whnf
          refine ⟨by first | omega | (simp only [Int.toNat_natCast]; omega) | (simp; done) | (simp; omega), ?_⟩
          conv => whnf
          refine ⟨by first | omega | (simp only [Int.toNat_natCast]; omega) | (simp; done) | (simp; omega), ?_⟩
          conv => whnf
          have hnext' : endSt f s b (2 * (m + 1) + 1) = _ := hnext
          refine ⟨⟨.odd (m + 1), by simp only [Rd.r]; omega⟩, [(157, 9000)], by simp only [Rd.r]; omega, ?_⟩
          dsimp only [mainS]
          rw [hnext', ← hend (by omega)]
          exact ⟨.refl _, .refl _, .refl _, .refl _, .refl _, ⟨rfl, rfl, rfl, fun k hk => by rcases (show k = 0 ∨ k = 1 by omega) with rfl | rfl <;> rfl⟩, ⟨rfl, rfl, rfl, fun k hk => by rcases (show k = 0 ∨ k = 1 by omega) with rfl | rfl <;> rfl⟩, ⟨rfl, rfl, rfl, fun k hk => by rcases (show k = 0 ∨ k = 1 by omega) with rfl | rfl <;> rfl⟩, ⟨by show AVal.le (.rsl 9000 14 0 (X.w.length + _)) (.rsl 9000 14 0 (X.w ++ _).length); rw [List.length_append]; exact .refl _, .refl _, trivial⟩, ⟨rfl, rfl, (List.length_append ..).symm, fun j hj => fcatK _ _ j⟩, trivial⟩
      · dsimp only [mainS]
        obtain ⟨w1, w2, t1, t2⟩ := end_small f s b (2 * m + 1) (by have := hx; simp only [Rd.r] at this; omega)
        have hnil : (endSt f s b (2 * m + 1)).2.w = [] := by
          rw [endSt_even f s b (2 * m) (by omega)]
          rfl
        have hnext := endSt_odd f s b (2 * m + 1) (by omega)
        generalize endSt f s b (2 * m + 1) = E at *
        conv => whnf
        by_cases hr : (2 * m + 1) < 12
        rotate_left
        · rw [show decide ((((2 * m + 1) : Nat) : Int) < 12) = false from decide_eq_false (by omega)]
          exact absurd hr (by have := hx; simp only [Rd.r] at this; omega)
        rw [show decide ((((2 * m + 1) : Nat) : Int) < 12) = true from decide_eq_true (by omega)]
        conv => whnf
        refine ⟨by first | omega | decide +kernel, ?_⟩
        conv => whnf
        rw [show (((2 * m + 1) : Nat) : Int).tmod 2 = 1 from by rw [Int.tmod_eq_emod_of_nonneg (by omega)]; omega]
        conv => whnf
        refine ALoop.adoptCell 34 1 9001 14 41 (fun _ => []) rfl rfl rfl rfl rfl ?_
        refine ALoop.introR (tysXOk false [] [] [2000000000 + 31]) followsB (fun k : {k : Nat // k ≤ E.1.w.length} => inner1 ((2 * m + 1) : Nat) (emp0 f (2 * m + 1)) (emp1 s (2 * m + 1)) E.1 ((E.1.w.take k.1).foldl (eat1 (emp1 s (2 * m + 1))) E.2) k.1) (fun k => E.1.w.length - k.1) ⟨0, by omega⟩ ?_ ?_
        · exact ⟨.refl _, .refl _, .refl _, .refl _, .refl _, .refl _, .refl _, ⟨rfl, rfl, rfl, fun k hk => by rcases (show k = 0 ∨ k = 1 by omega) with rfl | rfl <;> rfl⟩, ⟨rfl, rfl, rfl, fun k hk => by rcases (show k = 0 ∨ k = 1 by omega) with rfl | rfl <;> rfl⟩, ⟨rfl, rfl, rfl, fun k hk => by rcases (show k = 0 ∨ k = 1 by omega) with rfl | rfl <;> rfl⟩, ⟨.refl _, by show AVal.le (.rsl 9001 14 0 0) (.rsl 9001 14 0 E.2.w.length); rw [hnil]; exact .refl _, trivial⟩, ⟨rfl, rfl, by show 0 = E.2.w.length; rw [hnil]; rfl, fun k hk => absurd hk (Nat.not_lt_zero _)⟩, ⟨rfl, rfl, rfl, fun k hk => rfl⟩, trivial⟩
        rintro ⟨k, hk⟩
        dsimp only
        obtain ⟨hfl, hft⟩ := fold_len (emp1 s (2 * m + 1)) (E.1.w.take k) E.2 t2
        rw [List.length_take, Nat.min_eq_left hk] at hfl
        have hstep := fun h => fold_take (emp1 s (2 * m + 1)) E.1.w E.2 k h
        have hend : k = E.1.w.length → (E.1.w.take k).foldl (eat1 (emp1 s (2 * m + 1))) E.2 = E.1.w.foldl (eat1 (emp1 s (2 * m + 1))) E.2 := fun e => by rw [e, List.take_length]
        generalize hX : (E.1.w.take k).foldl (eat1 (emp1 s (2 * m + 1))) E.2 = X at *
        dsimp only [inner1]
        conv => whnf
        refine ⟨by first | omega | (simp only [Int.toNat_natCast]; omega) | (simp; done) | (simp; omega), ?_⟩
        conv => whnf
        refine ⟨by first | omega | (simp only [Int.toNat_natCast]; omega) | (simp; done) | (simp; omega), ?_⟩
        conv => whnf
        by_cases hkk : k < E.1.w.length
        · rw [show decide ((k : Int) < (E.1.w.length : Int)) = true from decide_eq_true (by omega)]
          conv => whnf
          refine ⟨by first | omega | (simp only [Int.toNat_natCast]; omega) | (simp; done) | (simp; omega), ?_⟩
          conv => whnf
          refine ⟨by first | omega | (simp only [Int.toNat_natCast]; omega) | (simp; done) | (simp; omega), ?_⟩
          conv => whnf
          refine ⟨by first | omega | (simp only [Int.toNat_natCast]; omega) | (simp; done) | (simp; omega), ?_⟩
          conv => whnf
          refine ⟨by first | omega | (simp only [Int.toNat_natCast]; omega) | (simp; done) | (simp; omega), ?_⟩
          conv => whnf
          rw [show 0 + ((k : Nat) : Int).toNat = k from by omega]
          refine ⟨by first | omega | (simp only [Int.toNat_natCast]; omega) | (simp; done) | (simp; omega), ?_⟩
          conv => whnf
          refine ⟨by first | omega | (simp only [Int.toNat_natCast]; omega) | (simp; done) | (simp; omega), ?_⟩
          conv => whnf
          refine ⟨by first | omega | (simp only [Int.toNat_natCast]; omega) | (simp; done) | (simp; omega), ?_⟩
          conv => whnf
          refine ⟨by first | omega | (simp only [Int.toNat_natCast]; omega) | (simp; done) | (simp; omega), ?_⟩
          conv => whnf
          refine ⟨_, (takeK_spec X.h (E.1.w.getD k default) _ 10 hft), ?_⟩
          conv => whnf
          refine ⟨by kernel_rfl, ?_⟩
          conv => whnf
          have hl1 := takeR_len X.h (E.1.w.getD k default) (emp1 s (2 * m + 1)) 10
          refine ⟨by first | omega | (simp only [Int.toNat_natCast]; omega) | (simp; done) | (simp; omega), ?_⟩
          conv => whnf
          refine ⟨by first | omega | (simp only [Int.toNat_natCast]; omega) | (simp; done) | (simp; omega), ?_⟩
          conv => whnf
          refine ⟨by first | omega | (simp only [Int.toNat_natCast]; omega) | (simp; done) | (simp; omega), ?_⟩
          conv => whnf
          refine ⟨⟨by omega, by omega, by simp only [ty41]; omega⟩, ?_⟩
          conv => whnf
          refine ⟨by first | omega | (simp only [Int.toNat_natCast]; omega) | (simp; done) | (simp; omega), ?_⟩
          conv => whnf
          refine ⟨by first | omega | (simp only [Int.toNat_natCast]; omega) | (simp; done) | (simp; omega), ?_⟩
          conv => whnf
          refine ⟨by first | omega | (simp only [Int.toNat_natCast]; omega) | (simp; done) | (simp; omega), ?_⟩
          conv => whnf
          refine ⟨by first | omega | (simp only [Int.toNat_natCast]; omega) | (simp; done) | (simp; omega), ?_⟩
          conv => whnf
          refine ⟨by first | omega | (simp only [Int.toNat_natCast]; omega) | (simp; done) | (simp; omega), ?_⟩
          conv => whnf
          refine ⟨by first | omega | (simp only [Int.toNat_natCast]; omega) | (simp; done) | (simp; omega), ?_⟩
          conv => whnf
          refine ⟨⟨k + 1, hkk⟩, [(120, 9001)], by dsimp only; omega, ?_⟩
          dsimp only
          rw [hstep hkk]
          exact ⟨.refl _, .refl _, .refl _, .refl _, .refl _, .refl _, .refl _, ⟨rfl, rfl, rfl, fun k hk => by rcases (show k = 0 ∨ k = 1 by omega) with rfl | rfl <;> rfl⟩, ⟨rfl, rfl, rfl, fun k hk => by rcases (show k = 0 ∨ k = 1 by omega) with rfl | rfl <;> rfl⟩, ⟨rfl, rfl, rfl, fun k hk => by rcases (show k = 0 ∨ k = 1 by omega) with rfl | rfl <;> rfl⟩, ⟨.refl _, by show AVal.le (.rsl 9001 14 0 (X.w.length + _)) (.rsl 9001 14 0 (X.w ++ _).length); rw [List.length_append]; exact .refl _, trivial⟩, ⟨rfl, rfl, (List.length_append ..).symm, fun j hj => fcatK _ _ j⟩, ⟨rfl, rfl, rfl, fun k hk => rfl⟩, trivial⟩
        · rw [show decide ((k : Int) < (E.1.w.length : Int)) = false from decide_eq_false (by omega)]
          conv => whnf
          refine ⟨by first | omega | (simp only [Int.toNat_natCast]; omega) | (simp; done) | (simp; omega), ?_⟩
          conv => whnf
          refine ⟨by first | omega | (simp only [Int.toNat_natCast]; omega) | (simp; done) | (simp; omega), ?_⟩
          conv => whnf
          refine ⟨by first | omega | (simp only [Int.toNat_natCast]; omega) | (simp; done) | (simp; omega), ?_⟩
          conv => whnf
          refine ⟨by first | omega | (simp only [Int.toNat_natCast]; omega) | (simp; done) | (simp; omega), ?_⟩
          conv => whnf
          refine ⟨by first | omega | (simp only [Int.toNat_natCast]; omega) | (simp; done) | (simp; omega), ?_⟩
          conv => whnf
          refine ⟨by first | omega | (simp only [Int.toNat_natCast]; omega) | (simp; done) | (simp; omega), ?_⟩
          conv => whnf
          refine ⟨_, (empty_spec X.h 6 20), ?_⟩
          rintro q rfl
          conv => whnf
          have hl1 := emptyR_one X.h 6 20
          refine ⟨by first | omega | (simp only [Int.toNat_natCast]; omega) | (simp; done) | (simp; omega), ?_⟩
          conv => whnf
          refine ⟨by first | omega | (simp only [Int.toNat_natCast]; omega) | (simp; done) | (simp; omega), ?_⟩
          conv => whnf
          refine ⟨by first | omega | (simp only [Int.toNat_natCast]; omega) | (simp; done) | (simp; omega), ?_⟩
          conv => whnf
          refine ⟨⟨by omega, by omega, by simp only [ty41]; omega⟩, ?_⟩
          conv => whnf
          refine ⟨by first | omega | (simp only [Int.toNat_natCast]; omega) | (simp; done) | (simp; omega), ?_⟩
          conv => whnf
          refine ⟨by first | omega | (simp only [Int.toNat_natCast]; omega) | (simp; done) | (simp; omega), ?_⟩
          conv => whnf
          have hnext' : endSt f s b (2 * m + 2) = _ := hnext
          refine ⟨⟨.even m, by simp only [Rd.r]; omega⟩, [(157, 9000)], by simp only [Rd.r]; omega, ?_⟩
          dsimp only [mainS]
          rw [hnext', ← hend (by omega)]
          exact ⟨.refl _, .refl _, .refl _, .refl _, .refl _, ⟨rfl, rfl, rfl, fun k hk => by rcases (show k = 0 ∨ k = 1 by omega) with rfl | rfl <;> rfl⟩, ⟨rfl, rfl, rfl, fun k hk => by rcases (show k = 0 ∨ k = 1 by omega) with rfl | rfl <;> rfl⟩, ⟨rfl, rfl, rfl, fun k hk => by rcases (show k = 0 ∨ k = 1 by omega) with rfl | rfl <;> rfl⟩, ⟨.refl _, by show AVal.le (.rsl 9000 14 0 (X.w.length + _)) (.rsl 9000 14 0 (X.w ++ _).length); rw [List.length_append]; exact .refl _, trivial⟩, ⟨rfl, rfl, (List.length_append ..).symm, fun j hj => fcatK _ _ j⟩, trivial⟩
theorem handEnds_of {l0 l1 l2 : List D} (h0 : wt tys 8 4 l0) (h1 : wt tys 8 4 l1) (h2 : wt tys 8 4 l2) : PSpec Try.prog 3 [asV false l0, asV false l1, asV false l2] (· = .d (.b true)) := by
  obtain ⟨x0, rfl⟩ := h0
  obtain ⟨x1, rfl⟩ := h1
  obtain ⟨x2, rfl⟩ := h2
  exact ends_spec x0 x1 x2
end Go.Proofs.Ytejjbppbpdechaa
