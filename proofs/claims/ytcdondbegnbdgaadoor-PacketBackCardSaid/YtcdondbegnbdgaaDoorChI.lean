/- Chapter 7: a chunk's value is read: contracts. -/
import Derived.Test.YtcdondbegnbdgaaDoorChH
namespace Go.Proofs.YtcdondbegnbdgaaDoor
open Go Go.RowKit Towline Towline.Tlv Towline.Chunk
set_option linter.unusedVariables false
set_option linter.unusedSimpArgs false
set_option maxRecDepth 20000
set_option maxHeartbeats 1000000
abbrev rdT : Tys := tysX false [] [(59, []), (60, []), (61, []), (62, [])] []
abbrev rdTOk : TysOk Tryd.prog rdT := tysXOk _ _ _ _
theorem wrap16k (r : Rr) : IntKind.u16.wrap (tk 2 r).1 = (tk 2 r).1 := wrap16 (tk2_in r)
abbrev boxC (c : Ch) : AObj := .box (cL c) none
abbrev box0 (t f : Int) : AObj := cN t f 0 0 0 0 0 0 0 0 nilD nilD nilD []
abbrev cX (t f tsn tag win ppid st ss ou ins : Int) (it : List Tlv.It) (tx : List UInt8) : AObj := .box [tvi t, tvi f, cv32 tsn, cv32 tag, cv32 win, cv32 ppid, cv16 st, cv16 ss, cv16 ou, cv16 ins, .d (slT 2 encG []), .d (slT 1 enc32 []), .d (slT 2 encI it), tvs tx] none
theorem read_0 (f : Int) (r : Rr) (hl : r.1.length ≤ 2 ^ 40) {A B G D' : Int × Rr} (hA : A = tk 4 r) (hB : B = tk 2 A.2) (hG : G = tk 2 B.2) (hD : D' = tk 4 G.2) : LSpec Tryd.prog 42 [.ptr E0 0, .ptr E1 0] [(E0, rB r), (E1, box0 0 f)]
    (fun q hl => q = .tup [] ∧ hl = [(E0, rB ([], D'.2.2)), (E1, cX 0 f A.1 0 0 D'.1 B.1 G.1 0 0 [] D'.2.1)]) := by
  have sA := take_spec 4 (by omega) r hl
  have l1 := tk_len (k := 4) hl
  rw [← hA] at sA l1
  have sB := take_spec 2 (by omega) A.2 l1
  have l2 := tk_len (k := 2) l1
  have wB := wrap16k A.2
  rw [← hB] at sB l2 wB
  have sG := take_spec 2 (by omega) B.2 l2
  have l3 := tk_len (k := 2) l2
  have wG := wrap16k B.2
  rw [← hG] at sG l3 wG
  have sD := take_spec 4 (by omega) G.2 l3
  rw [← hD] at sD
  clear hA hB hG hD
  refine LSpec.run (rdTOk) followsB Tryd.func42 (by decide) rfl Tryd.ntmps42 (Nat.le_of_ble_eq_true rfl) rfl rfl fun w0 R0 Lo => ?_
  conv => whnf
  refine ⟨_, sA, ?_⟩
  rintro q hq ⟨rfl, rfl⟩
  conv => whnf
  refine ⟨_, sB, ?_⟩
  rintro q hq ⟨rfl, rfl⟩
  conv => whnf
  rw [wB]
  refine ⟨_, sG, ?_⟩
  rintro q hq ⟨rfl, rfl⟩
  conv => whnf
  rw [wG]
  refine ⟨_, sD, ?_⟩
  rintro q hq ⟨rfl, rfl⟩
  conv => whnf
  refine ⟨_, rest_spec D'.2, ?_⟩
  rintro q hq ⟨rfl, rfl⟩
  conv => whnf
  refine ⟨_, _, .refl _, ?_, rfl, rfl⟩
  exact ⟨OLe.refl _, ⟨.refl _, .refl _, .refl _, .refl _, .refl _, .refl _, .refl _, .refl _, .refl _, .refl _, .nil, .nil, .nil, .refl _, trivial⟩, trivial⟩
theorem read_1 (t f : Int) (ht : t = 1 ∨ t = 2) (r : Rr) (hl : r.1.length ≤ 2 ^ 40) {A B G D' H' : Int × Rr} {I : List Tlv.It × Rr} (hA : A = tk 4 r) (hB : B = tk 4 A.2) (hG : G = tk 2 B.2) (hD : D' = tk 2 G.2) (hH : H' = tk 4 D'.2) (hI : I = itemsR H'.2) : LSpec Tryd.prog 42 [.ptr E0 0, .ptr E1 0] [(E0, rB r), (E1, box0 t f)]
    (fun q hl => q = .tup [] ∧ hl = [(E0, rB I.2), (E1, cX t f H'.1 A.1 B.1 0 0 0 G.1 D'.1 I.1 [])]) := by
  have sA := take_spec 4 (by omega) r hl
  have l1 := tk_len (k := 4) hl
  rw [← hA] at sA l1
  have sB := take_spec 4 (by omega) A.2 l1
  have l2 := tk_len (k := 4) l1
  rw [← hB] at sB l2
  have sG := take_spec 2 (by omega) B.2 l2
  have l3 := tk_len (k := 2) l2
  have wG := wrap16k B.2
  rw [← hG] at sG l3 wG
  have sD := take_spec 2 (by omega) G.2 l3
  have l4 := tk_len (k := 2) l3
  have wD := wrap16k G.2
  rw [← hD] at sD l4 wD
  have sH := take_spec 4 (by omega) D'.2 l4
  rw [← hH] at sH
  have sI := itemsR_spec H'.2
  rw [← hI] at sI
  clear hA hB hG hD hH hI
  rcases ht with rfl | rfl
  · refine LSpec.run (rdTOk) followsB Tryd.func42 (by decide) rfl Tryd.ntmps42 (Nat.le_of_ble_eq_true rfl) rfl rfl fun w0 R0 Lo => ?_
    conv => whnf
    refine ⟨_, sA, ?_⟩
    rintro q hq ⟨rfl, rfl⟩
    conv => whnf
    refine ⟨_, sB, ?_⟩
    rintro q hq ⟨rfl, rfl⟩
    conv => whnf
    refine ⟨_, sG, ?_⟩
    rintro q hq ⟨rfl, rfl⟩
    conv => whnf
    rw [wG]
    refine ⟨_, sD, ?_⟩
    rintro q hq ⟨rfl, rfl⟩
    conv => whnf
    rw [wD]
    refine ⟨_, sH, ?_⟩
    rintro q hq ⟨rfl, rfl⟩
    conv => whnf
    refine ⟨_, sI, ?_⟩
    rintro q hq ⟨rfl, rfl⟩
    conv => whnf
    refine ⟨_, _, .refl _, ?_, rfl, rfl⟩
    exact ⟨OLe.refl _, ⟨.refl _, .refl _, .refl _, .refl _, .refl _, .refl _, .refl _, .refl _, .refl _, .refl _, .nil, .nil, .refl _, .refl _, trivial⟩, trivial⟩
  · refine LSpec.run (rdTOk) followsB Tryd.func42 (by decide) rfl Tryd.ntmps42 (Nat.le_of_ble_eq_true rfl) rfl rfl fun w0 R0 Lo => ?_
    conv => whnf
    refine ⟨_, sA, ?_⟩
    rintro q hq ⟨rfl, rfl⟩
    conv => whnf
    refine ⟨_, sB, ?_⟩
    rintro q hq ⟨rfl, rfl⟩
    conv => whnf
    refine ⟨_, sG, ?_⟩
    rintro q hq ⟨rfl, rfl⟩
    conv => whnf
    rw [wG]
    refine ⟨_, sD, ?_⟩
    rintro q hq ⟨rfl, rfl⟩
    conv => whnf
    rw [wD]
    refine ⟨_, sH, ?_⟩
    rintro q hq ⟨rfl, rfl⟩
    conv => whnf
    refine ⟨_, sI, ?_⟩
    rintro q hq ⟨rfl, rfl⟩
    conv => whnf
    refine ⟨_, _, .refl _, ?_, rfl, rfl⟩
    exact ⟨OLe.refl _, ⟨.refl _, .refl _, .refl _, .refl _, .refl _, .refl _, .refl _, .refl _, .refl _, .refl _, .nil, .nil, .refl _, .refl _, trivial⟩, trivial⟩
theorem read_4 (t f : Int) (ht : t = 4 ∨ t = 5 ∨ t = 6 ∨ t = 9) (r : Rr) {I : List Tlv.It × Rr} (hI : I = itemsR r) : LSpec Tryd.prog 42 [.ptr E0 0, .ptr E1 0] [(E0, rB r), (E1, box0 t f)]
    (fun q hl => q = .tup [] ∧ hl = [(E0, rB I.2), (E1, cX t f 0 0 0 0 0 0 0 0 I.1 [])]) := by
  have sI := itemsR_spec r
  rw [← hI] at sI
  clear hI
  rcases ht with rfl | rfl | rfl | rfl
  · refine LSpec.run (rdTOk) followsB Tryd.func42 (by decide) rfl Tryd.ntmps42 (Nat.le_of_ble_eq_true rfl) rfl rfl fun w0 R0 Lo => ?_
    conv => whnf
    refine ⟨_, sI, ?_⟩
    rintro q hq ⟨rfl, rfl⟩
    conv => whnf
    refine ⟨_, _, .refl _, ?_, rfl, rfl⟩
    exact ⟨OLe.refl _, ⟨.refl _, .refl _, .refl _, .refl _, .refl _, .refl _, .refl _, .refl _, .refl _, .refl _, .nil, .nil, .refl _, .refl _, trivial⟩, trivial⟩
  · refine LSpec.run (rdTOk) followsB Tryd.func42 (by decide) rfl Tryd.ntmps42 (Nat.le_of_ble_eq_true rfl) rfl rfl fun w0 R0 Lo => ?_
    conv => whnf
    refine ⟨_, sI, ?_⟩
    rintro q hq ⟨rfl, rfl⟩
    conv => whnf
    refine ⟨_, _, .refl _, ?_, rfl, rfl⟩
    exact ⟨OLe.refl _, ⟨.refl _, .refl _, .refl _, .refl _, .refl _, .refl _, .refl _, .refl _, .refl _, .refl _, .nil, .nil, .refl _, .refl _, trivial⟩, trivial⟩
  · refine LSpec.run (rdTOk) followsB Tryd.func42 (by decide) rfl Tryd.ntmps42 (Nat.le_of_ble_eq_true rfl) rfl rfl fun w0 R0 Lo => ?_
    conv => whnf
    refine ⟨_, sI, ?_⟩
    rintro q hq ⟨rfl, rfl⟩
    conv => whnf
    refine ⟨_, _, .refl _, ?_, rfl, rfl⟩
    exact ⟨OLe.refl _, ⟨.refl _, .refl _, .refl _, .refl _, .refl _, .refl _, .refl _, .refl _, .refl _, .refl _, .nil, .nil, .refl _, .refl _, trivial⟩, trivial⟩
  · refine LSpec.run (rdTOk) followsB Tryd.func42 (by decide) rfl Tryd.ntmps42 (Nat.le_of_ble_eq_true rfl) rfl rfl fun w0 R0 Lo => ?_
    conv => whnf
    refine ⟨_, sI, ?_⟩
    rintro q hq ⟨rfl, rfl⟩
    conv => whnf
    refine ⟨_, _, .refl _, ?_, rfl, rfl⟩
    exact ⟨OLe.refl _, ⟨.refl _, .refl _, .refl _, .refl _, .refl _, .refl _, .refl _, .refl _, .refl _, .refl _, .nil, .nil, .refl _, .refl _, trivial⟩, trivial⟩
theorem read_7 (f : Int) (r : Rr) (hl : r.1.length ≤ 2 ^ 40) {A : Int × Rr} (hA : A = tk 4 r) : LSpec Tryd.prog 42 [.ptr E0 0, .ptr E1 0] [(E0, rB r), (E1, box0 7 f)]
    (fun q hl => q = .tup [] ∧ hl = [(E0, rB A.2), (E1, cX 7 f A.1 0 0 0 0 0 0 0 [] [])]) := by
  have sA := take_spec 4 (by omega) r hl
  rw [← hA] at sA
  clear hA
  refine LSpec.run (rdTOk) followsB Tryd.func42 (by decide) rfl Tryd.ntmps42 (Nat.le_of_ble_eq_true rfl) rfl rfl fun w0 R0 Lo => ?_
  conv => whnf
  refine ⟨_, sA, ?_⟩
  rintro q hq ⟨rfl, rfl⟩
  conv => whnf
  refine ⟨_, _, .refl _, ?_, rfl, rfl⟩
  exact ⟨OLe.refl _, ⟨.refl _, .refl _, .refl _, .refl _, .refl _, .refl _, .refl _, .refl _, .refl _, .refl _, .nil, .nil, .nil, .refl _, trivial⟩, trivial⟩
theorem read_x (t f : Int) (ht : t ≠ 0 ∧ t ≠ 1 ∧ t ≠ 2 ∧ t ≠ 3 ∧ t ≠ 4 ∧ t ≠ 5 ∧ t ≠ 6 ∧ t ≠ 9 ∧ t ≠ 7) (r : Rr) : LSpec Tryd.prog 42 [.ptr E0 0, .ptr E1 0] [(E0, rB r), (E1, box0 t f)]
    (fun q hl => q = .tup [] ∧ hl = [(E0, rB ([], r.2)), (E1, cX t f 0 0 0 0 0 0 0 0 [] r.1)]) := by
  obtain ⟨h0, h1, h2, h3, h4, h5, h6, h9, h7⟩ := ht
  refine LSpec.run (rdTOk) followsB Tryd.func42 (by decide) rfl Tryd.ntmps42 (Nat.le_of_ble_eq_true rfl) rfl rfl fun w0 R0 Lo => ?_
  conv => whnf
  rw [show (t == 0) = false from by simp [h0]]
  conv => whnf
  rw [show (t == 1) = false from by simp [h1]]
  conv => whnf
  rw [show (t == 2) = false from by simp [h2]]
  conv => whnf
  rw [show (t == 3) = false from by simp [h3]]
  conv => whnf
  rw [show (t == 4) = false from by simp [h4]]
  conv => whnf
  rw [show (t == 5) = false from by simp [h5]]
  conv => whnf
  rw [show (t == 6) = false from by simp [h6]]
  conv => whnf
  rw [show (t == 9) = false from by simp [h9]]
  conv => whnf
  rw [show (t == 7) = false from by simp [h7]]
  conv => whnf
  refine ⟨_, rest_spec r, ?_⟩
  rintro q hq ⟨rfl, rfl⟩
  conv => whnf
  refine ⟨_, _, .refl _, ?_, rfl, rfl⟩
  exact ⟨OLe.refl _, ⟨.refl _, .refl _, .refl _, .refl _, .refl _, .refl _, .refl _, .refl _, .refl _, .refl _, .nil, .nil, .nil, .refl _, trivial⟩, trivial⟩
abbrev cXof (c : Ch) : AObj := cX c.ty c.flags c.tsn c.tag c.window c.ppid c.stream c.ssn c.outs c.ins c.items c.text
theorem read_spec (t f : Int) (r : Rr) (hl : r.1.length ≤ 2 ^ 40) (h3 : ¬ t = 3) : LSpec Tryd.prog 42 [.ptr E0 0, .ptr E1 0] [(E0, rB r), (E1, box0 t f)]
    (fun q hl => q = .tup [] ∧ hl = [(E0, rB (readR (mkC t f) r).2), (E1, cXof (readR (mkC t f) r).1)]) := by
  unfold readR mkC
  dsimp only
  by_cases h0 : t = 0
  · rw [if_pos h0]
    subst h0
    dsimp only [cXof]
    exact read_0 (A := tk 4 r) (B := tk 2 (tk 4 r).2) (G := tk 2 (tk 2 (tk 4 r).2).2) (D' := tk 4 (tk 2 (tk 2 (tk 4 r).2).2).2) f r hl rfl rfl rfl rfl
  rw [if_neg h0]
  by_cases h1 : t = 1 ∨ t = 2
  · rw [if_pos h1]
    dsimp only [cXof]
    exact read_1 (A := tk 4 r) (B := tk 4 (tk 4 r).2) (G := tk 2 (tk 4 (tk 4 r).2).2) (D' := tk 2 (tk 2 (tk 4 (tk 4 r).2).2).2) (H' := tk 4 (tk 2 (tk 2 (tk 4 (tk 4 r).2).2).2).2) (I := itemsR (tk 4 (tk 2 (tk 2 (tk 4 (tk 4 r).2).2).2).2).2) t f h1 r hl rfl rfl rfl rfl rfl rfl
  rw [if_neg h1, if_neg h3]
  by_cases h4 : t = 4 ∨ t = 5 ∨ t = 6 ∨ t = 9
  · rw [if_pos h4]
    dsimp only [cXof]
    exact read_4 (I := itemsR r) t f h4 r rfl
  rw [if_neg h4]
  by_cases h7 : t = 7
  · rw [if_pos h7]
    subst h7
    dsimp only [cXof]
    exact read_7 (A := tk 4 r) f r hl rfl
  rw [if_neg h7]
  dsimp only [cXof]
  exact read_x t f (by omega) r
theorem read3_spec (f : Int) (r : Rr) (hl : r.1.length ≤ 2 ^ 40) : LSpec Tryd.prog 42 [.ptr E0 0, .ptr E1 0] [(E0, rB r), (E1, box0 3 f)]
    (fun q hl => q = .tup [] ∧ hl = [(E0, rB (readR (mkC 3 f) r).2), (E1, cN 3 f (readR (mkC 3 f) r).1.tsn 0 (readR (mkC 3 f) r).1.window 0 0 0 0 0 (.rsl 82000 2 0 (readR (mkC 3 f) r).1.gaps.length) (.rsl 82001 1 0 (readR (mkC 3 f) r).1.dups.length) nilD []), (82000, rowG (readR (mkC 3 f) r).1.gaps), (82001, rowD (readR (mkC 3 f) r).1.dups)]) := by
  rw [show readR (mkC 3 f) r = sackR (mkC 3 f) r from rfl]
  refine LSpec.run (rdTOk) followsB Tryd.func42 (by decide) rfl Tryd.ntmps42 (Nat.le_of_ble_eq_true rfl) rfl rfl fun w0 R0 Lo => ?_
  conv => whnf
  refine ⟨_, sack_spec 3 f r hl, ?_⟩
  rintro q hq ⟨rfl, rfl⟩
  conv => whnf
  refine ⟨_, _, .refl _, ?_, rfl, rfl⟩
  exact ⟨OLe.refl _, OLe.refl _, OLe.refl _, OLe.refl _, trivial⟩
end Go.Proofs.YtcdondbegnbdgaaDoor
