/- Package strings' Builder at the head of a variable of another type: functions that are lent it. -/
import Derived.Test.YtjdmnfjgmbnlbaaGreatDoorBld
namespace Go.Proofs
open Go.Shelf Go.RowKit
/-- String, of a Builder that holds bytes, to the letter of the world behind it. -/
theorem Tryz.bldStringG {P : Program} {ρ : Ren} (L : Lays.n169 P ρ) (X : Builder.Extra P ρ) (b g cap : Nat) (cur : Array Value) (p : Value) (l : List UInt8) (w : World) (tb : TypeId) (h0 : l ≠ []) (hbk : w.heap[b]? = some (.cells #[p, .slice (some ⟨g, 0, none⟩) l.length cap] tb (0, 0))) (hg : w.heap[g]? = some (.cells cur (ρ.t 5) (0, 0)))
    (hnc : l.length ≤ cap) (hcm : cap ≤ maxLen) (hcs : cur.size = cap) (hcells : ∀ j x, l[j]? = some x → w.cell? ⟨g, j, none⟩ = some (.int .u8 x.toNat)) :
    Calls P (ρ.f 169) #[.pointer (some ⟨b, 0, none⟩)] w fun e w' => e = .returned (.string ⟨l.toArray⟩) ∧ w' = w.drew.freeze ⟨g, 0, none⟩ l.length := by
  have hl0 : l.length ≠ 0 := by simpa using h0
  have c1 : w.drew.cell? ⟨b, 1, none⟩ = some (.slice (some ⟨g, 0, none⟩) l.length cap) := by
    have : w.drew.heap[b]? = some (.cells #[p, .slice (some ⟨g, 0, none⟩) l.length cap] tb (0, 0)) := hbk
    rw [Lib.cell_of_heap this]; rfl
  have hSD : (Builtin.unsafeSliceData_ #[(ρ.t 37)] (ρ.t 127) #[.slice (some ⟨g, 0, none⟩) l.length cap]).run P w.drew = .ok (.pointer (some ⟨g, 0, none⟩)) w.drew :=
    Lib.run_unsafeSliceData_row _ _ _ _ _ _ (by omega)
  have hUS : (Builtin.unsafeString_ #[(ρ.t 127), (ρ.t 3)] (ρ.t 9) #[.pointer (some ⟨g, 0, none⟩), .int .i64 l.length]).run P w.drew = .ok (.string ⟨l.toArray⟩) (w.drew.freeze ⟨g, 0, none⟩ l.length) := by
    refine Lib.run_unsafeString_row w.drew (ρ.t 127) (ρ.t 3) (ρ.t 9) (ρ.t 5) L.t127 X.cellsByte g cur.size (by have hg' : w.drew.heap[g]? = some (.cells cur (ρ.t 5) (0, 0)) := hg; simp [World.shape?, hg']) l h0 (by omega) (by unfold maxLen at hcm; omega) ?_
    intro j x hx
    have e : (⟨g, 0, none⟩ : Addr).add j = ⟨g, j, none⟩ := by unfold Addr.add; split <;> simp_all
    rw [e]
    exact hcells j x hx
  have mixed := L.mixed
  have t72 := L.t72; have a72 := L.a72; have z72 := L.z72; have v72 := L.v72; have u72 := run_underlying L.t72
  have t70 := L.t70; have a70 := L.a70; have z70 := L.z70; have v70 := L.v70; have u70 := run_underlying L.t70
  have t37 := L.t37; have a37 := L.a37; have z37 := L.z37; have v37 := L.v37; have u37 := run_underlying L.t37
  have t127 := L.t127; have a127 := L.a127; have z127 := L.z127; have v127 := L.v127; have u127 := run_underlying L.t127
  have t3 := L.t3; have a3 := L.a3; have z3 := L.z3; have v3 := L.v3; have u3 := run_underlying L.t3
  have t9 := L.t9; have a9 := L.a9; have z9 := L.z9; have v9 := L.v9; have u9 := run_underlying L.t9
  have t5 := X.t5; have a5 := X.a5; have z5 := X.z5; have v5 := X.v5; have u5 := run_underlying X.t5
  clear hcells
  go_enter L.f169, Body.n169_ntmps ρ
  go_wp2
  go_region_o
  all_goals (go_wp2; go_ret; exact ⟨rfl, rfl⟩)
set_option maxHeartbeats 2000000 in
set_option maxRecDepth 100000 in
/-- copyCheck of a new Builder that lies at the head of a variable of another type. -/
theorem Tryz.bldFreshG {P : Program} {ρ : Ren} (L : Lays.n240 P ρ) (X : Builder.X72 P ρ) (tb : TypeId) (hlies : liesAt P P.depth tb (2 / P.cellsOf tb) 0 (ρ.t 72) 1 = true) (b : Nat) (w : World) (h0 : w.cell? ⟨b, 0, none⟩ = some (.pointer none)) (hsh : w.shape? b = some (tb, 2)) (hfz : w.frozen? ⟨b, 0, none⟩ = false) :
    Calls P (ρ.f 240) #[.pointer (some ⟨b, 0, none⟩)] w fun e w' => e = .returned (.tuple #[]) ∧ w' = w.setCell ⟨b, 0, none⟩ (.pointer (some ⟨b, 0, none⟩)) := by
  obtain ⟨j, hj, hjs⟩ := Option.map_eq_some_iff.1 X.sizeBuilder
  have mixed := L.mixed
  have t72 := L.t72; have a72 := L.a72; have z72 := L.z72; have v72 := L.v72; have u72 := run_underlying L.t72
  have t70 := L.t70; have a70 := L.a70; have z70 := L.z70; have v70 := L.v70; have u70 := run_underlying L.t70
  have t9 := L.t9; have a9 := L.a9; have z9 := L.z9; have v9 := L.v9; have u9 := run_underlying L.t9
  have t4 := L.t4; have a4 := L.a4; have z4 := L.z4; have v4 := L.v4; have u4 := run_underlying L.t4
  have t164 := L.t164; have a164 := L.a164; have z164 := L.z164; have v164 := L.v164; have u164 := run_underlying L.t164
  go_enter L.f240, Body.n240_ntmps ρ
  go_wp2
  rw [Lib.run_to_unsafe w ⟨b, 0, none⟩ L.t70 L.t164 hj (by rw [hjs]; decide) hsh (Nat.zero_lt_succ 1)]
  simp only [Result.andThen]
  rw [Oper.upon_value]
  go_wp2
  rw [run_callFunc_extern L.f276 (by kernel_rfl) (by kernel_rfl) (by kernel_rfl) (e := Extern.AbiNoEscape.same) (by kernel_rfl)]
  rw [Lib.run_noEscape]
  simp only [Result.andThen]
  rw [Oper.upon_value]
  go_wp2
  rw [Lib.run_from_unsafe w ⟨b, 0, none⟩ L.t164 L.t70 hj hsh hlies]
  simp only [Result.andThen]
  rw [Oper.upon_value]
  go_wp2
  go_end0
  exact ⟨rfl, rfl⟩
end Go.Proofs
namespace Go.Proofs.YtjdmnfjgmbnlbaaGreatDoor
open Go Go.RowKit Towline
set_option linter.unusedVariables false
set_option linter.unusedSimpArgs false
set_option maxRecDepth 100000
set_option maxHeartbeats 2000000
/-- A variable of such a type begins with a Builder, and is no larger. -/
abbrev LiesB (tg : TypeId) : Prop := liesAt Tryz.prog Tryz.prog.depth tg (2 / Tryz.prog.cellsOf tg) 0 (Tryz.lays165_ren.t 72) 1 = true
abbrev bldG (tg : TypeId) (p : AVal) (n : Nat) (f : Nat → List D) : Heap := [(E0, .box [p, .rsl E1 1 0 n] (some tg)), (E1, .row 5 1 n f)]
/-- A written one is found in order. -/
theorem cc_usedG (tg : TypeId) (htg : LiesB tg) (n : Nat) (f : Nat → List D) : LSpec Tryz.prog 113 [.ptr E0 0] (bldG tg (.ptr E0 0) n f) (fun r hl => r = .tup [] ∧ hl = bldG tg (.ptr E0 0) n f) := by
  refine LSpec.raw fn_cc rfl fun C L w vs hw0 hnt H hz ha => ?_
  have h0 := ha 0 _ rfl
  have hbox := H.obj E0 _ (show lko (bldG tg (.ptr E0 0) n f) E0 = some (.box [.ptr E0 0, .rsl E1 1 0 n] (some tg)) from rfl)
  obtain ⟨v0, rfl⟩ : ∃ v, vs = #[v] := by
    obtain ⟨l⟩ := vs
    match l, hz with
    | [v], _ => exact ⟨v, rfl⟩
  generalize hv0 : (#[v0] : Array Value).getD 0 undef = u at h0
  have hv0 : v0 = u := hv0
  subst hv0
  cases h0 with
  | @ptr _ _ _ b hb =>
    cases hbox with
    | @box _ _ cs t b' htag hb' hh hz h1 hr =>
      rw [hb] at hb'
      cases hb'
      have hc0 := hr 0 _ rfl
      have hcell : w.cell? ⟨b, 0, none⟩ = some (.pointer (some ⟨b, 0, none⟩)) := by
        rw [cell_of_row w b 0 cs t (0, 0) hh]
        have hlt : 0 < cs.size := by rw [hz]; exact Nat.zero_lt_succ _
        rw [Array.getD_eq_getD_getElem?, Array.getElem?_eq_getElem hlt] at hc0
        rw [Array.getElem?_eq_getElem hlt]
        generalize hq : (some cs[0]).getD undef = q at hc0
        have hq : cs[0] = q := hq
        cases hc0 with
        | ptr h => rw [hb] at h; cases h; rw [hq]
      refine (Any.Builder_copyCheck_used lays240 Tryz.Builder_Extra_165.toX72 b w hcell).mono ?_
      rintro e w' ⟨rfl, rfl⟩
      exact ⟨_, _, _, L, rfl, ⟨rfl, rfl⟩, H, .tup rfl fun i x hx => by simp at hx⟩
/-- A new one notes its own address. -/
theorem cc_freshG (tg : TypeId) (htg : LiesB tg) (n : Nat) (f : Nat → List D) : LSpec Tryz.prog 113 [.ptr E0 0] (bldG tg nilP n f) (fun r hl => r = .tup [] ∧ hl = bldG tg (.ptr E0 0) n f) := by
  refine LSpec.raw fn_cc rfl fun C L w vs hw0 hnt H hz ha => ?_
  have h0 := ha 0 _ rfl
  have hbox := H.obj E0 _ (show lko (bldG tg nilP n f) E0 = some (.box [nilP, .rsl E1 1 0 n] (some tg)) from rfl)
  obtain ⟨v0, rfl⟩ : ∃ v, vs = #[v] := by
    obtain ⟨l⟩ := vs
    match l, hz with
    | [v], _ => exact ⟨v, rfl⟩
  generalize hv0 : (#[v0] : Array Value).getD 0 undef = u at h0
  have hv0 : v0 = u := hv0
  subst hv0
  cases h0 with
  | @ptr _ _ _ b hb =>
    have hbox' := hbox
    cases hbox with
    | @box _ _ cs t b' htag hb' hh hz h1 hr =>
      rw [hb] at hb'
      cases hb'
      have ht := (htag _ rfl).symm
      subst ht
      have hsz : cs.size = 2 := hz
      have hc0 := hr 0 _ rfl
      have hlt : 0 < cs.size := by omega
      have hcs0 : cs[0] = .pointer none := by
        rw [Array.getD_eq_getD_getElem?, Array.getElem?_eq_getElem hlt] at hc0
        exact repA_v hc0
      have hcell : w.cell? ⟨b, 0, none⟩ = some (.pointer none) := by
        rw [cell_of_row w b 0 cs _ (0, 0) hh, Array.getElem?_eq_getElem hlt, hcs0]
      have hblt : b < w.heap.size := lt_of_heap hh
      refine (Go.Proofs.Tryz.bldFreshG lays240 Tryz.Builder_Extra_165.toX72 tg htg b w hcell (by simp [World.shape?, hh, hsz]) (by simp [World.frozen?, hh])).mono ?_
      rintro e w' ⟨rfl, rfl⟩
      have hset := H.set (o' := .box [.ptr E0 0, .rsl E1 1 0 n] (some tg)) (w' := w.setCell ⟨b, 0, none⟩ (.pointer (some ⟨b, 0, none⟩))) (show lko (bldG tg nilP n f) E0 = some (.box [nilP, .rsl E1 1 0 n] (some tg)) from rfl) hb rfl rfl rfl (by simp [World.setCell]) (fun b' hne => by simp [World.setCell, Array.getElem?_modify, Ne.symm hne]) (fun gd' hst hold => by
        refine .box (cs := cs.setIfInBounds 0 (.pointer (some ⟨b, 0, none⟩))) (fun t' h => by cases h; rfl) hb (by simp [World.setCell, Array.getElem?_modify, hh]) (by simp [hsz]) (fun i hi => ?_) (fun i x hx => ?_)
        · have := h1 i hi
          rw [Array.getD_eq_getD_getElem?, Array.getElem?_setIfInBounds]
          split
          · rename_i e; subst e; simp [hlt, Value.oneCell']
          · rw [← Array.getD_eq_getD_getElem?]; exact this
        · match i, hx with
          | 0, hx =>
            cases hx
            rw [Array.getD_eq_getD_getElem?, Array.getElem?_setIfInBounds, if_pos rfl, if_pos hlt]
            exact .ptr hb
          | 1, hx =>
            cases hx
            have := hr 1 _ rfl
            rw [Array.getD_eq_getD_getElem?, Array.getElem?_setIfInBounds, if_neg (by decide), ← Array.getD_eq_getD_getElem?]
            exact this.nm rfl)
      refine ⟨_, _, _, L, rfl, ⟨rfl, rfl⟩, ?_, .tup rfl fun i x hx => by simp at hx⟩
      have e : lko (bldG tg (.ptr E0 0) n f) = hput (lko (bldG tg nilP n f)) E0 (.box [.ptr E0 0, .rsl E1 1 0 n] (some tg)) := by
        funext j
        show lookO j _ = _
        unfold hput
        by_cases hj : j = E0
        · subst hj; rfl
        · rw [if_neg hj]
          rw [show bldG tg (.ptr E0 0) n f = (E0, .box [.ptr E0 0, .rsl E1 1 0 n] (some tg)) :: [(E1, .row 5 1 n f)] from rfl, show bldG tg nilP n f = (E0, .box [nilP, .rsl E1 1 0 n] (some tg)) :: [(E1, .row 5 1 n f)] from rfl]
          rw [lookO_cons E0, if_neg hj]
          show _ = lookO j _
          rw [lookO_cons E0, if_neg hj]
      rw [e]
      exact hset
/-- A Builder that is new. -/
abbrev bldN (tg : TypeId) (p : AVal) : Heap := [(E0, .box [p, .d (.v (.slice none 0 0))] (some tg))]
theorem cc_nilG (tg : TypeId) (htg : LiesB tg) : LSpec Tryz.prog 113 [.ptr E0 0] (bldN tg nilP) (fun r hl => r = .tup [] ∧ hl = bldN tg (.ptr E0 0)) := by
  refine LSpec.raw fn_cc rfl fun C L w vs hw0 hnt H hz ha => ?_
  have h0 := ha 0 _ rfl
  have hbox := H.obj E0 _ (show lko (bldN tg nilP) E0 = some (.box [nilP, .d (.v (.slice none 0 0))] (some tg)) from rfl)
  obtain ⟨v0, rfl⟩ : ∃ v, vs = #[v] := by
    obtain ⟨l⟩ := vs
    match l, hz with
    | [v], _ => exact ⟨v, rfl⟩
  generalize hv0 : (#[v0] : Array Value).getD 0 undef = u at h0
  have hv0 : v0 = u := hv0
  subst hv0
  cases h0 with
  | @ptr _ _ _ b hb =>
    have hbox' := hbox
    cases hbox with
    | @box _ _ cs t b' htag hb' hh hz h1 hr =>
      rw [hb] at hb'
      cases hb'
      have ht := (htag _ rfl).symm
      subst ht
      have hsz : cs.size = 2 := hz
      have hc0 := hr 0 _ rfl
      have hlt : 0 < cs.size := by omega
      have hcs0 : cs[0] = .pointer none := by
        rw [Array.getD_eq_getD_getElem?, Array.getElem?_eq_getElem hlt] at hc0
        exact repA_v hc0
      have hcell : w.cell? ⟨b, 0, none⟩ = some (.pointer none) := by
        rw [cell_of_row w b 0 cs _ (0, 0) hh, Array.getElem?_eq_getElem hlt, hcs0]
      have hblt : b < w.heap.size := lt_of_heap hh
      refine (Go.Proofs.Tryz.bldFreshG lays240 Tryz.Builder_Extra_165.toX72 tg htg b w hcell (by simp [World.shape?, hh, hsz]) (by simp [World.frozen?, hh])).mono ?_
      rintro e w' ⟨rfl, rfl⟩
      have hset := H.set (o' := .box [.ptr E0 0, .d (.v (.slice none 0 0))] (some tg)) (w' := w.setCell ⟨b, 0, none⟩ (.pointer (some ⟨b, 0, none⟩))) (show lko (bldN tg nilP) E0 = some (.box [nilP, .d (.v (.slice none 0 0))] (some tg)) from rfl) hb rfl rfl rfl (by simp [World.setCell]) (fun b' hne => by simp [World.setCell, Array.getElem?_modify, Ne.symm hne]) (fun gd' hst hold => by
        refine .box (cs := cs.setIfInBounds 0 (.pointer (some ⟨b, 0, none⟩))) (fun t' h => by cases h; rfl) hb (by simp [World.setCell, Array.getElem?_modify, hh]) (by simp [hsz]) (fun i hi => ?_) (fun i x hx => ?_)
        · have := h1 i hi
          rw [Array.getD_eq_getD_getElem?, Array.getElem?_setIfInBounds]
          split
          · rename_i e; subst e; simp [hlt, Value.oneCell']
          · rw [← Array.getD_eq_getD_getElem?]; exact this
        · match i, hx with
          | 0, hx =>
            cases hx
            rw [Array.getD_eq_getD_getElem?, Array.getElem?_setIfInBounds, if_pos rfl, if_pos hlt]
            exact .ptr hb
          | 1, hx =>
            cases hx
            have := hr 1 _ rfl
            rw [Array.getD_eq_getD_getElem?, Array.getElem?_setIfInBounds, if_neg (by decide), ← Array.getD_eq_getD_getElem?]
            have hv := repA_v this
            rw [hv]
            exact .d (.v _ rfl))
      refine ⟨_, _, _, L, rfl, ⟨rfl, rfl⟩, ?_, .tup rfl fun i x hx => by simp at hx⟩
      have e : lko (bldN tg (.ptr E0 0)) = hput (lko (bldN tg nilP)) E0 (.box [.ptr E0 0, .d (.v (.slice none 0 0))] (some tg)) := by
        funext j
        show lookO j _ = _
        unfold hput
        by_cases hj : j = E0
        · subst hj; rfl
        · rw [if_neg hj]
          rw [show bldN tg (.ptr E0 0) = (E0, .box [.ptr E0 0, .d (.v (.slice none 0 0))] (some tg)) :: [] from rfl, show bldN tg nilP = (E0, .box [nilP, .d (.v (.slice none 0 0))] (some tg)) :: [] from rfl]
          rw [lookO_cons E0, if_neg hj]
          show _ = lookO j _
          rw [lookO_cons E0, if_neg hj]
      rw [e]
      exact hset
/-- A Builder behind a write. -/
abbrev bldWG (tg : TypeId) (n : Nat) (f : Nat → List D) : Heap := [(E0, .box [.ptr E0 0, .rsl 14 1 0 n] (some tg)), (14, .row 5 1 n f)]
theorem write_usedG (tg : TypeId) (htg : LiesB tg) (n m : Nat) (f g : Nat → List D) (h : n + m ≤ 2 ^ 40) : LSpec Tryz.prog 317 [.ptr E0 0, .d (.sl 1 m g)] (bldG tg (.ptr E0 0) n f) (fun r hl => r = .tup [bvi m, nilE] ∧ hl = bldWG tg (n + m) (fcat f n g)) := by
  refine LSpec.run (tysXOk false [] [(113, [])] []) followsB Tryz.func317 (by decide) rfl Tryz.ntmps317 (Nat.le_of_ble_eq_true rfl) rfl rfl fun w0 R0 Lo hGw => ?_
  conv => whnf
  refine ⟨_, cc_usedG tg htg n f, ?_⟩
  rintro q hq ⟨rfl, rfl⟩
  conv => whnf
  refine ⟨⟨by omega, by omega, by simp only [ty5]; omega⟩, ?_⟩
  conv => whnf
  refine ⟨_, _, .refl _, ?_, rfl, rfl⟩
  exact ⟨OLe.refl _, OLe.refl _, trivial⟩
theorem write_freshG (tg : TypeId) (htg : LiesB tg) (n m : Nat) (f g : Nat → List D) (h : n + m ≤ 2 ^ 40) : LSpec Tryz.prog 317 [.ptr E0 0, .d (.sl 1 m g)] (bldG tg nilP n f) (fun r hl => r = .tup [bvi m, nilE] ∧ hl = bldWG tg (n + m) (fcat f n g)) := by
  refine LSpec.run (tysXOk false [] [(113, [])] []) followsB Tryz.func317 (by decide) rfl Tryz.ntmps317 (Nat.le_of_ble_eq_true rfl) rfl rfl fun w0 R0 Lo hGw => ?_
  conv => whnf
  refine ⟨_, cc_freshG tg htg n f, ?_⟩
  rintro q hq ⟨rfl, rfl⟩
  conv => whnf
  refine ⟨⟨by omega, by omega, by simp only [ty5]; omega⟩, ?_⟩
  conv => whnf
  refine ⟨_, _, .refl _, ?_, rfl, rfl⟩
  exact ⟨OLe.refl _, OLe.refl _, trivial⟩
theorem writeS_usedG (tg : TypeId) (htg : LiesB tg) (n : Nat) (f : Nat → List D) (l : List UInt8) (h : n + l.length ≤ 2 ^ 40) : LSpec Tryz.prog 63 [.ptr E0 0, .d (.s l)] (bldG tg (.ptr E0 0) n f) (fun r hl => r = .tup [bvi l.length, nilE] ∧ hl = bldWG tg (n + l.length) (fcat f n (bytesF l))) := by
  refine LSpec.run (tysXOk false [] [(113, [])] []) followsB Tryz.func63 (by decide) rfl Tryz.ntmps63 (Nat.le_of_ble_eq_true rfl) rfl rfl fun w0 R0 Lo hGw => ?_
  conv => whnf
  refine ⟨_, cc_usedG tg htg n f, ?_⟩
  rintro q hq ⟨rfl, rfl⟩
  conv => whnf
  refine ⟨⟨by omega, by omega, by simp only [ty5]; omega⟩, ?_⟩
  conv => whnf
  refine ⟨_, _, .refl _, ?_, rfl, rfl⟩
  exact ⟨OLe.refl _, OLe.refl _, trivial⟩
theorem writeS_freshG (tg : TypeId) (htg : LiesB tg) (n : Nat) (f : Nat → List D) (l : List UInt8) (h : n + l.length ≤ 2 ^ 40) : LSpec Tryz.prog 63 [.ptr E0 0, .d (.s l)] (bldG tg nilP n f) (fun r hl => r = .tup [bvi l.length, nilE] ∧ hl = bldWG tg (n + l.length) (fcat f n (bytesF l))) := by
  refine LSpec.run (tysXOk false [] [(113, [])] []) followsB Tryz.func63 (by decide) rfl Tryz.ntmps63 (Nat.le_of_ble_eq_true rfl) rfl rfl fun w0 R0 Lo hGw => ?_
  conv => whnf
  refine ⟨_, cc_freshG tg htg n f, ?_⟩
  rintro q hq ⟨rfl, rfl⟩
  conv => whnf
  refine ⟨⟨by omega, by omega, by simp only [ty5]; omega⟩, ?_⟩
  conv => whnf
  refine ⟨_, _, .refl _, ?_, rfl, rfl⟩
  exact ⟨OLe.refl _, OLe.refl _, trivial⟩
theorem writeS_nilG (tg : TypeId) (htg : LiesB tg) (l : List UInt8) (h : l.length ≤ 2 ^ 40) : LSpec Tryz.prog 63 [.ptr E0 0, .d (.s l)] (bldN tg nilP) (fun r hl => r = .tup [bvi l.length, nilE] ∧ hl = bldWG tg l.length (bytesF l)) := by
  refine LSpec.run (tysXOk false [] [(113, [])] []) followsB Tryz.func63 (by decide) rfl Tryz.ntmps63 (Nat.le_of_ble_eq_true rfl) rfl rfl fun w0 R0 Lo hGw => ?_
  conv => whnf
  refine ⟨_, (cc_nilG tg htg), ?_⟩
  rintro q hq ⟨rfl, rfl⟩
  conv => whnf
  refine ⟨⟨by omega, by simp only [ty5]; omega⟩, ?_⟩
  conv => whnf
  refine ⟨_, _, .refl _, ?_, rfl, rfl⟩
  exact ⟨OLe.refl _, OLe.refl _, trivial⟩
theorem len_specG (tg : TypeId) (htg : LiesB tg) (p : AVal) (n : Nat) (f : Nat → List D) (hp : p = .ptr E0 0 ∨ p = nilP) : LSpec Tryz.prog 67 [.ptr E0 0] (bldG tg p n f) (fun r hl => r = bvi n ∧ hl = bldG tg p n f) := by
  rcases hp with rfl | rfl
  all_goals
    refine LSpec.run (tysOk) followsB Tryz.func67 (by decide) rfl Tryz.ntmps67 (Nat.le_of_ble_eq_true rfl) rfl rfl fun w0 R0 Lo hGw => ?_
    conv => whnf
    refine ⟨_, _, .refl _, ?_, rfl, rfl⟩
    exact ⟨OLe.refl _, OLe.refl _, trivial⟩
/-- What it holds, as a text; it is not written any more. -/
theorem str_specG (tg : TypeId) (htg : LiesB tg) (p : AVal) (n : Nat) (f : Nat → List D) (l : List UInt8) (hn0 : 0 < n) (hl : l.length = n) (hf : ∀ k, k < n → f k = bytesF l k) : LSpec Tryz.prog 65 [.ptr E0 0] (bldG tg p n f) (fun r hl => r = .d (.s l) ∧ hl = []) := by
  refine LSpec.raw fn_str rfl fun C L w vs hw0 hnt H hz ha => ?_
  have h0 := ha 0 _ rfl
  have hE0 : lko (bldG tg p n f) E0 = some (.box [p, .rsl E1 1 0 n] (some tg)) := rfl
  have hE1 : lko (bldG tg p n f) E1 = some (.row 5 1 n f) := rfl
  have hbox := H.obj E0 _ hE0
  have hrow := H.obj E1 _ hE1
  obtain ⟨v0, rfl⟩ : ∃ v, vs = #[v] := by
    obtain ⟨l⟩ := vs
    match l, hz with
    | [v], _ => exact ⟨v, rfl⟩
  generalize hv0 : (#[v0] : Array Value).getD 0 undef = u at h0
  have hv0 : v0 = u := hv0
  subst hv0
  have hempty : lko [] = fun j => (none : Option AObj) := by funext j; rfl
  cases h0 with
  | @ptr _ _ _ b hb =>
    cases hbox with
    | @box _ _ cs t b' htag hb' hh hz h1 hr =>
      rw [hb] at hb'
      cases hb'
      have ht := (htag _ rfl).symm
      subst ht
      have hsz : cs.size = 2 := hz
      obtain ⟨c0, c1, rfl⟩ : ∃ c0 c1, cs = #[c0, c1] := by
        obtain ⟨l⟩ := cs
        match l, hsz with
        | [x, y], _ => exact ⟨x, y, rfl⟩
      have hsl := hr 1 _ rfl
      generalize hc1 : (#[c0, c1] : Array Value).getD 1 undef = s at hsl
      have hc1 : c1 = s := hc1
      subst hc1
      cases hsl with
      | @rsl _ _ _ _ _ ad hcap hbb had =>
        have had := had (.inl rfl)
        -- a text that is empty
        have empty : ∀ w', Below w.heap.size w w' → Rel C L (fun _ => .any) (lko []) ⟨#[], []⟩ w' := fun w' hbel =>
          (H.world hbel fun b hb => hbel.block b hb).drop fun i o e => by cases e
        cases hrow with
        | row0 hb1 hcap0 => omega
        | @row _ _ _ _ cur g t9 mk9 hb1 hh1 hn1 hm1 hz1 hf1 hr1 hty9 hmk9 =>
          obtain rfl := hty9 (by decide)
          obtain rfl : mk9 = (0, 0) := hmk9.resolve_right fun h => absurd h.1 (by decide)
          rw [hb1] at had
          simp only [Option.map_some, Nat.zero_mul] at had
          subst had
          rcases Nat.eq_zero_or_pos n with h0 | h0
          · omega
          · subst hl
            have hne : l ≠ [] := by intro e; subst e; simp at h0
            refine (Go.Proofs.Tryz.bldStringG Tryz.lays169 Tryz.Builder_Extra_169 b g (L.cap E1) cur c0 l w tg hne (show w.heap[b]? = some (.cells #[c0, .slice (some ⟨g, 0, none⟩) l.length (L.cap E1)] tg (0, 0)) by simpa using hh) hh1 hn1 hm1 (by simpa using hz1) (fun j x hx => ?_)).mono ?_
            · have hj : j < l.length := (List.getElem?_eq_some_iff.1 hx).1
              have h3 := hr1 j hj 0 (.i .u8 ((l.getD j 0).toNat : Nat)) (by rw [hf j hj]; rfl)
              have h4 : cur.getD (j * 1 + 0) undef = .int .u8 ((l.getD j 0).toNat : Nat) := repA_i (L := L) (RepA.d h3)
              rw [cell_of_row w g j cur _ (0, 0) hh1]
              have hlt : j < cur.size := by rw [hz1]; omega
              rw [Array.getD_eq_getD_getElem?] at h4
              simp only [Nat.mul_one, Nat.add_zero, Array.getElem?_eq_getElem hlt, Option.getD_some] at h4
              rw [Array.getElem?_eq_getElem hlt, h4]
              rw [List.getD_eq_getElem?_getD, hx]
              rfl
            · rintro e w' ⟨rfl, rfl⟩
              have hgone := H.gone (w' := w.drew.freeze ⟨g, 0, none⟩ l.length) hE1 (by unfold World.freeze; split <;> rfl) (by unfold World.freeze; split <;> rfl) (by unfold World.freeze; split <;> rfl) (by unfold World.freeze; split <;> simp) (fun b' hb' hne' => by
                have hne2 : g ≠ b' := fun e => hne' (by rw [hb1, e])
                unfold World.freeze
                split
                · rfl
                · simp [Array.getElem?_modify, hne2]
                  rfl)
              exact ⟨_, _, _, L, rfl, ⟨rfl, rfl⟩, hgone.drop (fun i o e => by cases e), .d (.s l)⟩
end Go.Proofs.YtjdmnfjgmbnlbaaGreatDoor
