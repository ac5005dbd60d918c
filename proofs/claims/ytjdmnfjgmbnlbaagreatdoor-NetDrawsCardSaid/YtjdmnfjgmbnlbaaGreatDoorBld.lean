/- Package strings' Builder: functions that are lent it. -/
import Derived.Test.YtjdmnfjgmbnlbaaGreatDoorFol
import Derived.Test.YtjdmnfjgmbnlbaaGreatDoorTys
import Derived.Test.YtjdmnfjgmbnlbaaGreatDoorShelf
import Derived.Shelf.RegionOpenPlain
namespace Go.Proofs.YtjdmnfjgmbnlbaaGreatDoor
open Go Go.RowKit Towline
set_option linter.unusedVariables false
set_option linter.unusedSimpArgs false
set_option maxRecDepth 100000
set_option maxHeartbeats 2000000
abbrev E0 : Nat := 1000000000
abbrev E1 : Nat := 1000000001
abbrev nilP : AVal := .d (.v (.pointer none))
/-- A Builder: its own address (once it is written), its bytes. -/
abbrev bldH (p : AVal) (n : Nat) (f : Nat → List D) : Heap := [(E0, .box [p, .rsl E1 1 0 n] (some 93)), (E1, .row 5 1 n f)]
theorem lays240 : Go.Proofs.Lays.n240 Tryz.prog Tryz.lays165_ren := { Tryz.lays165 with }
theorem fn_cc : ∃ fn c, Tryz.prog.funcs[113]? = some fn ∧ (fn.name == "runtime.NumGoroutine") = false ∧ fn.body = some c := ⟨_, _, Tryz.func113, by decide, rfl⟩
/-- A written one is found in order. -/
theorem cc_used (n : Nat) (f : Nat → List D) : LSpec Tryz.prog 113 [.ptr E0 0] (bldH (.ptr E0 0) n f) (fun r hl => r = .tup [] ∧ hl = bldH (.ptr E0 0) n f) := by
  refine LSpec.raw fn_cc rfl fun C L w vs hw0 hnt H hz ha => ?_
  have h0 := ha 0 _ rfl
  have hbox := H.obj E0 _ (show lko (bldH (.ptr E0 0) n f) E0 = some (.box [.ptr E0 0, .rsl E1 1 0 n] (some 93)) from rfl)
  obtain ⟨v0, rfl⟩ : ∃ v, vs = #[v] := by
    obtain ⟨l⟩ := vs
    match l, hz with
    | [v], _ => exact ⟨v, rfl⟩
  generalize hv0 : (#[v0] : Array Value).getD 0 undef = u at h0
  have hv0 : v0 = u := hv0
  subst hv0
  cases h0 with
  | @ptr _ _ _ b hb =>
    cases hbox with
    | @box _ _ cs t b' htag hb' hh hz h1 hr =>
      rw [hb] at hb'
      cases hb'
      have hc0 := hr 0 _ rfl
      have hcell : w.cell? ⟨b, 0, none⟩ = some (.pointer (some ⟨b, 0, none⟩)) := by
        rw [cell_of_row w b 0 cs t (0, 0) hh]
        have hlt : 0 < cs.size := by rw [hz]; exact Nat.zero_lt_succ _
        rw [Array.getD_eq_getD_getElem?, Array.getElem?_eq_getElem hlt] at hc0
        rw [Array.getElem?_eq_getElem hlt]
        generalize hq : (some cs[0]).getD undef = q at hc0
        have hq : cs[0] = q := hq
        cases hc0 with
        | ptr h => rw [hb] at h; cases h; rw [hq]
      refine (Any.Builder_copyCheck_used lays240 Tryz.Builder_Extra_165.toX72 b w hcell).mono ?_
      rintro e w' ⟨rfl, rfl⟩
      exact ⟨_, _, _, L, rfl, ⟨rfl, rfl⟩, H, .tup rfl fun i x hx => by simp at hx⟩
/-- A new one notes its own address. -/
theorem cc_fresh (n : Nat) (f : Nat → List D) : LSpec Tryz.prog 113 [.ptr E0 0] (bldH nilP n f) (fun r hl => r = .tup [] ∧ hl = bldH (.ptr E0 0) n f) := by
  refine LSpec.raw fn_cc rfl fun C L w vs hw0 hnt H hz ha => ?_
  have h0 := ha 0 _ rfl
  have hbox := H.obj E0 _ (show lko (bldH nilP n f) E0 = some (.box [nilP, .rsl E1 1 0 n] (some 93)) from rfl)
  obtain ⟨v0, rfl⟩ : ∃ v, vs = #[v] := by
    obtain ⟨l⟩ := vs
    match l, hz with
    | [v], _ => exact ⟨v, rfl⟩
  generalize hv0 : (#[v0] : Array Value).getD 0 undef = u at h0
  have hv0 : v0 = u := hv0
  subst hv0
  cases h0 with
  | @ptr _ _ _ b hb =>
    have hbox' := hbox
    cases hbox with
    | @box _ _ cs t b' htag hb' hh hz h1 hr =>
      rw [hb] at hb'
      cases hb'
      have ht := htag _ rfl
      subst ht
      have hsz : cs.size = 2 := hz
      have hc0 := hr 0 _ rfl
      have hlt : 0 < cs.size := by omega
      have hcs0 : cs[0] = .pointer none := by
        rw [Array.getD_eq_getD_getElem?, Array.getElem?_eq_getElem hlt] at hc0
        exact repA_v hc0
      have hcell : w.cell? ⟨b, 0, none⟩ = some (.pointer none) := by
        rw [cell_of_row w b 0 cs _ (0, 0) hh, Array.getElem?_eq_getElem hlt, hcs0]
      have hblt : b < w.heap.size := lt_of_heap hh
      refine (Any.Builder_copyCheck_fresh lays240 Tryz.Builder_Extra_165.toX72 b w hcell (by simp [World.shape?, hh, hsz]; rfl) (by simp [World.frozen?, hh])).mono ?_
      rintro e w' ⟨rfl, rfl⟩
      have hset := H.set (o' := .box [.ptr E0 0, .rsl E1 1 0 n] (some 93)) (w' := w.setCell ⟨b, 0, none⟩ (.pointer (some ⟨b, 0, none⟩))) (show lko (bldH nilP n f) E0 = some (.box [nilP, .rsl E1 1 0 n] (some 93)) from rfl) hb rfl rfl rfl (by simp [World.setCell]) (fun b' hne => by simp [World.setCell, Array.getElem?_modify, Ne.symm hne]) (fun gd' hst hold => by
        refine .box (cs := cs.setIfInBounds 0 (.pointer (some ⟨b, 0, none⟩))) (fun t' h => by cases h; rfl) hb (by simp [World.setCell, Array.getElem?_modify, hh]) (by simp [hsz]) (fun i hi => ?_) (fun i x hx => ?_)
        · have := h1 i hi
          rw [Array.getD_eq_getD_getElem?, Array.getElem?_setIfInBounds]
          split
          · rename_i e; subst e; simp [hlt, Value.oneCell']
          · rw [← Array.getD_eq_getD_getElem?]; exact this
        · match i, hx with
          | 0, hx =>
            cases hx
            rw [Array.getD_eq_getD_getElem?, Array.getElem?_setIfInBounds, if_pos rfl, if_pos hlt]
            exact .ptr hb
          | 1, hx =>
            cases hx
            have := hr 1 _ rfl
            rw [Array.getD_eq_getD_getElem?, Array.getElem?_setIfInBounds, if_neg (by decide), ← Array.getD_eq_getD_getElem?]
            exact this.nm rfl)
      refine ⟨_, _, _, L, rfl, ⟨rfl, rfl⟩, ?_, .tup rfl fun i x hx => by simp at hx⟩
      have e : lko (bldH (.ptr E0 0) n f) = hput (lko (bldH nilP n f)) E0 (.box [.ptr E0 0, .rsl E1 1 0 n] (some 93)) := by
        funext j
        show lookO j _ = _
        unfold hput
        by_cases hj : j = E0
        · subst hj; rfl
        · rw [if_neg hj]
          rw [show bldH (.ptr E0 0) n f = (E0, .box [.ptr E0 0, .rsl E1 1 0 n] (some 93)) :: [(E1, .row 5 1 n f)] from rfl, show bldH nilP n f = (E0, .box [nilP, .rsl E1 1 0 n] (some 93)) :: [(E1, .row 5 1 n f)] from rfl]
          rw [lookO_cons E0, if_neg hj]
          show _ = lookO j _
          rw [lookO_cons E0, if_neg hj]
      rw [e]
      exact hset
/-- A Builder behind a write. -/
abbrev bldW (n : Nat) (f : Nat → List D) : Heap := [(E0, .box [.ptr E0 0, .rsl 14 1 0 n] (some 93)), (14, .row 5 1 n f)]
abbrev bvi (n : Int) : AVal := .d (.i .i64 n)
abbrev nilE : AVal := .d (.v .nilIface)
theorem write_used (n m : Nat) (f g : Nat → List D) (h : n + m ≤ 2 ^ 40) : LSpec Tryz.prog 317 [.ptr E0 0, .d (.sl 1 m g)] (bldH (.ptr E0 0) n f) (fun r hl => r = .tup [bvi m, nilE] ∧ hl = bldW (n + m) (fcat f n g)) := by
  refine LSpec.run (tysXOk false [] [(113, [])] []) followsB Tryz.func317 (by decide) rfl Tryz.ntmps317 (Nat.le_of_ble_eq_true rfl) rfl rfl fun w0 R0 Lo hGw => ?_
  conv => whnf
  refine ⟨_, cc_used n f, ?_⟩
  rintro q hq ⟨rfl, rfl⟩
  conv => whnf
  refine ⟨⟨by omega, by omega, by simp only [ty5]; omega⟩, ?_⟩
  conv => whnf
  refine ⟨_, _, .refl _, ?_, rfl, rfl⟩
  exact ⟨OLe.refl _, OLe.refl _, trivial⟩
theorem write_fresh (n m : Nat) (f g : Nat → List D) (h : n + m ≤ 2 ^ 40) : LSpec Tryz.prog 317 [.ptr E0 0, .d (.sl 1 m g)] (bldH nilP n f) (fun r hl => r = .tup [bvi m, nilE] ∧ hl = bldW (n + m) (fcat f n g)) := by
  refine LSpec.run (tysXOk false [] [(113, [])] []) followsB Tryz.func317 (by decide) rfl Tryz.ntmps317 (Nat.le_of_ble_eq_true rfl) rfl rfl fun w0 R0 Lo hGw => ?_
  conv => whnf
  refine ⟨_, cc_fresh n f, ?_⟩
  rintro q hq ⟨rfl, rfl⟩
  conv => whnf
  refine ⟨⟨by omega, by omega, by simp only [ty5]; omega⟩, ?_⟩
  conv => whnf
  refine ⟨_, _, .refl _, ?_, rfl, rfl⟩
  exact ⟨OLe.refl _, OLe.refl _, trivial⟩
theorem writeS_used (n : Nat) (f : Nat → List D) (l : List UInt8) (h : n + l.length ≤ 2 ^ 40) : LSpec Tryz.prog 63 [.ptr E0 0, .d (.s l)] (bldH (.ptr E0 0) n f) (fun r hl => r = .tup [bvi l.length, nilE] ∧ hl = bldW (n + l.length) (fcat f n (bytesF l))) := by
  refine LSpec.run (tysXOk false [] [(113, [])] []) followsB Tryz.func63 (by decide) rfl Tryz.ntmps63 (Nat.le_of_ble_eq_true rfl) rfl rfl fun w0 R0 Lo hGw => ?_
  conv => whnf
  refine ⟨_, cc_used n f, ?_⟩
  rintro q hq ⟨rfl, rfl⟩
  conv => whnf
  refine ⟨⟨by omega, by omega, by simp only [ty5]; omega⟩, ?_⟩
  conv => whnf
  refine ⟨_, _, .refl _, ?_, rfl, rfl⟩
  exact ⟨OLe.refl _, OLe.refl _, trivial⟩
theorem writeS_fresh (n : Nat) (f : Nat → List D) (l : List UInt8) (h : n + l.length ≤ 2 ^ 40) : LSpec Tryz.prog 63 [.ptr E0 0, .d (.s l)] (bldH nilP n f) (fun r hl => r = .tup [bvi l.length, nilE] ∧ hl = bldW (n + l.length) (fcat f n (bytesF l))) := by
  refine LSpec.run (tysXOk false [] [(113, [])] []) followsB Tryz.func63 (by decide) rfl Tryz.ntmps63 (Nat.le_of_ble_eq_true rfl) rfl rfl fun w0 R0 Lo hGw => ?_
  conv => whnf
  refine ⟨_, cc_fresh n f, ?_⟩
  rintro q hq ⟨rfl, rfl⟩
  conv => whnf
  refine ⟨⟨by omega, by omega, by simp only [ty5]; omega⟩, ?_⟩
  conv => whnf
  refine ⟨_, _, .refl _, ?_, rfl, rfl⟩
  exact ⟨OLe.refl _, OLe.refl _, trivial⟩
theorem len_spec (p : AVal) (n : Nat) (f : Nat → List D) (hp : p = .ptr E0 0 ∨ p = nilP) : LSpec Tryz.prog 67 [.ptr E0 0] (bldH p n f) (fun r hl => r = bvi n ∧ hl = bldH p n f) := by
  rcases hp with rfl | rfl
  all_goals
    refine LSpec.run (tysOk) followsB Tryz.func67 (by decide) rfl Tryz.ntmps67 (Nat.le_of_ble_eq_true rfl) rfl rfl fun w0 R0 Lo hGw => ?_
    conv => whnf
    refine ⟨_, _, .refl _, ?_, rfl, rfl⟩
    exact ⟨OLe.refl _, OLe.refl _, trivial⟩
end Go.Proofs.YtjdmnfjgmbnlbaaGreatDoor
namespace Go.Proofs
open Go.Shelf Go.RowKit
/-- String, of a Builder that holds bytes, to the letter of the world behind it. -/
theorem Tryz.bldString {P : Program} {ρ : Ren} (L : Lays.n169 P ρ) (X : Builder.Extra P ρ) (b g cap : Nat) (cur : Array Value) (p : Value) (l : List UInt8) (w : World) (h0 : l ≠ []) (hbk : w.heap[b]? = some (.cells #[p, .slice (some ⟨g, 0, none⟩) l.length cap] (ρ.t 72) (0, 0))) (hg : w.heap[g]? = some (.cells cur (ρ.t 5) (0, 0)))
    (hnc : l.length ≤ cap) (hcm : cap ≤ maxLen) (hcs : cur.size = cap) (hcells : ∀ j x, l[j]? = some x → w.cell? ⟨g, j, none⟩ = some (.int .u8 x.toNat)) :
    Calls P (ρ.f 169) #[.pointer (some ⟨b, 0, none⟩)] w fun e w' => e = .returned (.string ⟨l.toArray⟩) ∧ w' = w.drew.freeze ⟨g, 0, none⟩ l.length := by
  have hl0 : l.length ≠ 0 := by simpa using h0
  have c1 : w.drew.cell? ⟨b, 1, none⟩ = some (.slice (some ⟨g, 0, none⟩) l.length cap) := by
    have : w.drew.heap[b]? = some (.cells #[p, .slice (some ⟨g, 0, none⟩) l.length cap] (ρ.t 72) (0, 0)) := hbk
    rw [Lib.cell_of_heap this]; rfl
  have hSD : (Builtin.unsafeSliceData_ #[(ρ.t 37)] (ρ.t 127) #[.slice (some ⟨g, 0, none⟩) l.length cap]).run P w.drew = .ok (.pointer (some ⟨g, 0, none⟩)) w.drew :=
    Lib.run_unsafeSliceData_row _ _ _ _ _ _ (by omega)
  have hUS : (Builtin.unsafeString_ #[(ρ.t 127), (ρ.t 3)] (ρ.t 9) #[.pointer (some ⟨g, 0, none⟩), .int .i64 l.length]).run P w.drew = .ok (.string ⟨l.toArray⟩) (w.drew.freeze ⟨g, 0, none⟩ l.length) := by
    refine Lib.run_unsafeString_row w.drew (ρ.t 127) (ρ.t 3) (ρ.t 9) (ρ.t 5) L.t127 X.cellsByte g cur.size (by have hg' : w.drew.heap[g]? = some (.cells cur (ρ.t 5) (0, 0)) := hg; simp [World.shape?, hg']) l h0 (by omega) (by unfold maxLen at hcm; omega) ?_
    intro j x hx
    have e : (⟨g, 0, none⟩ : Addr).add j = ⟨g, j, none⟩ := by unfold Addr.add; split <;> simp_all
    rw [e]
    exact hcells j x hx
  have mixed := L.mixed
  have t72 := L.t72; have a72 := L.a72; have z72 := L.z72; have v72 := L.v72; have u72 := run_underlying L.t72
  have t70 := L.t70; have a70 := L.a70; have z70 := L.z70; have v70 := L.v70; have u70 := run_underlying L.t70
  have t37 := L.t37; have a37 := L.a37; have z37 := L.z37; have v37 := L.v37; have u37 := run_underlying L.t37
  have t127 := L.t127; have a127 := L.a127; have z127 := L.z127; have v127 := L.v127; have u127 := run_underlying L.t127
  have t3 := L.t3; have a3 := L.a3; have z3 := L.z3; have v3 := L.v3; have u3 := run_underlying L.t3
  have t9 := L.t9; have a9 := L.a9; have z9 := L.z9; have v9 := L.v9; have u9 := run_underlying L.t9
  have t5 := X.t5; have a5 := X.a5; have z5 := X.z5; have v5 := X.v5; have u5 := run_underlying X.t5
  clear hcells
  go_enter L.f169, Body.n169_ntmps ρ
  go_wp2
  go_region_o
  all_goals (go_wp2; go_ret; exact ⟨rfl, rfl⟩)
end Go.Proofs
namespace Go.Proofs.YtjdmnfjgmbnlbaaGreatDoor
open Go Go.RowKit Towline
set_option linter.unusedVariables false
set_option linter.unusedSimpArgs false
theorem fn_str : ∃ fn c, Tryz.prog.funcs[65]? = some fn ∧ (fn.name == "runtime.NumGoroutine") = false ∧ fn.body = some c := ⟨_, _, Tryz.func65, by decide, rfl⟩
/-- What it holds, as a text; it is not written any more. -/
theorem str_spec (p : AVal) (n : Nat) (f : Nat → List D) (l : List UInt8) (hl : l.length = n) (hf : ∀ k, k < n → f k = bytesF l k) : LSpec Tryz.prog 65 [.ptr E0 0] (bldH p n f) (fun r hl => r = .d (.s l) ∧ hl = []) := by
  refine LSpec.raw fn_str rfl fun C L w vs hw0 hnt H hz ha => ?_
  have h0 := ha 0 _ rfl
  have hE0 : lko (bldH p n f) E0 = some (.box [p, .rsl E1 1 0 n] (some 93)) := rfl
  have hE1 : lko (bldH p n f) E1 = some (.row 5 1 n f) := rfl
  have hbox := H.obj E0 _ hE0
  have hrow := H.obj E1 _ hE1
  obtain ⟨v0, rfl⟩ : ∃ v, vs = #[v] := by
    obtain ⟨l⟩ := vs
    match l, hz with
    | [v], _ => exact ⟨v, rfl⟩
  generalize hv0 : (#[v0] : Array Value).getD 0 undef = u at h0
  have hv0 : v0 = u := hv0
  subst hv0
  have hempty : lko [] = fun j => (none : Option AObj) := by funext j; rfl
  cases h0 with
  | @ptr _ _ _ b hb =>
    cases hbox with
    | @box _ _ cs t b' htag hb' hh hz h1 hr =>
      rw [hb] at hb'
      cases hb'
      have ht := htag _ rfl
      subst ht
      have hsz : cs.size = 2 := hz
      obtain ⟨c0, c1, rfl⟩ : ∃ c0 c1, cs = #[c0, c1] := by
        obtain ⟨l⟩ := cs
        match l, hsz with
        | [x, y], _ => exact ⟨x, y, rfl⟩
      have hsl := hr 1 _ rfl
      generalize hc1 : (#[c0, c1] : Array Value).getD 1 undef = s at hsl
      have hc1 : c1 = s := hc1
      subst hc1
      cases hsl with
      | @rsl _ _ _ _ _ ad hcap hbb had =>
        have had := had (.inl rfl)
        -- a text that is empty
        have empty : ∀ w', Below w.heap.size w w' → Rel C L (fun _ => .any) (lko []) ⟨#[], []⟩ w' := fun w' hbel =>
          (H.world hbel fun b hb => hbel.block b hb).drop fun i o e => by cases e
        cases hrow with
        | row0 hb1 hcap0 =>
          have : l = [] := List.eq_nil_of_length_eq_zero hl
          subst this
          rw [hb1] at had
          have had : ad = none := had
          subst had
          rw [hcap0] at hh
          refine (Any.Builder_String_nil Tryz.lays169 Tryz.Builder_Extra_169 w.heap.size b c0 w hh).mono ?_
          rintro e w' ⟨rfl, hbel⟩
          exact ⟨_, _, _, L, rfl, ⟨rfl, rfl⟩, empty w' hbel, .d (.s [])⟩
        | @row _ _ _ _ cur g t9 mk9 hb1 hh1 hn1 hm1 hz1 hf1 hr1 hty9 hmk9 =>
          obtain rfl := hty9 (by decide)
          obtain rfl : mk9 = (0, 0) := hmk9.resolve_right fun h => absurd h.1 (by decide)
          rw [hb1] at had
          simp only [Option.map_some, Nat.zero_mul] at had
          subst had
          rcases Nat.eq_zero_or_pos n with h0 | h0
          · have : l = [] := List.eq_nil_of_length_eq_zero (by omega)
            subst this
            subst h0
            by_cases hcz : L.cap E1 = 0
            · rw [hcz] at hh
              refine (Any.Builder_String_noroom Tryz.lays169 Tryz.Builder_Extra_169 w.heap.size b g c0 cur w (Nat.le_refl _) hh hh1).mono ?_
              rintro e w' ⟨rfl, hbel⟩
              exact ⟨_, _, _, L, rfl, ⟨rfl, rfl⟩, empty w' hbel, .d (.s [])⟩
            · refine (Any.Builder_String_room Tryz.lays169 Tryz.Builder_Extra_169 w.heap.size b g (L.cap E1 - 0) c0 w (by simpa using hcz) hh).mono ?_
              rintro e w' ⟨rfl, hbel⟩
              exact ⟨_, _, _, L, rfl, ⟨rfl, rfl⟩, empty w' hbel, .d (.s [])⟩
          · subst hl
            have hne : l ≠ [] := by intro e; subst e; simp at h0
            refine (Go.Proofs.Tryz.bldString Tryz.lays169 Tryz.Builder_Extra_169 b g (L.cap E1) cur c0 l w hne (show w.heap[b]? = some (.cells #[c0, .slice (some ⟨g, 0, none⟩) l.length (L.cap E1)] 93 (0, 0)) by simpa using hh) hh1 hn1 hm1 (by simpa using hz1) (fun j x hx => ?_)).mono ?_
            · have hj : j < l.length := (List.getElem?_eq_some_iff.1 hx).1
              have h3 := hr1 j hj 0 (.i .u8 ((l.getD j 0).toNat : Nat)) (by rw [hf j hj]; rfl)
              have h4 : cur.getD (j * 1 + 0) undef = .int .u8 ((l.getD j 0).toNat : Nat) := repA_i (L := L) (RepA.d h3)
              rw [cell_of_row w g j cur _ (0, 0) hh1]
              have hlt : j < cur.size := by rw [hz1]; omega
              rw [Array.getD_eq_getD_getElem?] at h4
              simp only [Nat.mul_one, Nat.add_zero, Array.getElem?_eq_getElem hlt, Option.getD_some] at h4
              rw [Array.getElem?_eq_getElem hlt, h4]
              rw [List.getD_eq_getElem?_getD, hx]
              rfl
            · rintro e w' ⟨rfl, rfl⟩
              have hgone := H.gone (w' := w.drew.freeze ⟨g, 0, none⟩ l.length) hE1 (by unfold World.freeze; split <;> rfl) (by unfold World.freeze; split <;> rfl) (by unfold World.freeze; split <;> rfl) (by unfold World.freeze; split <;> simp) (fun b' hb' hne' => by
                have hne2 : g ≠ b' := fun e => hne' (by rw [hb1, e])
                unfold World.freeze
                split
                · rfl
                · simp [Array.getElem?_modify, hne2]
                  rfl)
              exact ⟨_, _, _, L, rfl, ⟨rfl, rfl⟩, hgone.drop (fun i o e => by cases e), .d (.s l)⟩
end Go.Proofs.YtjdmnfjgmbnlbaaGreatDoor
