/- The engine: texts and noughts put behind rows of bytes; rows of bytes as texts; arrays as slices. Over any program. -/
import Derived.Test.YtjdmnfjgmbnlbaaGreatDoorEngR
import Derived.Deep.AppendSrc
import Derived.Laws.BytesArg
namespace Towline
open Go Go.RowKit
set_option linter.unusedVariables false
set_option linter.unusedSimpArgs false
set_option maxRecDepth 100000
section
variable {P : Program} {T : Tys} {w : World} {gd : Nat → Prop} {L : Lay} {g : Nat → AVal} {h : Nat → Option AObj} {a : Act}
/-- What an append does with what x holds, wherever it is put. -/
structure AppRuns (P : Program) (w : World) (t tx ty e : TypeId) (i : TypeInfo) (z x : Value) (m : Nat) (news : List Value) : Prop where
  len : news.length = m * i.size
  one : ∀ u ∈ news, u.oneCell' = true
  room : ∀ (b n cap : Nat) (cur : Array Value), w.heap[b]? = some (.cells cur e (0, 0)) → n + m ≤ cap → n * i.size + news.length ≤ cur.size →
    (Builtin.append_ #[t, tx] ty #[.slice (some ⟨b, 0, none⟩) n cap, x]).run P w = .ok (.slice (some ⟨b, 0, none⟩) (n + m) cap) (w.setRow b (cur.toList.take (n * i.size) ++ news ++ cur.toList.drop (n * i.size + news.length)).toArray)
  nil0 : m = 0 → (Builtin.append_ #[t, tx] ty #[.slice none 0 0, x]).run P w = .ok (.slice none 0 0) w
  grow : ∀ (base : Option Addr) (n cap : Nat) (olds : List Value), (Builtin.firstCells i.size n (.slice base n cap)).run P w.drew = .ok olds.toArray w.drew → cap < n + m → n + m ≤ 9223372036854775807 → Builtin.nextslicecap (n + m) cap * i.bytes ≤ 281474976710656 →
    (Builtin.append_ #[t, tx] ty #[.slice base n cap, x]).run P w = .ok (.slice (some ⟨w.heap.size, 0, none⟩) (n + m) (grownCap w (n + m) cap e))
      (w.drew.alloc (.cells ((olds ++ news).toArray ++ Builtin.zeroCells z.cells (grownCap w (n + m) cap e - (n + m))) e))
theorem AppRuns.ofSrc {t tx ty e : TypeId} {i : TypeInfo} {z x : Value} {m : Nat} {news : List Value} (ht : P.underlying t = some (.slice e)) (hi : P.info? e = some i) (hz : i.zero = some z) (hs : Src P i.size tx x m news w) : AppRuns P w t tx ty e i z x m news where
  len := hs.newsLen
  one := hs.one
  room b n cap cur hb hroom hfit := by
    have hst := run_storeCells_at P b (n * i.size) e news 0 cur w hb (by simpa using hfit) hs.one
    simp only [Nat.add_zero] at hst
    rcases hs.kind with ⟨e', hk⟩ | hk <;> simp [Builtin.append_, run_underlying ht, run_underlying hk, Go.sizeOf, typeInfo, hi, hs.len, hroom, hs.cells, Addr.add_lit, hst]
  nil0 hm := by
    subst hm
    have hkind := hs.kind
    have hn : news = [] := List.eq_nil_of_length_eq_zero (by simpa using hs.newsLen)
    have hc := hs.cells
    rw [hn] at hc
    have hl := hs.len w
    clear hs
    rcases hkind with ⟨e', hk⟩ | hk <;> simp [Builtin.append_, run_underlying ht, run_underlying hk, Go.sizeOf, typeInfo, hi, hl, hc]
  grow base n cap olds hold hg h63 hfit := run_append_grow_src w t tx ty e i z ht hi hz base n cap olds hold x m news hs hg (by omega) hfit
theorem AppRuns.ofZeros {t tx ty e : TypeId} {i : TypeInfo} {z : Value} {m : Nat} (ht : P.underlying t = some (.slice e)) (hk : P.underlying tx = some (.int .i64)) (hi : P.info? e = some i) (hz : i.zero = some z) (hzs : z.cells.size = i.size) (h1 : ∀ u ∈ z.cells.toList, u.oneCell' = true) (hpos : 0 < i.size)
    (hm : m ≤ 9223372036854775807) (hb : m * i.bytes ≤ 281474976710656) : AppRuns P w t tx ty e i z (.int .i64 m) m (Builtin.zeroCells z.cells m).toList := by
  have hw : IntKind.i64.wrap (m : Int) = m := IntWalk.i64_in _ (by omega)
  have h48 : ¬ ((281474976710656 : Int) < (m : Int) * (i.bytes : Int)) := by
    have h2 : ((m * i.bytes : Nat) : Int) ≤ ((281474976710656 : Nat) : Int) := Int.ofNat_le.2 hb
    rw [Int.natCast_mul] at h2
    exact fun h3 => absurd (Int.lt_of_lt_of_le h3 h2) (Int.lt_irrefl _)
  have hneg : ¬ ((m : Int) < 0) := by omega
  have hlen : (Builtin.zeroCells z.cells m).toList.length = m * i.size := by simp [size_zeroCells, hzs]
  have hone : ∀ u ∈ (Builtin.zeroCells z.cells m).toList, u.oneCell' = true := by
    intro u hu
    simp only [Builtin.zeroCells, Array.toList_map, List.mem_map, Array.toList_range, List.mem_range] at hu
    obtain ⟨k, hk', rfl⟩ := hu
    have hpos' : 0 < z.cells.size := by omega
    have hlt := Nat.mod_lt k hpos'
    refine h1 _ ?_
    rw [getElem!_pos z.cells (k % z.cells.size) hlt]
    simp
  have hw0 : IntKind.i64.wrap 0 = 0 := by decide
  have hz0 : Builtin.zeroCells z.cells 0 = #[] := by simp [Builtin.zeroCells]
  refine ⟨hlen, hone, fun b n cap cur hb' hroom hfit => ?_, fun hm0 => ?_, fun base n cap olds hold hg h63 hfit => ?_⟩
  · have hst := run_storeCells_at P b (n * i.size) e (Builtin.zeroCells z.cells m).toList 0 cur w hb' (by simpa using hfit) hone
    simp only [Nat.add_zero] at hst
    rcases Nat.eq_zero_or_pos m with h0 | h0
    · subst h0
      rw [hz0] at hst ⊢
      simp at hst
      have hroom' : n ≤ cap := by omega
      simp [Builtin.append_, run_underlying ht, run_underlying hk, Go.sizeOf, typeInfo, hi, asInt, asIntOf, hw0, hroom', Addr.add_lit, hst]
    · have h1' : ¬ (m * i.size = 0) := by
        have := Nat.mul_pos h0 hpos
        omega
      have h2' : ¬ (m = 0 ∨ i.size = 0) := by omega
      simp [Builtin.append_, run_underlying ht, run_underlying hk, Go.sizeOf, typeInfo, hi, asInt, asIntOf, hw, h48, hneg, hroom, Addr.add_lit, zeroValue, hz, h1', h2', hst]
  · subst hm0
    simp [Builtin.append_, run_underlying ht, run_underlying hk, Go.sizeOf, typeInfo, hi, asInt, asIntOf, hw0]
  · have hn : ¬ (n + m ≤ cap) := by omega
    have h63' : ¬ (9223372036854775807 < ((n : Int) + (m : Int))) := by omega
    have h48' : ¬ (281474976710656 < Builtin.nextslicecap (n + m) cap * i.bytes) := by omega
    rcases Nat.eq_zero_or_pos m with h0 | h0
    · subst h0
      rw [hz0]
      have hn' : ¬ (n ≤ cap) := by omega
      have h63'' : ¬ (9223372036854775807 < (n : Int)) := by omega
      have h48'' : ¬ (281474976710656 < Builtin.nextslicecap n cap * i.bytes) := by simpa using h48'
      simp [Builtin.append_, run_underlying ht, run_underlying hk, Go.sizeOf, typeInfo, hi, asInt, asIntOf, hw0, hn', h63'', h48'', Question.forced, hold, newRow, grownCap, zeroValue, hz]
    · have h1' : ¬ (m * i.size = 0) := by
        have := Nat.mul_pos h0 hpos
        omega
      have h2' : ¬ (m = 0 ∨ i.size = 0) := by omega
      simp [Builtin.append_, run_underlying ht, run_underlying hk, Go.sizeOf, typeInfo, hi, asInt, asIntOf, hw, h48, hneg, hn, h63', h48', Question.forced, hold, newRow, grownCap, zeroValue, hz, h1', h2']
      congr 2
      apply Array.ext'
      simp [List.append_assoc]
theorem AppRuns.own {t tx ty e : TypeId} {i : TypeInfo} {z x : Value} {m : Nat} {news : List Value} (A : AppRuns P w t tx ty e i z x m news) (hzs : z.cells.size = i.size) (base : Nat) (v : Value) (n : Nat) (xs : List Value) (hown : w.ownsRow base e i.size v n xs)
    (h63 : n + m ≤ maxLen) (hbytes : (n + m) * i.bytes ≤ 140737488355328) (hbase : base ≤ w.heap.size) :
    ∃ v' w', (Builtin.append_ #[t, tx] ty #[v, x]).run P w = .ok v' w' ∧ w'.ownsRow base e i.size v' (n + m) (xs ++ news) ∧ w.grownBy w' v.ownBlock ∧ (v'.ownBlock = v.ownBlock ∨ v'.ownBlock = some w.heap.size) := by
  have hsmall : n + m ≤ 9223372036854775807 := by simp only [maxLen] at h63; omega
  have hxl := hown.1
  have hlen : (xs ++ news).length = (n + m) * i.size := by rw [List.length_append, hxl, A.len, Nat.add_mul]
  have fresh : ∀ (old : Nat) (row : Option Nat), old < n + m →
      (w.drew.alloc (.cells ((xs ++ news).toArray ++ Builtin.zeroCells z.cells (grownCap w (n + m) old e - (n + m))) e)).ownsRow base e i.size (.slice (some ⟨w.heap.size, 0, none⟩) (n + m) (grownCap w (n + m) old e)) (n + m) (xs ++ news) ∧
      w.grownBy (w.drew.alloc (.cells ((xs ++ news).toArray ++ Builtin.zeroCells z.cells (grownCap w (n + m) old e - (n + m))) e)) row := by
    intro old row ho
    have hge := grownCap_ge w (n + m) old e
    have hle : grownCap w (n + m) old e ≤ maxLen := grownCap_le_maxLen w (n + m) old e h63
    have hsz : ((xs ++ news).toArray ++ Builtin.zeroCells z.cells (grownCap w (n + m) old e - (n + m))).size = grownCap w (n + m) old e * i.size := by
      rw [Array.size_append, List.size_toArray, size_zeroCells, hzs, hlen, ← Nat.add_mul, Nat.add_sub_cancel' hge]
    have htake : ((xs ++ news).toArray ++ Builtin.zeroCells z.cells (grownCap w (n + m) old e - (n + m))).toList.take ((n + m) * i.size) = xs ++ news := by
      rw [Array.toList_append, ← hlen]
      exact List.take_left
    exact ⟨⟨hlen, .inr ⟨w.heap.size, _, _, rfl, hbase, heap_alloc_new w.drew _, hge, hle, hsz, htake⟩⟩, rfl, rfl, rfl, by simp, fun k hk _ => heap_alloc_old w.drew _ (by simpa using hk)⟩
  rcases hown.2 with ⟨rfl, rfl⟩ | ⟨g, cap, cur, rfl, hbg, hg, hnc, hcm, hcs, htake⟩
  · obtain rfl : xs = [] := List.eq_nil_of_length_eq_zero (by simpa using hxl)
    rcases Nat.eq_zero_or_pos m with hm | hm
    · have hn : news = [] := List.eq_nil_of_length_eq_zero (by rw [A.len, hm, Nat.zero_mul])
      refine ⟨_, _, A.nil0 hm, ?_, ⟨rfl, rfl, rfl, Nat.le_refl _, fun _ _ _ => rfl⟩, .inl rfl⟩
      rw [hn, hm]
      exact World.ownsRow_nil w base e i.size
    · have hb : m * i.bytes ≤ 140737488355328 := by simpa using hbytes
      obtain ⟨f1, f2⟩ := fresh 0 (Value.ownBlock (.slice none 0 0)) (by omega)
      refine ⟨_, _, A.grow none 0 0 [] (run_firstCells_none w.drew i.size 0 0 0) (by omega) (by omega) (growslice_fits (by omega) (by simpa using hbytes)), ?_, ?_, .inr rfl⟩
      · simpa using f1
      · simpa using f2
  · rcases Nat.lt_or_ge cap (n + m) with hroom | hroom
    · have holds : (Builtin.firstCells i.size n (.slice (some ⟨g, 0, none⟩) n cap)).run P w.drew = .ok xs.toArray w.drew := run_firstCells_some w.drew i.size n ⟨g, 0, none⟩ n cap xs hxl (by simpa using hown.cells (g := g) rfl)
      obtain ⟨f1, f2⟩ := fresh cap (Value.ownBlock (.slice (some ⟨g, 0, none⟩) n cap)) hroom
      exact ⟨_, _, A.grow _ n cap xs holds hroom hsmall (growslice_fits (by omega) hbytes), f1, f2, .inr rfl⟩
    · have hfit : n * i.size + news.length ≤ cur.size := by rw [A.len, hcs, ← Nat.add_mul]; exact Nat.mul_le_mul_right _ hroom
      refine ⟨_, _, A.room g n cap cur hg hroom hfit, ⟨hlen, .inr ⟨g, cap, _, rfl, hbg, setRow_heap w g cur _ e _ hg, hroom, hcm, ?_, ?_⟩⟩, ⟨rfl, rfl, rfl, by simp, fun k _ hk => setRow_other w g k _ (fun e => hk (by simp [Value.ownBlock, e]))⟩, .inl rfl⟩
      · simp only [List.size_toArray, List.length_append, List.length_take, List.length_drop, Array.length_toList]
        omega
      · rw [htake, ← hlen]
        exact List.take_left
theorem append_run2 {o : Oper} {s x : Operand} {t t' : TypeId} {as : Array Operand} {ts : Array TypeId} (has : as.toList = [s, x]) (hts : ts.toList = [t, t']) (ho : o.op = .call { callee := .builtin .append, args := as, argTypes := ts }) {v u v' : Value} {w' : World} (hs : a.eval s = v) (hx : a.eval x = u)
    (hrun : (Builtin.append_ #[t, t'] o.type #[v, u]).run P w = .ok v' w') : (execOp a.eval o).run P w = .ok (.value v') w' := by
  obtain ⟨l1⟩ := as
  obtain ⟨l2⟩ := ts
  simp only at has hts
  subst has hts
  simp only [execOp, ho, resolve, invoke, builtin, Sem.run_bind, Sem.run_pure, Result.andThen_ok, List.map_toArray, List.map_cons, List.map_nil, hs, hx, hrun]
theorem appendX_ok (hT : TysOk P T) (H : Holds w gd L g h a) {t t' e : TypeId} {sz by_ : Nat} {zz : List D} (ht : lookT t T = some ⟨.slice e, sz, by_, zz⟩) {d : TyD} (he : lookT e T = some d) {s x : Operand} {r : Res} {m : Nat} {f2 : Nat → List D} {c : Option Prop} {o : Oper}
    (hsrc : (∀ q, c = some q → q) → ∀ i : TypeInfo, P.info? e = some i → i.zero = some d.zeroVal → i.size = d.size → i.bytes = d.bytes → ∃ news, AppRuns P w t t' o.type e i d.zeroVal (a.eval x) m news ∧ (∀ k, k < m → (f2 k).length = d.size) ∧ ∀ k, k < m → ∀ (j : Nat) y, (f2 k)[j]? = some y → RepD w gd y (news.getD (k * d.size + j) undef))
    (hr : aAppendX e d h (opnd g s) m f2 c = some r) {as : Array Operand} {ts : Array TypeId}
    (has : as.toList = [s, x]) (hts : ts.toList = [t, t']) (ho : o.op = .call { callee := .builtin .append, args := as, argTypes := ts }) : r.Ok P w gd L g h a o := by
  have hd := hT.get he
  obtain ⟨i, i1, i2, i3, i4⟩ := hd.info'
  obtain ⟨c1, _⟩ := zeroVal_cells (w := w) (gd := gd) hd
  rw [hd.zlen] at c1
  unfold aAppendX at hr
  split at hr
  · cases hr
  · rename_i szp hszp
    have hpos : 0 < d.size := by omega
    split at hr
    · -- onto nil
      rename_i es
      simp only [Option.some.injEq] at hr
      subst hr
      intro hq id
      obtain ⟨⟨q1, q2⟩, q3⟩ := andC_left (hq _ rfl)
      have hsv := repA_v (es ▸ H.opnd s)
      obtain ⟨news, A, n4, n5⟩ := hsrc q3 i i1 i2 i3 i4
      obtain ⟨v', w', hrun, hown, hgrown, hblk⟩ := A.own (by omega) w.heap.size (.slice none 0 0) 0 [] (World.ownsRow_nil _ _ _ _) (by unfold maxLen; omega) (by rw [i4]; simpa using q2) (Nat.le_refl _)
      simp only [Nat.zero_add, List.nil_append, i3] at hown
      have hb : Below w.heap.size w w' := (Below.refl _ _).grown hgrown (Nat.le_refl _) (fun k hk => by cases hk)
      refine ⟨w', v'.ownBlock, capOf v', v', append_run2 has hts ho hsv rfl hrun, hb, fun b e => ⟨?_, own_lt hown b e⟩, fun gd' hst _ => row_of_own hown n4 (fun k hk j y hy => (n5 k hk j y hy).mono hb.size hst) L id (hT.get he).lt⟩
      rcases hblk with e' | e'
      · rw [e'] at e; cases e
      · rw [e'] at e; cases e; exact Nat.le_refl _
    · -- onto a row
      rename_i id sz1 o1 n1 es
      split at hr
      · split at hr
        · rename_i e' sz2 n2 f hrow
          cases hb1 : eqT e' e with
          | false => rw [hb1] at hr; cases hr
          | true =>
            rw [hb1] at hr
            obtain ⟨this, hmt⟩ := eqT_ok hb1
            subst this
            simp only at hr
            cases hb2 : Nat.beq sz2 d.size with
            | false => rw [hb2] at hr; cases hr
            | true =>
              rw [hb2] at hr
              have hz2 := Nat.eq_of_beq_eq_true hb2
              subst hz2
              simp only at hr
              cases hb3 : Nat.beq sz1 d.size with
              | false => rw [hb3] at hr; cases hr
              | true =>
                rw [hb3] at hr
                have hz1 := Nat.eq_of_beq_eq_true hb3
                subst hz1
                simp only [Option.some.injEq] at hr
                subst hr
                refine ⟨⟨_, _, _, _, hrow⟩, fun hq hnot => ?_⟩
                obtain ⟨⟨q0, q1, q2⟩, q3⟩ := andC_left hq
                subst q0
                have hsv := es ▸ H.opnd s
                generalize hsval : a.eval s = sv at hsv
                have hro := H.obj id _ hrow
                have hold : ∃ xs, w.ownsRow 0 e' d.size sv n1 xs ∧ sv.ownBlock = L.blk id ∧ (∀ k, k < n1 → (f k).length = d.size) ∧ ∀ k, k < n1 → ∀ (j : Nat) y, (f k)[j]? = some y → RepD w gd y (xs.getD (k * d.size + j) undef) := by
                  cases hsv with
                  | rsl hcap hbb had =>
                    have had := had (.inl rfl)
                    subst had
                    cases hro with
                    | row0 hbk hck =>
                      refine ⟨[], ?_, ?_, fun k hk => by omega, fun k hk => by omega⟩
                      · rw [hbk, hck]; exact World.ownsRow_nil w 0 e' d.size
                      · rw [hbk]; rfl
                    | @row _ _ _ _ cs b t9 mk hbk hh hn hm hz hf hrep hty hmk hcap0 =>
                      have ht9 := hty hmt
                      subst ht9
                      have hmk0 : mk = (0, 0) := hmk.resolve_right fun h => absurd h.1 (by omega)
                      subst hmk0
                      refine ⟨cs.toList.take (n1 * d.size), ⟨?_, .inr ⟨b, L.cap id, cs, ?_, Nat.zero_le _, hh, hn, hm, hz, rfl⟩⟩, ?_, hf, fun k hk j y hy => ?_⟩
                      · rw [List.length_take, Array.length_toList, hz]
                        exact Nat.min_eq_left (Nat.mul_le_mul_right _ hn)
                      · rw [hbk]; simp
                      · rw [hbk]; rfl
                      · have hj : j < d.size := by rw [← hf k hk]; exact (List.getElem?_eq_some_iff.1 hy).1
                        have hlt : k * d.size + j < n1 * d.size := by
                          have := Nat.mul_le_mul_right d.size (show k + 1 ≤ n1 from hk)
                          rw [Nat.add_mul] at this; omega
                        have := hrep k hk j y hy
                        rw [List.getD_eq_getElem?_getD, List.getElem?_take, if_pos hlt]
                        simpa [Array.getD_eq_getD_getElem?] using this
                obtain ⟨xs, hown0, hblk0, hf0, hr0⟩ := hold
                obtain ⟨news, A, n4, n5⟩ := hsrc q3 i i1 i2 i3 i4
                obtain ⟨v', w', hrun, hown, hgrown, hblk⟩ := A.own (by omega) 0 sv n1 xs (by rw [i3]; exact hown0) (by unfold maxLen; omega) (by rw [i4]; exact q2) (Nat.zero_le _)
                rw [i3] at hown
                have hxs := hown0.1
                refine ⟨w', v'.ownBlock, capOf v', v', append_run2 has hts ho hsval rfl hrun, hgrown.os, hgrown.tape, hgrown.output, hgrown.size, fun b hb hne => hgrown.block b hb (by rw [hblk0]; exact hne), fun b hb => ⟨own_lt hown b hb, ?_⟩, fun dd gd' hst => ?_⟩
                · rcases hblk with e' | e'
                  · left; rw [← hblk0, ← e']; exact hb.symm
                  · right; rw [e'] at hb; cases hb; exact Nat.le_refl _
                · refine row_of_own hown (fun k hk => ?_) (fun k hk j y hy => ?_) L dd hmt
                  · unfold fcat
                    split
                    · exact hf0 k (by omega)
                    · exact n4 _ (by omega)
                  · unfold fcat at hy
                    rw [List.getD_eq_getElem?_getD, List.getElem?_append]
                    by_cases hkn : k < n1
                    · rw [if_pos hkn] at hy
                      have hj : j < d.size := by rw [← hf0 k hkn]; exact (List.getElem?_eq_some_iff.1 hy).1
                      have hlt : k * d.size + j < xs.length := by
                        have := Nat.mul_le_mul_right d.size (show k + 1 ≤ n1 from hkn)
                        rw [Nat.add_mul] at this; omega
                      rw [if_pos hlt]
                      have := (hr0 k hkn j y hy).mono hgrown.size hst
                      rwa [List.getD_eq_getElem?_getD] at this
                    · rw [if_neg hkn] at hy
                      have hge : ¬ k * d.size + j < xs.length := by
                        have := Nat.mul_le_mul_right d.size (show n1 ≤ k from by omega)
                        omega
                      rw [if_neg hge]
                      have := (n5 (k - n1) (by omega) j y hy).mono hgrown.size hst
                      rw [List.getD_eq_getElem?_getD] at this
                      have e2 : k * d.size + j - xs.length = (k - n1) * d.size + j := by
                        rw [hxs, Nat.sub_mul]
                        have := Nat.mul_le_mul_right d.size (show n1 ≤ k from by omega)
                        omega
                      rwa [e2]
        · cases hr
      · cases hr
    · cases hr
/-- A text, put behind. -/
theorem appendS_ok (hT : TysOk P T) (H : Holds w gd L g h a) {t t' e : TypeId} {sz by_ sz' by_' : Nat} {zz zz' : List D} (ht : lookT t T = some ⟨.slice e, sz, by_, zz⟩) (ht' : lookT t' T = some ⟨.string, sz', by_', zz'⟩) {d : TyD} (he : lookT e T = some d) (hd1 : d.size = 1) {s x : Operand} {l : List UInt8} (hx : opnd g x = .d (.s l)) {r : Res} {o : Oper}
    (hr : aAppendX e d h (opnd g s) l.length (bytesF l) none = some r) {as : Array Operand} {ts : Array TypeId}
    (has : as.toList = [s, x]) (hts : ts.toList = [t, t']) (ho : o.op = .call { callee := .builtin .append, args := as, argTypes := ts }) : r.Ok P w gd L g h a o := by
  refine appendX_ok hT H ht he (fun _ i i1 i2 i3 i4 => ?_) hr has hts ho
  have hv := repA_s (hx ▸ H.opnd x)
  have hsz : (ByteArray.mk l.toArray).size = l.length := by simp [ByteArray.size]
  have hs := Src.ofString (P := P) w (tx := t') ((hT.get ht').string rfl) ⟨l.toArray⟩
  rw [hsz] at hs
  refine ⟨byteCells ⟨l.toArray⟩, ?_, fun k hk => by rw [hd1]; rfl, fun k hk j y hy => ?_⟩
  · rw [hv]
    exact AppRuns.ofSrc ((hT.get ht).slice rfl) i1 i2 (by rw [i3, hd1]; exact hs)
  · unfold bytesF at hy
    obtain ⟨rfl, rfl⟩ : j = 0 ∧ y = .i .u8 ((l.getD k 0).toNat : Nat) := by cases j <;> simp_all
    rw [hd1]
    have : (byteCells ⟨l.toArray⟩).getD (k * 1 + 0) undef = .int .u8 ((l.getD k 0).toNat : Nat) := by
      simp [byteCells, List.getD_eq_getElem?_getD, hk]
    rw [this]
    exact .i _ _
/-- Noughts, put behind. -/
theorem appendZ_ok (hT : TysOk P T) (H : Holds w gd L g h a) {t t' e : TypeId} {sz by_ sz' by_' : Nat} {zz zz' : List D} (ht : lookT t T = some ⟨.slice e, sz, by_, zz⟩) (ht' : lookT t' T = some ⟨.int .i64, sz', by_', zz'⟩) {d : TyD} (he : lookT e T = some d) {s x : Operand} {n : Int} (hx : opnd g x = .d (.i .i64 n)) {r : Res} {o : Oper}
    (hr : aAppendX e d h (opnd g s) n.toNat (fun _ => d.zero) (some (0 ≤ n ∧ n.toNat ≤ 9223372036854775807 ∧ n.toNat * d.bytes ≤ 281474976710656)) = some r) {as : Array Operand} {ts : Array TypeId}
    (has : as.toList = [s, x]) (hts : ts.toList = [t, t']) (ho : o.op = .call { callee := .builtin .append, args := as, argTypes := ts }) : r.Ok P w gd L g h a o := by
  refine appendX_ok hT H ht he (fun hq i i1 i2 i3 i4 => ?_) hr has hts ho
  obtain ⟨q1, q2, q3⟩ := hq _ rfl
  have hv := repA_i (hx ▸ H.opnd x)
  have hd := hT.get he
  obtain ⟨c1, c2⟩ := zeroVal_cells (w := w) (gd := gd) hd
  have hpos : 0 < d.size := by
    unfold aAppendX at hr
    split at hr
    · cases hr
    · omega
  have hone : ∀ u ∈ d.zeroVal.cells.toList, u.oneCell' = true := by
    refine cells_mem c1 fun q hq => ?_
    obtain ⟨e1, e2, _⟩ := c2 q d.zero[q] (List.getElem?_eq_getElem hq)
    rw [e1]; exact e2
  have hnn : ((n.toNat : Nat) : Int) = n := Int.toNat_of_nonneg q1
  have A := AppRuns.ofZeros (P := P) (w := w) (ty := o.type) (m := n.toNat) ((hT.get ht).slice rfl) ((hT.get ht').int rfl) i1 i2 (by rw [c1, hd.zlen, i3]) hone (by omega) q2 (by rw [i4]; exact q3)
  refine ⟨(Builtin.zeroCells d.zeroVal.cells n.toNat).toList, by rw [hv]; rw [hnn] at A; exact A, fun k hk => hd.zlen, fun k hk j y hy => ?_⟩
  have hj : j < d.size := by rw [← hd.zlen]; exact (List.getElem?_eq_some_iff.1 hy).1
  obtain ⟨e1, _, e3⟩ := c2 j y hy
  have hcs : d.zeroVal.cells.size = d.size := by rw [c1, hd.zlen]
  have hlt : k * d.size + j < n.toNat * d.size := by
    have := Nat.mul_le_mul_right d.size (show k + 1 ≤ n.toNat from hk)
    rw [Nat.add_mul] at this; omega
  have : (Builtin.zeroCells d.zeroVal.cells n.toNat).toList.getD (k * d.size + j) undef = d.zeroVal.cells.getD j undef := by
    rw [List.getD_eq_getElem?_getD]
    simp only [Builtin.zeroCells, hcs, Array.toList_map, Array.toList_range, List.getElem?_map, List.getElem?_range hlt]
    have hmod : (k * d.size + j) % d.size = j := by rw [Nat.mul_comm, Nat.mul_add_mod]; exact Nat.mod_eq_of_lt hj
    simp only [Option.map_some, Option.getD_some, hmod]
    have hj' : j < d.zeroVal.cells.size := by omega
    rw [getElem!_pos d.zeroVal.cells j hj', Array.getD_eq_getD_getElem?, Array.getElem?_eq_getElem hj']
    rfl
  rw [this, e1]
  exact e3
end
section
variable {w : World} {gd gd' : Nat → Prop} {L : Lay} {h : Nat → Option AObj}
theorem row_view (ho : ∀ id o, h id = some o → RepO w gd L id o) (hg : ∀ b, gd b → gd' b) (hb : ∀ id o b, h id = some o → L.blk id = some b → gd' b ∧ b < w.heap.size)
    {id sz o n n' : Nat} {t : TypeId} {f : Nat → List D} (hrow : h id = some (.row t sz n' f)) (hle : o + n ≤ n') {v : Value} (hv : RepA w L gd (.rsl id sz o n) v) : RepD w gd' (.sl sz n fun j => f (o + j)) v := by
  have hro := ho id _ hrow
  cases hv with
  | rsl hc hbb ha =>
    cases hro with
    | row0 hb1 hc1 =>
      have : n = 0 := by omega
      subst this
      exact .sl0 _ _ _ _ (by rw [hc1]; simp)
    | @row _ _ _ _ cs b t9 mk hb1 hh hn hm hz hf hrep hty hmk hcap0 =>
      by_cases h0 : n = 0
      · subst h0; exact .sl0 _ _ _ _ (by omega)
      · rw [ha (.inr (by omega)), hb1]
        obtain ⟨g1, g2⟩ := hb id _ b hrow hb1
        refine .sl _ _ _ b _ _ (fun k j => cs.getD ((o + k) * sz + j) undef) (by omega) (by omega) (by omega) g1 g2 (fun k hk => hf _ (by omega)) (fun k hk j hj => ?_) (fun k hk j x hx => (hrep _ (by omega) j x hx).mono (Nat.le_refl _) fun b _ hb => ⟨hg b hb, rfl⟩)
        have hlt : (o + k) * sz + j < cs.size := by
          have := Nat.mul_le_mul_right sz (show o + k + 1 ≤ L.cap id from by omega)
          rw [Nat.add_mul (o + k) 1] at this; omega
        rw [show o * sz + k * sz + j = (o + k) * sz + j from by rw [Nat.add_mul], cell_of_row w b _ cs t9 mk hh, Array.getD_eq_getD_getElem?, Array.getElem?_eq_getElem hlt]
        rfl
theorem box_view (ho : ∀ id o, h id = some o → RepO w gd L id o) (hg : ∀ b, gd b → gd' b) (hb : ∀ id o b, h id = some o → L.blk id = some b → gd' b ∧ b < w.heap.size) {id b : Nat} {l : List AVal} {ds : List D} {tag : Option TypeId} (hbox : h id = some (.box l tag)) (hu : unliftF l = some ds) (hbk : L.blk id = some b) :
    RepD w gd' (.sl ds.length 1 fun _ => ds) (.slice (some ⟨b, 0, none⟩) 1 1) := by
  have hro := ho id _ hbox
  have hl := unliftF_eq hu
  cases hro with
  | @box _ tag cs t b' htag hb' hh hz h1 hr =>
    rw [hbk] at hb'
    cases hb'
    obtain ⟨g1, g2⟩ := hb id _ b hbox hbk
    have hlen : cs.size = ds.length := by rw [hz, hl]; simp
    refine .sl _ _ _ b 0 1 (fun _ j => cs.getD j undef) (by omega) (by omega) (by decide) g1 g2 (fun _ _ => rfl) (fun k hk j hj => ?_) (fun k hk j x hx => ?_)
    · have : k = 0 := by omega
      subst this
      rw [show 0 + 0 * ds.length + j = j from by simp, cell_of_row w b _ cs t (0, 0) hh, Array.getD_eq_getD_getElem?, Array.getElem?_eq_getElem (by omega)]
      rfl
    · have := hr j (.d x) (by rw [hl, List.getElem?_map, hx]; rfl)
      cases this with
      | d h => exact h.mono (Nat.le_refl _) fun b _ hb => ⟨hg b hb, rfl⟩
end
section
variable {P : Program} {T : Tys} {w : World} {gd : Nat → Prop} {L : Lay} {g : Nat → AVal} {h : Nat → Option AObj} {a : Act}
/-- Bytes, as a text. -/
theorem repD_text {gd' : Nat → Prop} {src dst e : TypeId} (hs : P.underlying src = some (.slice e)) (he : P.underlying e = some (.int .u8)) (hd : P.underlying dst = some .string) {n : Nat} {f : Nat → List D} {v : Value} (hv : RepD w gd' (.sl 1 n f) v) {l : List UInt8} (hl : l.length = n) (hf : ∀ k, k < n → f k = bytesF l k) :
    (convert src dst v).run P w = .ok (.string ⟨l.toArray⟩) w := by
  cases hv with
  | sl0 _ _ A c hc =>
    have : l = [] := List.eq_nil_of_length_eq_zero hl
    subst this
    cases A with
    | none => exact run_convert_bytes_nil w src e hs he 0 c dst hd
    | some A =>
      rw [run_convert_bytes_string w src dst e _ 0 c hs he hd]
      have := run_bytesToString (P := P) w A 0 c [] (by simp [loadCells, loadCellsFrom])
      rw [this]
      rfl
  | sl _ _ _ b o c cs hn hc hm hg hb hz hcell hrep =>
    have key := run_convert_bytes_arg (P := P) w src e hs he b o n c (l.map fun x => ((x.toNat : Nat) : Int)) (by simpa using hl) (fun i hi => by
      have h1 := hcell i hi 0 (by omega)
      have h2 := hrep i hi 0 (.i .u8 ((l.getD i 0).toNat : Nat)) (by rw [hf i hi]; rfl)
      have h3 : cs i 0 = .int .u8 ((l.getD i 0).toNat : Nat) := repA_i (L := ⟨fun _ => none, fun _ => 0, fun _ => False⟩) (RepA.d h2)
      rw [h3] at h1
      have e1 : o + i * 1 + 0 = o + i := by omega
      rw [e1] at h1
      rw [h1]
      have hi' : i < l.length := by omega
      simp [List.getD_eq_getElem?_getD, hi']) dst hd
    rw [key]
    have : strOfNums (l.map fun x => ((x.toNat : Nat) : Int)) = ⟨l.toArray⟩ := by
      unfold strOfNums
      congr 2
      rw [List.map_map]
      conv => rhs; rw [← List.map_id l]
      refine List.map_congr_left fun x _ => ?_
      simp
    rw [this]
theorem convB_ok (hT : TysOk P T) {src dst e : TypeId} {sz by_ sz' by_' sz2 by2 : Nat} {z z' z2 : List D} (hs : lookT src T = some ⟨.slice e, sz, by_, z⟩) (hd : lookT dst T = some ⟨.string, sz', by_', z'⟩) (he : lookT e T = some ⟨.int .u8, sz2, by2, z2⟩) {o : Oper} {x : Operand} (ho : o.op = .convert src dst x) {gd' : Nat → Prop} {n : Nat} {f : Nat → List D}
    (hv : RepD w gd' (.sl 1 n f) (a.eval x)) {l : List UInt8} (hl : l.length = n) (hf : ∀ k, k < n → f k = bytesF l k) : ∃ u, (execOp a.eval o).run P w = .ok (.value u) w ∧ RepA w L gd (.d (.s l)) u := by
  have := repD_text (P := P) ((hT.get hs).slice rfl) ((hT.get he).int rfl) ((hT.get hd).string rfl) hv hl hf
  exact ⟨.string ⟨l.toArray⟩, by simp [execOp, ho, this], .d (.s l)⟩
/-- An array that nobody turns any more, as a slice. -/
theorem arrSl_ok (hT : TysOk P T) (H : Holds w gd L g h a) {t e : TypeId} {n sz by_ : Nat} {z : List D} (ht : lookT t T = some ⟨.array n e, sz, by_, z⟩) {d : TyD} (he : lookT e T = some d) {x : Operand} {id : Nat} (hx : opnd g x = .ptr id 0) {cells : List AVal} {tag : Option TypeId} (hc : h id = some (.box cells tag)) {ds : List D} (hu : unliftF cells = some ds) (hlen : ds.length = n * d.size) (hn : n ≤ 9223372036854775807)
    {o : Oper} (ho : o.op = .slice t x none none none) : (Res.pub id (.d (.sl d.size n fun k => (ds.drop (k * d.size)).take d.size))).Ok P w gd L g h a o := by
  have hv := H.opnd x
  rw [hx] at hv
  generalize hxv : a.eval x = xv at hv
  cases hv with
  | @ptr _ _ _ b hb =>
    have hro := H.obj id _ hc
    cases hro with
    | @box _ tag cs ty b' htag hb' hh hz h1 hr =>
      rw [hb] at hb'
      cases hb'
      refine ⟨⟨_, hc⟩, .slice (some ⟨b, 0, none⟩) n n, ?_, fun gd' hg hb => ?_⟩
      · have hu' := (hT.get ht).array rfl
        have hsz := (hT.get he).sizeOf w
        by_cases h0 : n = 0
        · simp [execOp, ho, hxv, Instr.sliceAt, run_underlying hu', Instr.sureAddr, Instr.sliceBounds, hsz, h0]
        · simp [execOp, ho, hxv, Instr.sliceAt, run_underlying hu', Instr.sureAddr, Instr.sliceBounds, hsz, h0, Addr.add]
      · have hl := unliftF_eq hu
        rename_i hb2
        obtain ⟨g1, g2⟩ := hb b hb2
        have hcs : cs.size = n * d.size := by rw [hz, hl]; simpa using hlen
        by_cases h0 : n = 0
        · subst h0
          exact .d (.sl0 _ _ _ _ (by omega))
        · refine .d (.sl _ _ _ b 0 n (fun k j => cs.getD (k * d.size + j) undef) (by omega) (Nat.le_refl _) (by unfold maxLen; omega) g1 g2 (fun k hk => ?_) (fun k hk j hj => ?_) (fun k hk j y hy => ?_))
          · have := Nat.mul_le_mul_right d.size (show k + 1 ≤ n from hk)
            rw [Nat.add_mul] at this
            rw [List.length_take, List.length_drop]; omega
          · have := Nat.mul_le_mul_right d.size (show k + 1 ≤ n from hk)
            rw [Nat.add_mul] at this
            rw [Nat.zero_add, cell_of_row w b _ cs ty (0, 0) hh, Array.getD_eq_getD_getElem?, Array.getElem?_eq_getElem (by omega)]
            rfl
          · rw [List.getElem?_take] at hy
            split at hy
            · rw [List.getElem?_drop] at hy
              have h3 := hr (k * d.size + j) (.d y) (by rw [hl, List.getElem?_map, hy]; rfl)
              cases h3 with
              | d h3 => exact h3.mono (Nat.le_refl _) fun b' _ hb' => ⟨hg b' hb', rfl⟩
            · cases hy
/-- Part of an array that nobody turns any more, as a slice. -/
theorem arrSl2_ok (hT : TysOk P T) (H : Holds w gd L g h a) {t e : TypeId} {n sz by_ : Nat} {z : List D} (ht : lookT t T = some ⟨.array n e, sz, by_, z⟩) {d : TyD} (he : lookT e T = some d) {x : Operand} {lo hi : Option Operand} {A B : Nat} (hbd : boundsN n (optI g lo) (optI g hi) = some (A, B)) {id : Nat} (hx : opnd g x = .ptr id 0) {cells : List AVal} {tag : Option TypeId} (hc : h id = some (.box cells tag)) {ds : List D} (hu : unliftF cells = some ds) (hlen : ds.length = n * d.size) (hn : n ≤ 9223372036854775807)
    {o : Oper} (ho : o.op = .slice t x lo hi none) : (Res.pub id (.d (.sl d.size (B - A) fun k => (ds.drop ((A + k) * d.size)).take d.size))).Ok P w gd L g h a o := by
  obtain ⟨ra, rb, hlo, hhi, eA, eB, hq⟩ := boundsN_ok hbd
  obtain ⟨k1, k2, k3⟩ := bounds_ok (P := P) (optI_ok H hlo) (optI_ok H hhi) n n (Nat.le_refl _) false w hq
  rw [eA, eB] at k1 k2
  rw [eB] at k3
  have hv := H.opnd x
  rw [hx] at hv
  generalize hxv : a.eval x = xv at hv
  cases hv with
  | @ptr _ _ _ b hb =>
    have hro := H.obj id _ hc
    cases hro with
    | @box _ tag cs ty b' htag hb' hh hz h1 hr =>
      rw [hb] at hb'
      cases hb'
      refine ⟨⟨_, hc⟩, .slice (some (if n = A then ⟨b, 0, none⟩ else ⟨b, A * d.size, none⟩)) (B - A) (n - A), ?_, fun gd' hg hb => ?_⟩
      · have hu' := (hT.get ht).array rfl
        have hsz := (hT.get he).sizeOf w
        by_cases h0 : n = A
        · subst h0
          simp [execOp, ho, hxv, Instr.sliceAt, run_underlying hu', Instr.sureAddr, k1, hsz]
        · simp [execOp, ho, hxv, Instr.sliceAt, run_underlying hu', Instr.sureAddr, k1, hsz, h0, Addr.add]
          try exact fun e => e.symm
      · have hl := unliftF_eq hu
        rename_i hb2
        obtain ⟨g1, g2⟩ := hb b hb2
        have hcs : cs.size = n * d.size := by rw [hz, hl]; simpa using hlen
        by_cases h0 : B - A = 0
        · rw [h0]
          exact .d (.sl0 _ _ _ _ (by unfold maxLen; omega))
        · rw [if_neg (by omega)]
          refine .d (.sl _ _ _ b (A * d.size) _ (fun k j => cs.getD ((A + k) * d.size + j) undef) (by omega) (by omega) (by unfold maxLen; omega) g1 g2 (fun k hk => ?_) (fun k hk j hj => ?_) (fun k hk j y hy => ?_))
          · have := Nat.mul_le_mul_right d.size (show A + k + 1 ≤ n by omega)
            rw [Nat.add_mul (A + k)] at this
            rw [List.length_take, List.length_drop]; omega
          · have := Nat.mul_le_mul_right d.size (show A + k + 1 ≤ n by omega)
            rw [Nat.add_mul (A + k)] at this
            rw [← Nat.add_mul, cell_of_row w b _ cs ty (0, 0) hh, Array.getD_eq_getD_getElem?, Array.getElem?_eq_getElem (by omega)]
            rfl
          · rw [List.getElem?_take] at hy
            split at hy
            · rw [List.getElem?_drop] at hy
              have h3 := hr ((A + k) * d.size + j) (.d y) (by rw [hl, List.getElem?_map, hy]; rfl)
              cases h3 with
              | d h3 => exact h3.mono (Nat.le_refl _) fun b' _ hb' => ⟨hg b' hb', rfl⟩
            · cases hy
end
end Towline
