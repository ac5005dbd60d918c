/- The engine, part seven: all plain operations in one theorem. Over any program. -/
import Derived.Test.YtbghocipmlobnaaGreatEngR2
namespace Towline
open Go Go.RowKit
set_option linter.unusedVariables false
section
variable {P : Program} {T : Tys} {w : World} {gd : Nat → Prop} {L : Lay} {g : Nat → AVal} {h : Nat → Option AObj} {a : Act}
theorem boxOne_ok (H : Holds w gd L g h a) {t : TypeId} {x : Operand} (hs : (opnd g x).sure = true) {o : Oper} (ho : o.op = .box t x) : (Res.new (.box [opnd g x])).Ok P w gd L g h a o := by
  intro d hf
  have hv := H.opnd x
  have h1 := repA_one hv hs
  refine box_ok (cs := (a.eval x).cells) (t := t) (fun _ h => by cases h) (by simp [execOp, ho, Instr.box, newVar, newRow]) (by rw [cells_one h1]; rfl) (fun i hi => ?_) (fun i y hy => ?_) d (fun i y hy => ?_)
  · have : i = 0 := by simpa using hi
    subst this; rw [cells_one h1]; exact h1
  · cases i with
    | zero => simp only [List.getElem?_cons_zero, Option.some.injEq] at hy; subst hy; rw [cells_one h1]; exact hv
    | succ i => simp at hy
  · cases i with
    | zero => simp only [List.getElem?_cons_zero, Option.some.injEq] at hy; subst hy; exact opnd_free hf x
    | succ i => simp at hy
theorem sliceLen_ok (hT : TysOk P T) (H : Holds w gd L g h a) {t e : TypeId} {sz by_ : Nat} {z : List D} (ht : lookT t T = some ⟨.slice e, sz, by_, z⟩) {x : Operand} {as : Array Operand} {ts : Array TypeId} (has : as.toList = [x]) (hts : ts.toList = [t]) {o : Oper}
    (ho : o.op = .call { callee := .builtin .len, args := as, argTypes := ts }) {n : Nat} (hx : (∃ s f, opnd g x = .d (.sl s n f)) ∨ (∃ id s q, opnd g x = .rsl id s q n) ∨ ∃ c, n = 0 ∧ opnd g x = .d (.v (.slice none 0 c))) : (Res.val (.d (.i .i64 n))).Ok P w gd L g h a o := by
  have hv := H.opnd x
  rcases hx with ⟨s, f, hx⟩ | ⟨id, s, q, hx⟩ | ⟨c, hn, hx⟩
  · rw [hx] at hv
    obtain ⟨A, c, e⟩ := repD_sl_len (repA_sl hv)
    exact lenSl_ok hT ht e has hts ho
  · rw [hx] at hv
    generalize hxv : a.eval x = xv at hv
    cases hv with
    | rsl hc hb _ => exact lenSl_ok hT ht hxv has hts ho
  · rw [hx] at hv
    have := repA_v hv
    rw [← hn] at this
    exact lenSl_ok hT ht this has hts ho
theorem lt_of_heap {w : World} {b : Nat} {o : Obj} (h : w.heap[b]? = some o) : b < w.heap.size := (Array.getElem?_eq_some_iff.1 h).1
/-- A piece of a row is made nought. -/
theorem clear_ok (hT : TysOk P T) (H : Holds w gd L g h a) {t e : TypeId} {sz0 by_ : Nat} {z : List D} (ht : lookT t T = some ⟨.slice e, sz0, by_, z⟩) {d : TyD} (he : lookT e T = some d) {x : Operand} {id sz q n n' : Nat} {ty : TypeId} {f : Nat → List D} (hx : opnd g x = .rsl id sz q n) (hid : h id = some (.row ty sz n' f)) (hsz : d.size = sz)
    {as : Array Operand} {ts : Array TypeId} (has : as.toList = [x]) (hts : ts.toList = [t]) {o : Oper} (ho : o.op = .call { callee := .builtin .clear, args := as, argTypes := ts }) :
    (Res.setc id (.row ty sz n' (fun k => if q ≤ k ∧ k < q + n then d.zero else f k)) (q + n ≤ n' ∧ 0 < n')).Ok P w gd L g h a o := by
  refine ⟨⟨_, hid⟩, ?_⟩
  rintro ⟨hon, hpos⟩
  have hd := hT.get he
  have hu := (hT.get ht).slice rfl
  obtain ⟨c1, c2⟩ := zeroVal_cells (w := w) (gd := gd) hd
  have hzl := hd.zlen
  have hv := H.opnd x
  rw [hx] at hv
  generalize hxv : a.eval x = v at hv
  have has' : as = #[x] := by cases as; simp_all
  have hts' : ts = #[t] := by cases ts; simp_all
  cases H.obj id _ hid with
  | row0 => omega
  | @row _ _ _ _ cs b t2 mk hb hh hn hm hz hf hrep hty hmk =>
    cases hv with
    | rsl hc hbk ha =>
      rename_i ad
      by_cases hn0 : n = 0
      · subst hn0
        refine ⟨b, w, hb, .inr ⟨.tuple #[], ?_⟩, rfl, rfl, rfl, rfl, fun _ _ => rfl, fun gd' hst htop => ?_⟩
        · subst has' hts'
          cases ad <;> simp [execOp, ho, builtin, resolve, invoke, hxv, Builtin.clear_, run_underlying hu]
        · refine .row hb hh hn hm hz (fun k hk => ?_) (fun k hk j y hy => ?_) hty hmk
          · rw [if_neg (by omega)]; exact hf k hk
          · rw [if_neg (by omega)] at hy; exact (hrep k hk j y hy).mono (Nat.le_refl _) hst
      · have hql : q < L.cap id := by omega
        have had : ad = some ⟨b, q * sz, none⟩ := by rw [ha (.inr hql), hb]; rfl
        subst had
        obtain ⟨m, rfl⟩ : ∃ m, n = m + 1 := ⟨n - 1, by omega⟩
        have hzsz : (Builtin.zeroCells d.zeroVal.cells (m + 1)).size = (m + 1) * sz := by
          rw [Builtin.zeroCells, Array.size_map, Array.size_range, c1, hzl, hsz]
        have hget : ∀ k j, k < m + 1 → j < sz → (Builtin.zeroCells d.zeroVal.cells (m + 1)).getD (k * sz + j) undef = d.zeroVal.cells.getD j undef := by
          intro k j hk hj
          have := zeros_get d.zeroVal.cells (m + 1) k j hk (by omega)
          rw [show d.zeroVal.cells.size = sz from by omega] at this
          rw [← this, Builtin.zeroCells, madeCells, show d.zeroVal.cells.size = sz from by omega]
        have hone : ∀ u ∈ (Builtin.zeroCells d.zeroVal.cells (m + 1)).toList, u.oneCell' = true := by
          intro u hu
          obtain ⟨i, hi, rfl⟩ := List.mem_iff_getElem.1 hu
          simp only [Array.length_toList, hzsz] at hi
          have hs0 : 0 < sz := by
            rcases Nat.eq_zero_or_pos sz with h0 | h0
            · rw [h0] at hi; omega
            · exact h0
          have e1 := hget (i / sz) (i % sz) (by rw [Nat.div_lt_iff_lt_mul hs0]; exact hi) (Nat.mod_lt _ hs0)
          rw [show i / sz * sz + i % sz = i from by rw [Nat.mul_comm]; exact Nat.div_add_mod i sz] at e1
          have hi2 : i < (Builtin.zeroCells d.zeroVal.cells (m + 1)).size := by rw [hzsz]; exact hi
          have e2 : (Builtin.zeroCells d.zeroVal.cells (m + 1)).getD i undef = (Builtin.zeroCells d.zeroVal.cells (m + 1)).toList[i] := by
            rw [Array.getD_eq_getD_getElem?, Array.getElem?_eq_getElem hi2]; simp
          rw [← e2, e1]
          have hj : i % sz < d.zero.length := by rw [hzl, hsz]; exact Nat.mod_lt _ hs0
          obtain ⟨k1, k2, _⟩ := c2 (i % sz) d.zero[i % sz] (List.getElem?_eq_getElem hj)
          rw [k1]; exact k2
        have hfit : q * sz + (Builtin.zeroCells d.zeroVal.cells (m + 1)).toList.length ≤ cs.size := by
          simp only [Array.length_toList, hzsz]
          rw [← Nat.add_mul, hz]
          exact Nat.mul_le_mul_right sz (by omega)
        have hst := run_storeCells_mk P b (q * sz) t2 mk (Builtin.zeroCells d.zeroVal.cells (m + 1)).toList 0 cs w hh (hmk.imp (fun h => h) fun h => h.2) (by simpa using hfit) hone
        simp only [Nat.add_zero] at hst
        have hg := over_getD cs (q * sz) (Builtin.zeroCells d.zeroVal.cells (m + 1)).toList hfit
        generalize hcs' : (cs.toList.take (q * sz) ++ (Builtin.zeroCells d.zeroVal.cells (m + 1)).toList ++ cs.toList.drop (q * sz + (Builtin.zeroCells d.zeroVal.cells (m + 1)).toList.length)).toArray = cs' at hst hg
        have hsz' : cs'.size = cs.size := by rw [← hcs']; simp; simp at hfit; omega
        refine ⟨b, w.setRow b cs', hb, .inr ⟨.tuple #[], ?_⟩, rfl, rfl, rfl, by simp, fun b' hne => setRow_other w b b' _ hne, fun gd' hst' htop => ?_⟩
        · subst has' hts'
          simp [execOp, ho, builtin, resolve, invoke, hxv, Builtin.clear_, run_underlying hu, hd.zeroValue w, hst]
        · refine .row hb (setRow_heap w b cs _ t2 mk hh) hn hm (by omega) (fun k hk => ?_) (fun k hk j y hy => ?_) hty (hmk.imp (fun h => h) fun h => ⟨h.1, by omega⟩)
          · split
            · rw [hzl, hsz]
            · exact hf k hk
          · have hjs : j < sz := by
              have := (List.getElem?_eq_some_iff.1 hy).1
              split at this
              · rw [hzl, hsz] at this; exact this
              · rw [hf k hk] at this; exact this
            rw [hg]
            simp only [Array.length_toList, hzsz]
            by_cases hc : q ≤ k ∧ k < q + (m + 1)
            · rw [if_pos hc] at hy
              have h1 : q * sz ≤ k * sz := Nat.mul_le_mul_right sz hc.1
              have h2 : (k + 1) * sz ≤ (q + (m + 1)) * sz := Nat.mul_le_mul_right sz (by omega)
              rw [Nat.add_mul, Nat.add_mul q] at h2
              rw [if_pos ⟨by omega, by omega⟩]
              have e1 := hget (k - q) j (by omega) hjs
              rw [Nat.sub_mul] at e1
              rw [show k * sz + j - q * sz = k * sz - q * sz + j from by omega, show ∀ (A : Array Value) i, A.toList.getD i undef = A.getD i undef from fun A i => by simp [List.getD_eq_getElem?_getD, Array.getD_eq_getD_getElem?], e1]
              obtain ⟨k1, _, k3⟩ := c2 j y hy
              rw [k1]
              exact k3.mono (by simp) hst'
            · rw [if_neg hc] at hy
              rw [if_neg (fun h3 => hc ?_)]
              · exact (hrep k hk j y hy).mono (by simp) hst'
              · obtain ⟨h3, h4⟩ := h3
                refine ⟨Nat.le_of_not_lt fun h5 => ?_, Nat.lt_of_not_le fun h5 => ?_⟩
                · have := Nat.mul_le_mul_right sz (show k + 1 ≤ q from h5)
                  rw [Nat.add_mul] at this; omega
                · have := Nat.mul_le_mul_right sz h5
                  rw [Nat.add_mul] at this; omega
/-- A plain operation does what its plain form says. -/
theorem aop_ok (hT : TysOk P T) (H : Holds w gd L g h a) {o : Oper} {r : Res} (hr : aop T g h o.op = some r) : r.Ok P w gd L g h a o := by
  generalize hop : o.op = op at hr
  unfold aop at hr
  split at hr
  · cases hr; exact ⟨_, by simp [execOp, hop], H.opnd _⟩
  · cases hr; exact ⟨_, by simp [execOp, hop], H.opnd _⟩
  · -- pick
    split at hr
    · rename_i e
      cases hr
      have := repA_b (e ▸ H.opnd _)
      exact ⟨_, by simp [execOp, hop, this, asBool], H.opnd _⟩
    · rename_i e
      cases hr
      have := repA_b (e ▸ H.opnd _)
      exact ⟨_, by simp [execOp, hop, this, asBool], H.opnd _⟩
    · cases hr
  · -- box
    rename_i t x
    split at hr
    · rename_i l e
      cases hr
      intro d hf
      obtain ⟨vs, hv, k1, k2, k3⟩ := repA_agg (e ▸ H.opnd x)
      exact box_ok (cs := vs) (t := t) (fun _ h => by cases h) (by simp [execOp, hop, Instr.box, newVar, newRow, hv, Value.cells]) k1 k2 k3 d (fun i y hy => by
        have := opnd_free hf x
        rw [e] at this
        exact AVal.freeL_get this i y hy)
    · cases hr
    · cases hr
    · rename_i v e1 e2 e3
      cases hr
      refine boxOne_ok H ?_ hop
      cases hv : opnd g x with
      | any => exact (e2 hv).elim
      | agg l => exact (e1 l hv).elim
      | tup l => exact (e3 l hv).elim
      | _ => rfl
  · -- alloc
    rename_i t
    split at hr
    · rename_i d ht
      split at hr
      · rename_i l hl
        cases hr
        have hd := hT.get ht
        obtain ⟨c1, c2⟩ := zeroVal_cells (w := w) (gd := gd) hd
        have hl' := liftF_eq hl
        have hget : ∀ (i : Nat) (x : AVal), l[i]? = some x → ∃ y, d.zero[i]? = some y ∧ x = .d y := by
          intro i x hx
          rw [hl', List.getElem?_map] at hx
          cases hy : d.zero[i]? with
          | none => rw [hy] at hx; cases hx
          | some y => rw [hy] at hx; simp only [Option.map_some, Option.some.injEq] at hx; exact ⟨y, rfl, hx.symm⟩
        intro id hf
        refine box_ok (cs := d.zeroVal.cells) (t := t) (fun t' h => by unfold tagOf at h; split at h <;> cases h; rfl) (by simp [execOp, hop, Instr.alloc, hd.zeroValue w, newVar, newRow]) (by rw [c1, hl']; simp) (fun i hi => ?_) (fun i x hx => ?_) id (fun i x hx => ?_)
        · obtain ⟨y, hy, _⟩ := hget i l[i] (List.getElem?_eq_getElem hi)
          obtain ⟨e1, e2, _⟩ := c2 i y hy
          rw [e1]; exact e2
        · obtain ⟨y, hy, rfl⟩ := hget i x hx
          obtain ⟨e1, _, e3⟩ := c2 i y hy
          rw [e1]; exact .d e3
        · obtain ⟨y, hy, rfl⟩ := hget i x hx
          rfl
      · cases hr
    · cases hr
  · -- build
    split at hr
    · rename_i fs _ _ z ht
      split at hr
      · rename_i l hl
        split at hr
        · rename_i l' hp
          split at hr
          · rename_i l'' hs
            cases hr
            rw [strictL_eq hs]
            exact build_ok hT H ht hl hp hop
          · cases hr
        · cases hr
      · cases hr
    · rename_i n e _ _ z ht
      split at hr
      · rename_i de he
        split at hr
        · rename_i l hl
          split at hr
          · rename_i l' hp
            split at hr
            · rename_i l'' hs
              cases hr
              rw [strictL_eq hs]
              exact buildA_ok hT H ht he hl hp hop
            · cases hr
          · cases hr
        · cases hr
      · cases hr
    · cases hr
  · -- load
    split at hr
    · rename_i d ht; exact aLoad_ok hT H ht hr hop
    · cases hr
  · -- store
    split at hr
    · rename_i d ht; exact aStore_ok hT H ht hr hop
    · cases hr
  · -- fieldAddr
    split at hr
    · rename_i fs _ _ z ht
      split at hr
      · rename_i hf
        split at hr
        · cases hr
        · split at hr
          · rename_i v hv
            cases hr
            exact fieldAddr_ok hT H ht hf hv hop
          · cases hr
      · cases hr
    · cases hr
  · -- indexAddr
    split at hr
    · rename_i e _ _ z ht
      split at hr
      · rename_i d he; exact indexAddr_ok hT H ht he hr hop
      · cases hr
    · rename_i ht
      split at hr
      · rename_i he hx hk; cases hr; exact indexArr_ok hT H ht he hx hk hop
      · rename_i he hx hk; cases hr; exact indexArrE_ok hT H ht he hx hk hop
      · rename_i he hx hk; cases hr; exact indexArrR_ok hT H ht he hx hk hop
      · cases hr
    · cases hr
  · -- field
    split at hr
    · rename_i fs _ _ z ht
      split at hr
      · rename_i hf
        split at hr
        · rename_i d l hft hx
          split at hr
          · rename_i v hv
            cases hr
            exact field_ok hT H ht hf hft hx hv hop
          · cases hr
        · cases hr
      · cases hr
    · cases hr
  · -- index
    split at hr
    · rename_i _ _ z ht
      split at hr
      · rename_i l kk n e1 e2
        cases hr
        exact index_ok hT H ht e1 e2 hop
      · cases hr
    · cases hr
  · -- nilCheck
    rename_i x
    have hv := H.opnd x
    generalize hxv : a.eval x = xv at hv
    split at hr
    all_goals first
      | (rename_i e; cases hr; rw [e] at hv; cases hv; exact ⟨_, by simp [execOp, hop, hxv]; rfl, by rw [← hxv, ← e]; exact H.opnd x⟩)
      | (cases hr; done)
  · -- binOp
    split at hr
    · rename_i hy
      split at hr
      · rename_i ht; exact nilP_ok hT H ht hy hr hop
      · cases hr
    split at hr
    · rename_i hy
      split at hr
      · rename_i ht; exact nil_ok hT H ht hy hr hop
      · cases hr
    · split at hr
      · rename_i l hx
        split at hr
        · rename_i m hy; exact cmp_ok hT H hx hy hr hop
        · cases hr
      · rename_i b1 hx
        split at hr
        · rename_i b2 hy
          split at hr
          · rename_i ht
            have hu := (hT.get ht).bool rfl
            have hxv := repA_b (hx ▸ H.opnd _)
            have hyv := repA_b (hy ▸ H.opnd _)
            split at hr <;> first | (cases hr; done) | (simp only [Option.some.injEq] at hr; subst hr)
            · exact ⟨.bool (b1 == b2), bin_run hop hxv hyv rfl (by simp [binOp, run_equal_bool w _ b1 b2 hu]), .d (.b _)⟩
            · exact ⟨.bool (b1 != b2), bin_run hop hxv hyv rfl (by simp [binOp, run_equal_bool w _ b1 b2 hu, bne]), .d (.b _)⟩
          · cases hr
        · cases hr
      · exact aBin_ok H hr hop
  · -- not
    split at hr
    · rename_i e; cases hr; exact unNot_ok H e hop
    · cases hr
  · -- neg
    split at hr
    · rename_i e; cases hr; exact unNeg_ok H e hop
    · cases hr
  · -- xor
    split at hr
    · rename_i e
      cases hr
      have := repA_i (e ▸ H.opnd _)
      exact ⟨_, by simp [execOp, hop, this, Op.unary, Op.intBits, bitsOp], .d (.i _ _)⟩
    · cases hr
  · -- convert
    split at hr
    · rename_i e1 e2 e3; cases hr; exact convInt_ok hT H e1 e2 e3 hop
    · rename_i e1 e2 e3; cases hr; exact convStr_ok hT H e1 e2 e3 hop
    · rename_i e1 e2 e3
      split at hr
      · rename_i e4
        split at hr
        · rename_i hb
          cases hr
          have hz := Nat.eq_of_beq_eq_true hb
          subst hz
          intro l ⟨q1, q2⟩
          have hv := H.opnd ‹Operand›
          rw [e3] at hv
          exact convB_ok hT e1 e2 e4 hop (repA_sl hv) q1 q2
        · cases hr
      · cases hr
    · rename_i e1 e2 e3
      split at hr
      · rename_i e4
        cases hr
        have hv := repA_v (e3 ▸ H.opnd _)
        have hrun := fun c => run_convert_bytes_nil (P := P) w _ _ ((hT.get e1).slice rfl) ((hT.get e4).int rfl) 0 c _ ((hT.get e2).string rfl)
        exact ⟨.string ⟨#[]⟩, by simp [execOp, hop, hv, hrun]; rfl, .d (.s [])⟩
      · cases hr
    · rename_i e1 e2 e3
      split at hr
      · rename_i e4
        split at hr
        · rename_i hrow
          split at hr
          · rename_i hb
            split at hr
            · rename_i hb2
              cases hr
              have hz := Nat.eq_of_beq_eq_true hb
              subst hz
              have hz2 := Nat.eq_of_beq_eq_true hb2
              subst hz2
              intro l ⟨q1, q2, q3⟩
              have hv := H.opnd ‹Operand›
              rw [e3] at hv
              have := row_view (gd' := fun b => b < w.heap.size ∨ gd b) (h := h) (fun i o e => H.obj i o e) (fun b hb => .inr hb) (fun i o b e1 e2 => ?_) hrow q2 hv
              · exact convB_ok hT e1 e2 e4 hop this q1 q3
              · have hlt : b < w.heap.size := by
                  have hro := H.obj i o e1
                  cases hro with
                  | box _ hb1 hh => rw [e2] at hb1; cases hb1; exact lt_of_heap hh
                  | row0 hb1 => rw [e2] at hb1; cases hb1
                  | row hb1 hh => rw [e2] at hb1; cases hb1; exact lt_of_heap hh
                exact ⟨.inl hlt, hlt⟩
            · cases hr
          · cases hr
        · cases hr
      · cases hr
    · cases hr
  · -- slice
    split at hr
    · rename_i ht
      split at hr
      · rename_i he hx
        split at hr
        · rename_i hc
          split at hr
          · rename_i hu
            split at hr
            · rename_i hb
              split at hr
              · rename_i hn
                cases hr
                exact arrSl_ok hT H ht he hx hc hu (Nat.eq_of_beq_eq_true hb) (Nat.le_of_ble_eq_true hn) hop
              · cases hr
            · cases hr
          · cases hr
        · cases hr
      · rename_i he hx
        split at hr
        · rename_i hbd
          split at hr
          · rename_i hc
            split at hr
            · rename_i hu
              split at hr
              · rename_i hb
                split at hr
                · rename_i hn
                  cases hr
                  exact arrSl2_ok hT H ht he hbd hx hc hu (Nat.eq_of_beq_eq_true hb) (Nat.le_of_ble_eq_true hn) hop
                · cases hr
              · cases hr
            · cases hr
          · cases hr
        · cases hr
      · cases hr
    split at hr
    · rename_i hlo hhi
      split at hr
      · rename_i ht
        split at hr
        · rename_i e; exact sliceStr_ok hT H ht e hlo hhi hr hop
        · cases hr
      · rename_i ht
        split at hr
        · rename_i he e
          split at hr
          · rename_i hb; exact sliceSl_ok hT H ht he (Nat.eq_of_beq_eq_true hb) e hlo hhi hr hop
          · cases hr
        · rename_i he e
          split at hr
          · rename_i hb; exact sliceRsl_ok hT H ht he (Nat.eq_of_beq_eq_true hb) e hlo hhi hr hop
          · cases hr
        · cases hr
      · cases hr
    · cases hr
  · -- extract
    rename_i x k
    have hx := H.opnd x
    split at hr
    · rename_i l e
      split at hr
      · rename_i v hv
        cases hr
        rw [e] at hx
        generalize hxv : a.eval x = xv at hx
        cases hx with
        | @tup _ _ vs hz hr =>
          have hg := listAt_get hv
          have hlt := (List.getElem?_eq_some_iff.1 hg).1
          obtain ⟨u, hu⟩ : ∃ u, vs[k]? = some u := ⟨vs[k]'(by rw [hz]; exact hlt), Array.getElem?_eq_getElem (by rw [hz]; exact hlt)⟩
          have hrep := hr _ _ hg
          rw [getD_eq_of hu] at hrep
          exact ⟨u, by simp [execOp, hop, hxv, Instr.extract, hu], hrep⟩
      · cases hr
    · cases hr
  · -- makeFunc
    rename_i f first caps
    split at hr
    · rename_i hfirst
      cases hr
      obtain ⟨fl⟩ := first
      have hfl : fl = [] := hfirst
      subst hfl
      refine ⟨.func (.func f) #[] (caps.map a.eval), by simp [execOp, hop, Instr.makeFunc], .fn (by simp) (fun i x hx => ?_)⟩
      rw [List.getElem?_map] at hx
      cases hc : caps.toList[i]? with
      | none => rw [hc] at hx; cases hx
      | some y =>
        rw [hc] at hx
        simp only [Option.map_some, Option.some.injEq] at hx
        subst hx
        have hc' : caps[i]? = some y := by simpa using hc
        have : (caps.map a.eval).getD i undef = a.eval y := by rw [Array.getD_eq_getD_getElem?, Array.getElem?_map, hc']; rfl
        rw [this]; exact (H.opnd y).mono1 (Nat.le_refl _) (fun b _ hb => ⟨.inl hb, rfl⟩) (fun _ _ => rfl)
    · cases hr
  · -- len
    split at hr
    · rename_i has hts
      split at hr
      · rename_i ht
        split at hr
        · rename_i e; cases hr; exact lenStr_ok hT H ht e has hts hop
        · cases hr
      · rename_i ht
        split at hr
        · rename_i e; cases hr; exact sliceLen_ok hT H ht has hts hop (.inl ⟨_, _, e⟩)
        · rename_i e; cases hr; exact sliceLen_ok hT H ht has hts hop (.inr (.inl ⟨_, _, _, e⟩))
        · rename_i e; cases hr; exact sliceLen_ok hT H ht has hts hop (.inr (.inr ⟨_, rfl, e⟩))
        · cases hr
      · cases hr
    · cases hr
  · -- cap
    split at hr
    · rename_i has hts
      split at hr
      · rename_i ht
        split at hr
        · rename_i e; cases hr; exact capNil_ok hT ht (repA_v (e ▸ H.opnd _)) has hts hop
        · cases hr
      · cases hr
    · cases hr
  · -- min
    split at hr
    · rename_i has
      split at hr
      · rename_i e1 e2; cases hr; exact (minmax_ok H e1 e2 has).1 hop
      · cases hr
    · cases hr
  · -- max
    split at hr
    · rename_i has
      split at hr
      · rename_i e1 e2; cases hr; exact (minmax_ok H e1 e2 has).2 hop
      · cases hr
    · cases hr
  · -- clear
    rename_i as ts
    split at hr
    · rename_i x t has hts
      split at hr
      · rename_i ht
        split at hr
        · rename_i he hx
          split at hr
          · rename_i hid
            split at hr
            · rename_i hb1
              split at hr
              · rename_i hb2
                have := Nat.eq_of_beq_eq_true hb1
                subst this
                cases hr
                exact clear_ok hT H ht he hx hid (Nat.eq_of_beq_eq_true hb2) has hts hop
              · cases hr
            · cases hr
          · cases hr
        · cases hr
      · cases hr
    · cases hr
  · -- buildSlice
    split at hr
    · rename_i ht
      split at hr
      · rename_i d he
        split at hr
        · rename_i hle
          split at hr
          · split at hr
            · split at hr
              · rename_i hc
                split at hr
                · rename_i hl; cases hr; exact buildBox_ok hT H ht he hle hc hl hop
                · cases hr
              · cases hr
            · cases hr
          · rename_i l hl
            split at hr
            · cases hr; exact (buildSlice_ok hT H ht he hle hl hop).pub
            · cases hr; exact buildSlice_ok hT H ht he hle hl hop
        · cases hr
      · cases hr
    · cases hr
  · -- makeMap
    cases hr
    intro _ d _
    refine ⟨w.alloc (.map #[] 0), none, 0, .map (some w.heap.size), by simp [execOp, hop, run_makeMap], (Below.refl _ _).alloc (Nat.le_refl _) _, fun b hb => (by cases hb), fun gd' _ _ => ⟨.row0 (by simp [Lay.upd]) (by simp [Lay.upd]), .d (.o _ rfl)⟩⟩
  · -- makeSlice
    split at hr
    · rename_i ht
      split at hr
      · split at hr
        · rename_i he e1 e2
          split at hr
          · rename_i hnm
            split at hr
            · rename_i hc; cases hr; exact makeBox_ok hT H ht he e1 e2 (Nat.eq_of_beq_eq_true hnm) hc hop
            · cases hr
          · cases hr
        · cases hr
      · split at hr
        · rename_i he e1 e2; cases hr; exact makeSlice_ok hT H ht he e1 e2 hop
        · cases hr
    · cases hr
  · -- append
    split at hr
    · rename_i s x t t' has hts
      split at hr
      · rename_i hb
        have := Nat.eq_of_beq_eq_true hb
        subst this
        split at hr
        · rename_i ht
          split at hr
          · rename_i d he; exact append_ok hT H ht he hr has hts hop
          · cases hr
        · cases hr
      · split at hr
        · rename_i ht
          split at hr
          · rename_i he ht' hx
            split at hr
            · rename_i hb
              exact appendS_ok hT H ht ht' he (Nat.eq_of_beq_eq_true hb) hx hr has hts hop
            · cases hr
          · rename_i he ht' hx
            exact appendZ_ok hT H ht ht' he hx hr has hts hop
          · cases hr
        · cases hr
    · cases hr
  · cases hr
end
end Towline
