/- The engine, part six: addresses, numbers, texts; then all plain operations in one theorem. Over any program. -/
import Derived.Test.YtjdmnfjgmbnlbaaGreatDoorEngE
import Derived.Lib.SliceRun
import Derived.Laws.Cover3
import Derived.Laws.StructEq
import Derived.ChangeKeysEq
namespace Towline
open Go Go.RowKit
set_option linter.unusedVariables false
section
variable {P : Program} {T : Tys} {w : World} {gd : Nat → Prop} {L : Lay} {g : Nat → AVal} {h : Nat → Option AObj} {a : Act}
theorem aAddr_ok {n : Nat} {x y : AVal} {v : Value} (hv : RepA w L gd x v) (hy : aAddr n x = some y) : ∃ b o, v = .pointer (some ⟨b, o, none⟩) ∧ RepA w L gd y (.pointer (some ⟨b, o + n, none⟩)) := by
  cases hv with
  | ptr hb => simp only [aAddr, Option.some.injEq] at hy; subst hy; exact ⟨_, _, rfl, .ptr hb⟩
  | eptr hs hk => simp only [aAddr, Option.some.injEq] at hy; subst hy; exact ⟨_, _, rfl, by rw [Nat.add_assoc]; exact .eptr hs hk⟩
  | rptr hb => simp only [aAddr, Option.some.injEq] at hy; subst hy; exact ⟨_, _, rfl, by rw [Nat.add_assoc]; exact .rptr hb⟩
  | d hd =>
    cases hd with
    | pt ds b hr =>
      simp only [aAddr, Option.some.injEq] at hy
      subst hy
      refine ⟨b, 0, rfl, ?_⟩
      have := RepA.eptr (L := L) (off := n) hr (k := 0) (by decide)
      simpa using this
    | _ => simp [aAddr] at hy
  | _ => simp [aAddr] at hy
theorem fieldAddr_ok (hT : TysOk P T) (H : Holds w gd L g h a) {t : TypeId} {fs : List (Nat × Nat × TypeId)} {sz by_ : Nat} {z : List D} (ht : lookT t T = some ⟨.struct fs, sz, by_, z⟩) {x : Operand} {f off s : Nat} {ft : TypeId} {v : AVal}
    (hf : fieldAt f fs = some (off, s + 1, ft)) (hv : aAddr off (opnd g x) = some v) {o : Oper} (ho : o.op = .fieldAddr t x f) : (Res.val v).Ok P w gd L g h a o := by
  obtain ⟨fields, hu, hfs⟩ := (hT.get ht).struct rfl
  obtain ⟨b, off', hx, hrep⟩ := aAddr_ok (H.opnd x) hv
  have hg := fieldAt_get hf
  rw [← hfs, List.getElem?_map] at hg
  cases hfd : fields.toList[f]? with
  | none => rw [hfd] at hg; cases hg
  | some fd =>
    rw [hfd] at hg
    simp only [Option.map_some, Option.some.injEq, Prod.mk.injEq] at hg
    obtain ⟨e1, e2, e3⟩ := hg
    have hfd' : fields[f]? = some fd := by simpa using hfd
    cases hi : P.info? fd.type with
    | none => rw [hi] at e2; simp at e2
    | some i =>
      rw [hi] at e2
      simp only at e2
      refine ⟨_, ?_, hrep⟩
      simp [execOp, ho, Instr.fieldAt, run_underlying hu, hfd', Instr.sureAddr, hx, fieldPlace, Go.sizeOf, typeInfo, hi, e2, addr_add0, e1]
theorem indexAddr_ok (hT : TysOk P T) (H : Holds w gd L g h a) {t e : TypeId} {sz by_ : Nat} {z : List D} (ht : lookT t T = some ⟨.slice e, sz, by_, z⟩) {d : TyD} (he : lookT e T = some d) {x k : Operand} {r : Res}
    (hr : aIndex d.size (opnd g x) (opnd g k) = some r) {o : Oper} (ho : o.op = .indexAddr t x k) : r.Ok P w gd L g h a o := by
  have hu := (hT.get ht).slice rfl
  have hsz := (hT.get he).sizeOf w
  have hx := H.opnd x
  have hk := H.opnd k
  generalize hxv : a.eval x = xv at hx
  generalize hkv : a.eval k = kv at hk
  unfold aIndex at hr
  split at hr
  · rename_i szz n f kk kn e1 e2
    rw [e1] at hx
    rw [e2] at hk
    have := repA_i hk
    subst this
    cases hb : Nat.beq d.size szz with
    | false => rw [hb] at hr; cases hr
    | true =>
      rw [hb] at hr
      simp only [Option.some.injEq] at hr
      subst hr
      have hd := Nat.eq_of_beq_eq_true hb
      intro ⟨h0, h1⟩
      have hs := repA_sl hx
      have hs' := hs
      cases hs with
      | sl0 => omega
      | sl _ _ _ b off c cs hn hc hm hg hbb hz hcell hrep =>
        refine ⟨.pointer (some ⟨b, off + kn.toNat * szz + 0, none⟩), ?_, .eptr hs' (by omega)⟩
        simp [execOp, ho, Instr.indexAt, hkv, hxv, asIntOf, run_underlying hu, h0, h1, hsz, addr_add0, hd]
  · rename_i id szz off n kk kn e1 e2
    rw [e1] at hx
    rw [e2] at hk
    have := repA_i hk
    subst this
    cases hb : Nat.beq d.size szz with
    | false => rw [hb] at hr; cases hr
    | true =>
      rw [hb] at hr
      simp only [Option.some.injEq] at hr
      subst hr
      have hd := Nat.eq_of_beq_eq_true hb
      intro ⟨h0, h1⟩
      cases hx with
      | rsl hc hbb ha =>
        obtain ⟨b, hblk⟩ := hbb (by omega)
        have ha := ha (.inr (by omega))
        subst ha
        refine ⟨.pointer (some ⟨b, (off + kn.toNat) * szz + 0, none⟩), ?_, .rptr hblk⟩
        simp [execOp, ho, Instr.indexAt, hkv, hxv, asIntOf, run_underlying hu, h0, h1, hsz, hblk, addr_add0, hd, Nat.add_mul]
  · cases hr
/-- Numbers. -/
theorem arith_ok {wr : Bool} {k : IntKind} {n : Int} {o : Oper} (hrun : (execOp a.eval o).run P w = .ok (.value (.int k (k.wrap n))) w) : (arith wr k n).Ok P w gd L g h a o := by
  cases k <;> cases wr <;> first
    | exact ⟨_, hrun, .d (.i _ _)⟩
    | (intro hc; rw [IntWalk.i64_in n hc] at hrun; exact ⟨_, hrun, .d (.i _ _)⟩)
theorem bin_run {op : BinOp} {t t' : TypeId} {x y : Operand} {u v r : Value} {o : Oper} (ho : o.op = .binOp op t x y t') (hx : a.eval x = u) (hy : a.eval y = v) (hg : eqGuard op t x y u v = pure ())
    (hr : (binOp op t u v).run P w = .ok r w) : (execOp a.eval o).run P w = .ok (.value r) w := by
  simp [execOp, ho, hx, hy, hg, hr]
theorem nilP_ok (hT : TysOk P T) (H : Holds w gd L g h a) {op : BinOp} {t t' e : TypeId} {sz by_ : Nat} {z : List D} (ht : lookT t T = some ⟨.pointer e, sz, by_, z⟩) {x y : Operand} (hy : isNilP (opnd g y) = true) {r : Res} (hr : aNilP op (opnd g x) = some r) {o : Oper} (ho : o.op = .binOp op t x y t') : r.Ok P w gd L g h a o := by
  have hx := H.opnd x
  have hyv := H.opnd y
  unfold isNilP at hy
  split at hy
  rotate_left
  · cases hy
  rename_i e2
  rw [e2] at hyv
  have hyv := repA_v hyv
  obtain ⟨u, h1, h2⟩ := (hT.get ht).und
  have hu : P.underlying t = some (.pointer e) := by
    cases u <;> simp [kindOf] at h2
    subst h2
    exact h1
  have hp : P.underlying t = some (.pointer (P.pointee t)) := by
    rw [hu]
    unfold Program.pointee
    rw [hu]
  unfold aNilP at hr
  split at hr
  · rename_i id off e1
    rw [e1] at hx
    generalize hxv : a.eval x = xv at hx
    cases hx with
    | @ptr _ _ _ b hb =>
      split at hr <;> first | (cases hr; done) | (simp only [Option.some.injEq] at hr; subst hr)
      · exact ⟨.bool false, bin_run ho hxv hyv (by rfl) (run_eql_pointer_nil w t _ hp), .d (.b _)⟩
      · exact ⟨.bool true, bin_run ho hxv hyv (by rfl) (run_neq_pointer_nil w t _ hp), .d (.b _)⟩
  · rename_i ds e1
    rw [e1] at hx
    generalize hxv : a.eval x = xv at hx
    cases hx with
    | d hx =>
      cases hx with
      | pt _ b hq =>
        split at hr <;> first | (cases hr; done) | (simp only [Option.some.injEq] at hr; subst hr)
        · exact ⟨.bool false, bin_run ho hxv hyv (by rfl) (run_eql_pointer_nil w t _ hp), .d (.b _)⟩
        · exact ⟨.bool true, bin_run ho hxv hyv (by rfl) (run_neq_pointer_nil w t _ hp), .d (.b _)⟩
  · rename_i e1
    rw [e1] at hx
    have hxv := repA_v hx
    split at hr <;> first | (cases hr; done) | (simp only [Option.some.injEq] at hr; subst hr)
    · exact ⟨.bool true, bin_run ho hxv hyv (by rfl) (run_eql_pointer_nil w t _ hp), .d (.b _)⟩
    · exact ⟨.bool false, bin_run ho hxv hyv (by rfl) (run_neq_pointer_nil w t _ hp), .d (.b _)⟩
  · cases hr
theorem aBin_ok (H : Holds w gd L g h a) {wr : Bool} {op : BinOp} {t t' : TypeId} {x y : Operand} {r : Res} (hr : aBin wr op (opnd g x) (opnd g y) = some r) {o : Oper} (ho : o.op = .binOp op t x y t') : r.Ok P w gd L g h a o := by
  have hx := H.opnd x
  have hy := H.opnd y
  unfold aBin at hr
  split at hr
  · rename_i k a1 k' b1 e1 e2
    rw [e1] at hx
    rw [e2] at hy
    have hx := repA_i hx
    have hy := repA_i hy
    have run := fun {r : Value} (hr : (binOp op t (.int k a1) (.int k' b1)).run P w = .ok r w) => bin_run (P := P) (w := w) ho hx hy (by cases op <;> rfl) hr
    split at hr
    · simp only [Option.some.injEq] at hr
      subst hr
      intro hc
      exact ⟨_, run (by simp [binOp, Op.shift, show ¬ b1 < 0 from by omega]; rfl), .d (.i _ _)⟩
    · simp only [Option.some.injEq] at hr
      subst hr
      intro hc
      exact ⟨_, run (by simp [binOp, Op.shift, show ¬ b1 < 0 from by omega]; rfl), .d (.i _ _)⟩
    · cases hk : kEq k k' with
      | false => rw [hk] at hr; cases hr
      | true =>
        rw [hk] at hr
        have := kEq_eq hk
        subst this
        simp only at hr
        unfold aBinI at hr
        split at hr <;> first | (cases hr; done) | (simp only [Option.some.injEq] at hr; subst hr) 
        · exact arith_ok (run (by simp [binOp, Op.intArith]))
        · exact arith_ok (run (by simp [binOp, Op.intArith]))
        · exact arith_ok (run (by simp [binOp, Op.intArith]))
        · exact ⟨.bool (a1 == b1), run (by simp [binOp, Op.intCmp]), .d (.b _)⟩
        · exact ⟨.bool (a1 != b1), run (by simp [binOp, Op.intCmp]), .d (.b _)⟩
        · exact ⟨.bool (decide (a1 < b1)), run (by simp [binOp, Op.intCmp]), .d (.b _)⟩
        · exact ⟨.bool (decide (a1 ≤ b1)), run (by simp [binOp, Op.intCmp]), .d (.b _)⟩
        · exact ⟨.bool (decide (b1 < a1)), run (by simp [binOp, Op.intCmp]), .d (.b _)⟩
        · exact ⟨.bool (decide (b1 ≤ a1)), run (by simp [binOp, Op.intCmp]), .d (.b _)⟩
        · exact fun hc => ⟨_, run (by simp [binOp, Op.intDiv, hc]), .d (.i _ _)⟩
        · exact fun hc => ⟨_, run (by simp [binOp, Op.intDiv, hc]), .d (.i _ _)⟩
        · exact ⟨_, run (by simp [binOp, Op.intBits, bitsOp]), .d (.i _ _)⟩
        · exact ⟨_, run (by simp [binOp, Op.intBits, bitsOp]), .d (.i _ _)⟩
        · exact ⟨_, run (by simp [binOp, Op.intBits, bitsOp]), .d (.i _ _)⟩
        · exact ⟨_, run (by simp [binOp, Op.intBits, bitsOp]), .d (.i _ _)⟩
  · rename_i a1 b1 e1 e2
    rw [e1] at hx
    rw [e2] at hy
    have hx := repA_s hx
    have hy := repA_s hy
    have run := fun {r : Value} (hr : (binOp op t (.string ⟨a1.toArray⟩) (.string ⟨b1.toArray⟩)).run P w = .ok r w) => bin_run (P := P) (w := w) ho hx hy (by cases op <;> rfl) hr
    split at hr <;> first | (cases hr; done) | (simp only [Option.some.injEq] at hr; subst hr)
    · intro hc
      have hc' : ¬ 9223372036854775807 < (a1.length : Int) + b1.length := by omega
      refine ⟨.string (⟨a1.toArray⟩ ++ ⟨b1.toArray⟩), run (by simp [binOp, Op.stringOp, ByteArray.size_mk', hc']), ?_⟩
      have e : (⟨a1.toArray⟩ ++ ⟨b1.toArray⟩ : ByteArray) = ⟨(a1 ++ b1).toArray⟩ := by apply ByteArray.ext; simp
      rw [e]
      exact .d (.s _)
    · exact ⟨.bool (a1 == b1), run (by simp [binOp, Op.stringOp]), .d (.b _)⟩
    · exact ⟨.bool (a1 != b1), run (by simp [binOp, Op.stringOp, bne]), .d (.b _)⟩
    · exact ⟨.bool (Op.bytesLess a1 b1), run (by simp [binOp, Op.stringOp]), .d (.b _)⟩
  · cases hr
theorem part1 {t : TypeId} {d : TyD} (hd : TyOk P t d) (hs : isStr d.kind = false) {vs : Array Value} {off : Nat} (h : off < vs.size) : (part t vs off).run P w = .ok (vs.getD off undef) w := by
  have hisAgg := hd.isAgg w
  rw [hs] at hisAgg
  simp [part, hisAgg, h]
theorem eqF_ok (hT : TysOk P T) {l m : List AVal} {xs ys : Array Value} (hx1 : xs.size = l.length) (hx2 : ∀ i x, l[i]? = some x → RepA w L gd x (xs.getD i undef)) (hy1 : ys.size = m.length) (hy2 : ∀ i x, m[i]? = some x → RepA w L gd x (ys.getD i undef)) {n : Nat} :
    ∀ (fields : List Field) (b : Bool), (fields.all fun f => f.name != "_") = true → eqF T (fields.map fun f => (f.offset, match P.info? f.type with | some i => i.size | none => 0, f.type)) l m = some b →
      (Op.eqFields (n + 1) xs ys fields).run P w = .ok b w ∧ (fields.all (plainF P)) = true := by
  intro fields
  induction fields with
  | nil => intro b _ h; simp only [List.map_nil, eqF, Option.some.injEq] at h; subst h; exact ⟨by simp [Op.eqFields], rfl⟩
  | cons f fs ih =>
    intro b hn h
    simp only [List.all_cons, Bool.and_eq_true] at hn
    have hne : f.name ≠ "_" := by simpa using hn.1
    simp only [List.map_cons, eqF] at h
    have step : ∀ {d : TyD} {u v : Value} {e c : Bool}, lookT f.type T = some d → isStr d.kind = false → f.offset < xs.size → f.offset < ys.size → xs.getD f.offset undef = u → ys.getD f.offset undef = v → (Op.equalIn (n + 1) f.type u v).run P w = .ok e w →
        eqF T (fs.map fun f => (f.offset, match P.info? f.type with | some i => i.size | none => 0, f.type)) l m = some c → plainF P f = true →
        (Op.eqFields (n + 1) xs ys (f :: fs)).run P w = .ok (e && c) w ∧ ((f :: fs).all (plainF P)) = true := by
      intro d u v e c ht hs hlx hly hu hv he hc hp
      obtain ⟨i1, i2⟩ := ih c hn.2 hc
      refine ⟨?_, by simp only [List.all_cons, hp, i2]; rfl⟩
      simp only [Op.eqFields, if_pos hne, Sem.run_bind, part1 (hT.get ht) hs hlx, part1 (hT.get ht) hs hly, hu, hv, he, Result.andThen_ok]
      cases e
      · simp
      · simp [i1]
    split at h
    · rename_i k0 _ _ _ ht
      split at h
      · rename_i k a k' b' ea eb
        split at h
        · rename_i hk
          split at h
          · rename_i c hc
            simp only [Option.some.injEq] at h
            subst h
            have hk := kEq_eq hk
            subst hk
            have h1 := repA_i (hx2 _ _ ea)
            have h2 := repA_i (hy2 _ _ eb)
            have hu := (hT.get ht).int rfl
            exact step ht rfl (by rw [hx1]; exact (List.getElem?_eq_some_iff.1 ea).1) (by rw [hy1]; exact (List.getElem?_eq_some_iff.1 eb).1) h1 h2 (run_equalIn_int w n _ k k0 a b' hu) hc (by unfold plainF; rw [hu])
          · cases h
        · cases h
      · cases h
    · rename_i ht
      split at h
      · rename_i a b' ea eb
        split at h
        · rename_i c hc
          simp only [Option.some.injEq] at h
          subst h
          have h1 := repA_b (hx2 _ _ ea)
          have h2 := repA_b (hy2 _ _ eb)
          have hu := (hT.get ht).bool rfl
          exact step ht rfl (by rw [hx1]; exact (List.getElem?_eq_some_iff.1 ea).1) (by rw [hy1]; exact (List.getElem?_eq_some_iff.1 eb).1) h1 h2 (run_equalIn_bool' w n _ a b' hu) hc (by unfold plainF; rw [hu])
        · cases h
      · cases h
    · rename_i ht
      split at h
      · rename_i a b' ea eb
        split at h
        · rename_i c hc
          simp only [Option.some.injEq] at h
          subst h
          have h1 := repA_s (hx2 _ _ ea)
          have h2 := repA_s (hy2 _ _ eb)
          have hu := (hT.get ht).string rfl
          refine step ht rfl (by rw [hx1]; exact (List.getElem?_eq_some_iff.1 ea).1) (by rw [hy1]; exact (List.getElem?_eq_some_iff.1 eb).1) h1 h2 ?_ hc (by unfold plainF; rw [hu])
          rw [run_equalIn_string w n _ _ _ hu, ByteArray.toList_eq, ByteArray.toList_eq]
        · cases h
      · cases h
    · cases h
theorem eqF_plain (hT : TysOk P T) {l m : List AVal} : ∀ (fields : List Field) (b : Bool), eqF T (fields.map fun f => (f.offset, match P.info? f.type with | some i => i.size | none => 0, f.type)) l m = some b →
      (fields.all (plainF P)) = true := by
  intro fields
  induction fields with
  | nil => intro b _; rfl
  | cons f fs ih =>
    intro b h
    simp only [List.map_cons, eqF] at h
    simp only [List.all_cons, Bool.and_eq_true]
    split at h
    · rename_i ht
      split at h
      · split at h
        · split at h
          · rename_i c hc; exact ⟨by unfold plainF; rw [(hT.get ht).int rfl], ih c hc⟩
          · cases h
        · cases h
      · cases h
    · rename_i ht
      split at h
      · split at h
        · rename_i c hc; exact ⟨by unfold plainF; rw [(hT.get ht).bool rfl], ih c hc⟩
        · cases h
      · cases h
    · rename_i ht
      split at h
      · split at h
        · rename_i c hc; exact ⟨by unfold plainF; rw [(hT.get ht).string rfl], ih c hc⟩
        · cases h
      · cases h
    · cases h
theorem eqA_ok (hT : TysOk P T) {e : TypeId} {k0 : IntKind} {by_ : Nat} {z : List D} (he : lookT e T = some ⟨.int k0, 1, by_, z⟩) {l m : List AVal} {xs ys : Array Value} (hx1 : xs.size = l.length) (hx2 : ∀ i x, l[i]? = some x → RepA w L gd x (xs.getD i undef)) (hy1 : ys.size = m.length) (hy2 : ∀ i x, m[i]? = some x → RepA w L gd x (ys.getD i undef)) {n : Nat} :
    ∀ (is : List Nat) (b : Bool), eqA is l m = some b → (Op.eqItems (n + 1) e 1 xs ys is).run P w = .ok b w := by
  intro is
  induction is with
  | nil => intro b h; simp only [eqA, Option.some.injEq] at h; subst h; simp [Op.eqItems]
  | cons i is ih =>
    intro b h
    simp only [eqA] at h
    split at h
    · rename_i k a k' b' ea eb
      split at h
      · rename_i hk
        split at h
        · rename_i c hc
          simp only [Option.some.injEq] at h
          subst h
          have hk := kEq_eq hk
          subst hk
          have h1 := repA_i (hx2 _ _ ea)
          have h2 := repA_i (hy2 _ _ eb)
          have hu := (hT.get he).int rfl
          have hlx : i < xs.size := by rw [hx1]; exact (List.getElem?_eq_some_iff.1 ea).1
          have hly : i < ys.size := by rw [hy1]; exact (List.getElem?_eq_some_iff.1 eb).1
          simp only [Op.eqItems, Nat.mul_one, Sem.run_bind, part1 (hT.get he) rfl hlx, part1 (hT.get he) rfl hly, h1, h2, run_equalIn_int w n e k k0 a b' hu, Result.andThen_ok]
          cases hab : (a == b')
          · simp
          · simp [ih c hc]
        · cases h
      · cases h
    · cases h
theorem indexArr_ok (hT : TysOk P T) (H : Holds w gd L g h a) {t e : TypeId} {n sz by_ : Nat} {z : List D} (ht : lookT t T = some ⟨.array n e, sz, by_, z⟩) {d : TyD} (he : lookT e T = some d) {x k : Operand} {id off : Nat} {kk : IntKind} {kn : Int} (hx : opnd g x = .ptr id off) (hk : opnd g k = .d (.i kk kn)) {o : Oper} (ho : o.op = .indexAddr t x k) :
    (Res.cond (.ptr id (off + kn.toNat * d.size)) (0 ≤ kn ∧ kn < n)).Ok P w gd L g h a o := by
  intro ⟨h0, h1⟩
  have hu := (hT.get ht).array rfl
  have hsz := (hT.get he).sizeOf w
  have hv := H.opnd x
  rw [hx] at hv
  have hkv := repA_i (hk ▸ H.opnd k)
  generalize hxv : a.eval x = xv at hv
  cases hv with
  | @ptr _ _ _ b hb =>
    refine ⟨.pointer (some ⟨b, off + kn.toNat * d.size, none⟩), ?_, .ptr hb⟩
    simp [execOp, ho, Instr.indexAt, hkv, hxv, asIntOf, run_underlying hu, h0, h1, hsz, addr_add0, Instr.sureAddr]
theorem indexArrE_ok (hT : TysOk P T) (H : Holds w gd L g h a) {t e : TypeId} {n sz by_ : Nat} {z : List D} (ht : lookT t T = some ⟨.array n e, sz, by_, z⟩) {d : TyD} (he : lookT e T = some d) {x k : Operand} {esz m : Nat} {f : Nat → List D} {j off : Nat} {kk : IntKind} {kn : Int} (hx : opnd g x = .eptr esz m f j off) (hk : opnd g k = .d (.i kk kn)) {o : Oper} (ho : o.op = .indexAddr t x k) :
    (Res.cond (.eptr esz m f j (off + kn.toNat * d.size)) (0 ≤ kn ∧ kn < n)).Ok P w gd L g h a o := by
  intro ⟨h0, h1⟩
  have hu := (hT.get ht).array rfl
  have hsz := (hT.get he).sizeOf w
  have hv := H.opnd x
  rw [hx] at hv
  have hkv := repA_i (hk ▸ H.opnd k)
  generalize hxv : a.eval x = xv at hv
  cases hv with
  | @eptr _ _ _ _ _ _ b o' _ _ hb hj =>
    refine ⟨.pointer (some ⟨b, o' + j * esz + (off + kn.toNat * d.size), none⟩), ?_, .eptr hb hj⟩
    simp [execOp, ho, Instr.indexAt, hkv, hxv, asIntOf, run_underlying hu, h0, h1, hsz, addr_add0, Instr.sureAddr, Nat.add_assoc]
theorem indexArrR_ok (hT : TysOk P T) (H : Holds w gd L g h a) {t e : TypeId} {n sz by_ : Nat} {z : List D} (ht : lookT t T = some ⟨.array n e, sz, by_, z⟩) {d : TyD} (he : lookT e T = some d) {x k : Operand} {id esz j off : Nat} {kk : IntKind} {kn : Int} (hx : opnd g x = .rptr id esz j off) (hk : opnd g k = .d (.i kk kn)) {o : Oper} (ho : o.op = .indexAddr t x k) :
    (Res.cond (.rptr id esz j (off + kn.toNat * d.size)) (0 ≤ kn ∧ kn < n)).Ok P w gd L g h a o := by
  intro ⟨h0, h1⟩
  have hu := (hT.get ht).array rfl
  have hsz := (hT.get he).sizeOf w
  have hv := H.opnd x
  rw [hx] at hv
  have hkv := repA_i (hk ▸ H.opnd k)
  generalize hxv : a.eval x = xv at hv
  cases hv with
  | @rptr _ _ _ _ _ b hb =>
    refine ⟨.pointer (some ⟨b, j * esz + (off + kn.toNat * d.size), none⟩), ?_, .rptr hb⟩
    simp [execOp, ho, Instr.indexAt, hkv, hxv, asIntOf, run_underlying hu, h0, h1, hsz, addr_add0, Instr.sureAddr, Nat.add_assoc]
theorem cmp_ok (hT : TysOk P T) (H : Holds w gd L g h a) {op : BinOp} {t t' : TypeId} {x y : Operand} {l m : List AVal} (hx : opnd g x = .agg l) (hy : opnd g y = .agg m) {r : Res} (hr : aCmp T op t l m = some r) {o : Oper} (ho : o.op = .binOp op t x y t') : r.Ok P w gd L g h a o := by
  obtain ⟨xs, ex, x1, _, x3⟩ := repA_agg (hx ▸ H.opnd x)
  obtain ⟨ys, ey, y1, _, y3⟩ := repA_agg (hy ▸ H.opnd y)
  unfold aCmp at hr
  split at hr
  · rename_i fs sz by_ z ht
    split at hr
    · rename_i b hb
      obtain ⟨fields, hu, hfs⟩ := (hT.get ht).struct rfl
      have hc := (hT.get ht).ceq
      unfold cmpOk at hc
      rw [hu] at hc
      have hfo : P.fieldsOf t = fields := by unfold Program.fieldsOf; rw [hu]
      rw [← hfs] at hb
      have hall : (fields.toList.all (plainF P)) = true := eqF_plain hT fields.toList b hb
      simp only [hall, Bool.not_true, Bool.false_or, Bool.and_eq_true, Bool.not_eq_true'] at hc
      obtain ⟨⟨c1, c2⟩, c3⟩ := hc
      obtain ⟨e1, _⟩ := eqF_ok hT x1 x3 y1 y3 (n := 9998) fields.toList b c1 hb
      have he : (Op.equalIn 10000 t (.agg xs) (.agg ys)).run P w = .ok b w := by
        rw [run_equalIn_struct w 9999 t xs ys (by rw [hfo]; exact hu) c2, hfo]; exact e1
      have hg := fun op => run_eqGuard_agg (P := P) w op t x y xs ys c3
      split at hr <;> first | (cases hr; done) | (simp only [Option.some.injEq] at hr; subst hr)
      · refine ⟨.bool b, ?_, .d (.b _)⟩
        simp [execOp, ho, ex, ey, hg, run_eql_struct, he]
      · refine ⟨.bool (!b), ?_, .d (.b _)⟩
        simp [execOp, ho, ex, ey, hg, run_neq_struct, he]
    · cases hr
  · rename_i n e sz by_ z ht
    split at hr
    · rename_i k0 sz2 by2 z2 he
      split at hr
      · rename_i hsz
        split at hr
        · rename_i b hb
          have := Nat.eq_of_beq_eq_true hsz
          subst this
          have hu := (hT.get ht).array rfl
          have hue := (hT.get he).int rfl
          have hc := (hT.get ht).ceq
          unfold cmpOk at hc
          rw [hu] at hc
          simp only [hue, Bool.not_eq_true'] at hc
          obtain ⟨i, i1, _, i3, _⟩ := (hT.get he).info'
          have hcell : P.cellsOf e = 1 := by simp [Program.cellsOf, i1, i3]
          have hq : (Op.equalIn 10000 t (.agg xs) (.agg ys)).run P w = .ok b w := by
            rw [run_equalIn_array (P := P) (w := w) 9999 xs ys hu i1, hcell]
            exact eqA_ok hT he x1 x3 y1 y3 (n := 9998) _ b hb
          have hg := fun op => run_eqGuard_agg (P := P) w op t x y xs ys hc
          split at hr <;> first | (cases hr; done) | (simp only [Option.some.injEq] at hr; subst hr)
          · refine ⟨.bool b, ?_, .d (.b _)⟩
            simp [execOp, ho, ex, ey, hg, run_eql_struct, hq]
          · refine ⟨.bool (!b), ?_, .d (.b _)⟩
            simp [execOp, ho, ex, ey, hg, run_neq_struct, hq]
        · cases hr
      · cases hr
    · cases hr
  · cases hr
theorem nil_ok (hT : TysOk P T) (H : Holds w gd L g h a) {op : BinOp} {t t' e : TypeId} {sz by_ : Nat} {z : List D} (ht : lookT t T = some ⟨.slice e, sz, by_, z⟩) {x y : Operand} (hy : isNil (opnd g y) = true) {r : Res} (hr : aNil op (opnd g x) = some r) {o : Oper} (ho : o.op = .binOp op t x y t') : r.Ok P w gd L g h a o := by
  have hu := (hT.get ht).slice rfl
  have hx := H.opnd x
  have hyv : a.eval y = .slice none 0 0 := by
    have hv := H.opnd y
    unfold isNil at hy
    split at hy
    · rename_i e; rw [e] at hv; exact repA_v hv
    · cases hy
  have sl : ∀ (A : Option Addr) (n c : Nat), a.eval x = .slice A n c → (op = .eql → (execOp a.eval o).run P w = .ok (.value (.bool A.isNone)) w) ∧ (op = .neq → (execOp a.eval o).run P w = .ok (.value (.bool (!A.isNone))) w) := by
    intro A n c hxv
    refine ⟨fun hop => ?_, fun hop => ?_⟩
    · subst hop
      have := Lib.run_eql_slice_nil (P := P) w t e A n c 0 0 hu
      exact bin_run ho hxv hyv rfl this
    · subst hop
      have := run_neq_slice_nil (P := P) w t e A n c hu
      exact bin_run ho hxv hyv rfl this
  unfold aNil at hr
  split at hr
  · rename_i sz' n f e
    rw [e] at hx
    have hs := repA_sl hx
    generalize hxv : a.eval x = xv at hs
    have key : ∃ A c, xv = .slice A n c ∧ (0 < n → A.isNone = false) := by
      cases hs with
      | sl0 => exact ⟨_, _, rfl, fun h => by omega⟩
      | sl => exact ⟨_, _, rfl, fun _ => rfl⟩
    obtain ⟨A, c, rfl, hA⟩ := key
    obtain ⟨k1, k2⟩ := sl A n c hxv
    split at hr <;> first | (cases hr; done) | (simp only [Option.some.injEq] at hr; subst hr)
    · exact ⟨_, k1 rfl, hA⟩
    · exact ⟨_, k2 rfl, fun h => by rw [hA h]; rfl⟩
  · rename_i id sz' q n e
    rw [e] at hx
    generalize hxv : a.eval x = xv at hx
    have key : ∃ A c, xv = .slice A n c ∧ (0 < n → A.isNone = false) := by
      cases hx with
      | rsl hc hb ha =>
        refine ⟨_, _, rfl, fun h => ?_⟩
        obtain ⟨b, hb⟩ := hb h
        rw [ha (.inr (by omega)), hb]; rfl
    obtain ⟨A, c, rfl, hA⟩ := key
    obtain ⟨k1, k2⟩ := sl A n c hxv
    split at hr <;> first | (cases hr; done) | (simp only [Option.some.injEq] at hr; subst hr)
    · exact ⟨_, k1 rfl, hA⟩
    · exact ⟨_, k2 rfl, fun h => by rw [hA h]; rfl⟩
  · rename_i e
    rw [e] at hx
    obtain ⟨k1, k2⟩ := sl none 0 0 (repA_v hx)
    split at hr <;> first | (cases hr; done) | (simp only [Option.some.injEq] at hr; subst hr)
    · exact ⟨_, k1 rfl, .d (.b _)⟩
    · exact ⟨_, k2 rfl, .d (.b _)⟩
  · cases hr
theorem unNot_ok (H : Holds w gd L g h a) {t : TypeId} {x : Operand} {b : Bool} (hx : opnd g x = .d (.b b)) {o : Oper} (ho : o.op = .unOp .not t x) : (Res.val (.d (.b (!b)))).Ok P w gd L g h a o := by
  have := repA_b (hx ▸ H.opnd x)
  exact ⟨.bool (!b), by simp [execOp, ho, this, Op.unary], .d (.b _)⟩
theorem unNeg_ok (H : Holds w gd L g h a) {wr : Bool} {t : TypeId} {x : Operand} {k : IntKind} {n : Int} (hx : opnd g x = .d (.i k n)) {o : Oper} (ho : o.op = .unOp .neg t x) : (arith wr k (0 - n)).Ok P w gd L g h a o := by
  have := repA_i (hx ▸ H.opnd x)
  exact arith_ok (by simp [execOp, ho, this, Op.unary, Op.intArith])
theorem convInt_ok (hT : TysOk P T) (H : Holds w gd L g h a) {wr : Bool} {src dst : TypeId} {ds : TyD} {k k' : IntKind} {sz by_ : Nat} {z : List D} (hs : lookT src T = some ds) (hd : lookT dst T = some ⟨.int k, sz, by_, z⟩) {x : Operand} {n : Int} (hx : opnd g x = .d (.i k' n)) {o : Oper}
    (ho : o.op = .convert src dst x) : (arith wr k n).Ok P w gd L g h a o := by
  have hv := repA_i (hx ▸ H.opnd x)
  obtain ⟨u, hu, _⟩ := (hT.get hs).und
  exact arith_ok (by simp [execOp, ho, hv, convert, run_underlying hu, run_underlying ((hT.get hd).int rfl), Conv.intToInt])
theorem convStr_ok (hT : TysOk P T) (H : Holds w gd L g h a) {src dst : TypeId} {sz by_ sz' by_' : Nat} {z z' : List D} (hs : lookT src T = some ⟨.string, sz', by_', z'⟩) (hd : lookT dst T = some ⟨.string, sz, by_, z⟩) {x : Operand} {l : List UInt8} (hx : opnd g x = .d (.s l)) {o : Oper}
    (ho : o.op = .convert src dst x) : (Res.val (.d (.s l))).Ok P w gd L g h a o := by
  have hv := repA_s (hx ▸ H.opnd x)
  exact ⟨_, by simp [execOp, ho, hv, convert, run_underlying ((hT.get hs).string rfl), run_underlying ((hT.get hd).string rfl)], .d (.s _)⟩
theorem extract_mk' (l : List UInt8) (x y : Nat) (h : x ≤ y) : (ByteArray.mk l.toArray).extract x y = ⟨((l.take y).drop x).toArray⟩ := by
  rw [ByteArray.extract_mk, List.drop_take]
theorem optI_ok (H : Holds w gd L g h a) {x : Option Operand} {r : Option Int} (hx : optI g x = some r) : (x.map a.eval = none ∧ r = none) ∨ ∃ k n, x.map a.eval = some (.int k n) ∧ r = some n := by
  cases x with
  | none => left; simp [optI] at hx; exact ⟨rfl, hx.symm⟩
  | some x =>
    right
    have hv := H.opnd x
    simp only [optI] at hx
    split at hx
    · rename_i k n e
      rw [e] at hv
      simp only [Option.some.injEq] at hx
      exact ⟨k, n, by simp [repA_i hv], hx.symm⟩
    · cases hx
theorem bounds_ok {lo hi : Option Value} {ra rb : Option Int} (hlo : (lo = none ∧ ra = none) ∨ ∃ k n, lo = some (.int k n) ∧ ra = some n) (hhi : (hi = none ∧ rb = none) ∨ ∃ k n, hi = some (.int k n) ∧ rb = some n) (n c : Nat) (hn : n ≤ c) (isS : Bool) (w : World)
    (hq : ∀ q, (sliceOf n ra rb).2.2 = some q → q) : (Instr.sliceBounds isS n c lo hi none).run P w = .ok ((sliceOf n ra rb).1, (sliceOf n ra rb).2.1, c) w ∧ (sliceOf n ra rb).1 ≤ (sliceOf n ra rb).2.1 ∧ (sliceOf n ra rb).2.1 ≤ n := by
  rcases hlo with ⟨rfl, rfl⟩ | ⟨k, x, rfl, rfl⟩ <;> rcases hhi with ⟨rfl, rfl⟩ | ⟨k', y, rfl, rfl⟩
  · exact ⟨by simp [Instr.sliceBounds, sliceOf], by simp [sliceOf], by simp [sliceOf]⟩
  · have hc : 0 ≤ y ∧ y ≤ (n : Int) := hq _ rfl
    refine ⟨?_, by simp [sliceOf], by simp only [sliceOf]; omega⟩
    simp only [Instr.sliceBounds, Instr.sliceBound, sliceOf, asIntOf, Sem.run_bind, Sem.run_pure, Result.andThen_ok, Sem.run_ite, if_pos (show 0 ≤ y ∧ y ≤ (c : Int) from by omega)]
  · have hc : 0 ≤ x ∧ x ≤ (n : Int) := hq _ rfl
    refine ⟨?_, by simp only [sliceOf]; omega, by simp [sliceOf]⟩
    simp only [Instr.sliceBounds, Instr.sliceBound, sliceOf, asIntOf, Sem.run_bind, Sem.run_pure, Result.andThen_ok, Sem.run_ite, if_pos (show 0 ≤ x ∧ x ≤ (n : Int) from hc)]
  · have hc : 0 ≤ x ∧ x ≤ y ∧ y ≤ (n : Int) := hq _ rfl
    refine ⟨?_, by simp only [sliceOf]; omega, by simp only [sliceOf]; omega⟩
    simp only [Instr.sliceBounds, Instr.sliceBound, sliceOf, asIntOf, Sem.run_bind, Sem.run_pure, Result.andThen_ok, Sem.run_ite, if_pos (show 0 ≤ y ∧ y ≤ (c : Int) from by omega),
      if_pos (show 0 ≤ x ∧ x ≤ ((y.toNat : Nat) : Int) from by omega)]
theorem mkCond_ok {v : AVal} {c : Option Prop} {o : Oper} (h1 : (∀ q, c = some q → q) → ∃ u, (execOp a.eval o).run P w = .ok (.value u) w ∧ RepA w L gd v u) : (mkCond v c).Ok P w gd L g h a o := by
  cases c with
  | none => exact h1 (fun q hq => by cases hq)
  | some c => exact fun hc => h1 (fun q hq => by cases hq; exact hc)
theorem cutS_eq (l : List UInt8) (ra rb : Option Int) : cutS l ra rb = (l.take (sliceOf l.length ra rb).2.1).drop (sliceOf l.length ra rb).1 := by
  cases ra <;> cases rb <;> simp [cutS, sliceOf]
theorem sliceStr_ok (hT : TysOk P T) (H : Holds w gd L g h a) {t : TypeId} {sz by_ : Nat} {z : List D} (ht : lookT t T = some ⟨.string, sz, by_, z⟩) {x : Operand} {lo hi : Option Operand} {ra rb : Option Int} {l : List UInt8} (hx : opnd g x = .d (.s l)) {r : Res}
    (hlo : optI g lo = some ra) (hhi : optI g hi = some rb) (hr : aSlice (.d (.s l)) ra rb = some r) {o : Oper} (ho : o.op = .slice t x lo hi none) : r.Ok P w gd L g h a o := by
  have hv := repA_s (hx ▸ H.opnd x)
  have hu := (hT.get ht).string rfl
  have hsz : (ByteArray.mk l.toArray).size = l.length := by simp [ByteArray.size]
  simp only [aSlice, Option.some.injEq] at hr
  subst hr
  refine mkCond_ok fun hq => ?_
  obtain ⟨h1, h2, h3⟩ := bounds_ok (P := P) (optI_ok H hlo) (optI_ok H hhi) l.length l.length (Nat.le_refl _) false w hq
  refine ⟨.string ⟨(cutS l ra rb).toArray⟩, ?_, .d (.s _)⟩
  rw [cutS_eq, ← extract_mk' l _ _ h2]
  simp [execOp, ho, hv, Instr.sliceAt, Instr.slice, run_underlying hu, hsz, h1]
theorem sliceSl_ok (hT : TysOk P T) (H : Holds w gd L g h a) {t e : TypeId} {sz' by_ : Nat} {z : List D} (ht : lookT t T = some ⟨.slice e, sz', by_, z⟩) {d : TyD} (he : lookT e T = some d) {x : Operand} {lo hi : Option Operand} {ra rb : Option Int} {sz n : Nat} {f : Nat → List D} (hd : d.size = sz) (hx : opnd g x = .d (.sl sz n f)) {r : Res}
    (hlo : optI g lo = some ra) (hhi : optI g hi = some rb) (hr : aSlice (.d (.sl sz n f)) ra rb = some r) {o : Oper} (ho : o.op = .slice t x lo hi none) : r.Ok P w gd L g h a o := by
  have hu := (hT.get ht).slice rfl
  have hsize := (hT.get he).sizeOf w
  have hv := H.opnd x
  rw [hx] at hv
  have hs := repA_sl hv
  generalize hxv : a.eval x = xv at hs
  have key : (∀ q, (sliceOf n ra rb).2.2 = some q → q) → ∃ u, (execOp a.eval o).run P w = .ok (.value u) w ∧ RepA w L gd (.d (.sl sz ((sliceOf n ra rb).2.1 - (sliceOf n ra rb).1) fun k => f ((sliceOf n ra rb).1 + k))) u := by
    intro hq
    generalize hA : (sliceOf n ra rb).1 = A at *
    generalize hB : (sliceOf n ra rb).2.1 = B at *
    cases hs with
    | sl0 _ _ ad c hc =>
      obtain ⟨h1, h2, h3⟩ := bounds_ok (P := P) (optI_ok H hlo) (optI_ok H hhi) 0 c (Nat.zero_le _) true w hq
      rw [hA, hB] at h1 h2
      rw [hB] at h3
      have : B = 0 := by omega
      subst this
      have : A = 0 := by omega
      subst this
      refine ⟨.slice (if c = 0 then ad else ad.map (·.add (0 * d.size))) (0 - 0) (c - 0), ?_, .d (.sl0 _ _ _ _ hc)⟩
      simp [execOp, ho, hxv, Instr.sliceAt, Instr.slice, run_underlying hu, h1, hsize]
    | sl _ _ _ b off c cs hn hc hm hg hb hz hcell hrep =>
      obtain ⟨h1, h2, h3⟩ := bounds_ok (P := P) (optI_ok H hlo) (optI_ok H hhi) n c hc true w hq
      rw [hA, hB] at h1 h2
      rw [hB] at h3
      refine ⟨.slice (if c = A then some ⟨b, off, none⟩ else some ⟨b, off + A * d.size, none⟩) (B - A) (c - A), ?_, ?_⟩
      · simp only [execOp, ho, hxv, Option.map_none, Instr.sliceAt, Instr.slice, run_underlying hu, Sem.run_bind, Sem.run_pure, Result.andThen_ok, h1, hsize]
        by_cases hcA : c = A
        · simp [hcA]
        · simp [hcA, addr_add0]
      · by_cases hz0 : B - A = 0
        · rw [hz0]; exact .d (.sl0 _ _ _ _ (by omega))
        · rw [if_neg (by omega), hd]
          refine .d (.sl _ _ _ b _ _ (fun k j => cs (A + k) j) (by omega) (by omega) (by omega) hg hb (fun k hk => hz _ (by omega)) (fun k hk j hj => ?_) (fun k hk => hrep _ (by omega)))
          rw [← hcell (A + k) (by omega) j hj, Nat.add_mul]
          congr 2
          omega
  unfold aSlice at hr
  simp only at hr
  generalize hso : sliceOf n ra rb = so at hr key
  obtain ⟨A, B, c⟩ := so
  simp only at hr key
  cases A with
  | zero =>
    simp only [Option.some.injEq] at hr
    subst hr
    refine mkCond_ok fun hq => ?_
    have := key hq
    simpa using this
  | succ A =>
    simp only [Option.some.injEq] at hr
    subst hr
    exact mkCond_ok key
theorem sliceRsl_ok (hT : TysOk P T) (H : Holds w gd L g h a) {t e : TypeId} {sz' by_ : Nat} {z : List D} (ht : lookT t T = some ⟨.slice e, sz', by_, z⟩) {d : TyD} (he : lookT e T = some d) {x : Operand} {lo hi : Option Operand} {ra rb : Option Int} {id sz q n : Nat} (hd : d.size = sz) (hx : opnd g x = .rsl id sz q n) {r : Res}
    (hlo : optI g lo = some ra) (hhi : optI g hi = some rb) (hr : aSlice (.rsl id sz q n) ra rb = some r) {o : Oper} (ho : o.op = .slice t x lo hi none) : r.Ok P w gd L g h a o := by
  have hu := (hT.get ht).slice rfl
  have hsize := (hT.get he).sizeOf w
  have hv := H.opnd x
  rw [hx] at hv
  generalize hxv : a.eval x = xv at hv
  have key : (∀ q, (sliceOf n ra rb).2.2 = some q → q) → ∃ u, (execOp a.eval o).run P w = .ok (.value u) w ∧ RepA w L gd (.rsl id sz (q + (sliceOf n ra rb).1) ((sliceOf n ra rb).2.1 - (sliceOf n ra rb).1)) u := by
    intro hq
    generalize hA : (sliceOf n ra rb).1 = A at *
    generalize hB : (sliceOf n ra rb).2.1 = B at *
    cases hv with
    | @rsl _ _ _ _ _ ad hc hb ha =>
      obtain ⟨h1, h2, h3⟩ := bounds_ok (P := P) (optI_ok H hlo) (optI_ok H hhi) n (L.cap id - q) (by omega) true w hq
      rw [hA, hB] at h1 h2
      rw [hB] at h3
      refine ⟨.slice (if L.cap id - q = A then ad else ad.map (·.add (A * d.size))) (B - A) (L.cap id - q - A), ?_, ?_⟩
      · simp [execOp, ho, hxv, Instr.sliceAt, Instr.slice, run_underlying hu, h1, hsize]
      · rw [Nat.sub_sub]
        refine .rsl (by omega) (fun h => hb (by omega)) fun h => ?_
        rcases h with h | h
        · have hq0 : q = 0 := by omega
          have hA0 : A = 0 := by omega
          subst hq0
          subst hA0
          have := ha (.inl rfl)
          subst this
          split
          · simp
          · cases L.blk id <;> simp [addr_add0]
        · have := ha (.inr (by omega))
          subst this
          rw [if_neg (by omega)]
          cases L.blk id with
          | none => simp
          | some b => simp [hd, Nat.add_mul, addr_add0]
  unfold aSlice at hr
  simp only at hr
  generalize hso : sliceOf n ra rb = so at hr key
  obtain ⟨A, B, c⟩ := so
  simp only at hr key
  cases A with
  | zero =>
    simp only [Option.some.injEq] at hr
    subst hr
    refine mkCond_ok fun hq => ?_
    have := key hq
    simpa using this
  | succ A =>
    simp only [Option.some.injEq] at hr
    subst hr
    exact mkCond_ok key
theorem index_ok (hT : TysOk P T) (H : Holds w gd L g h a) {t : TypeId} {sz by_ : Nat} {z : List D} (ht : lookT t T = some ⟨.string, sz, by_, z⟩) {x k : Operand} {l : List UInt8} {kk : IntKind} {n : Int} (hx : opnd g x = .d (.s l)) (hk : opnd g k = .d (.i kk n)) {o : Oper} (ho : o.op = .index t x k) :
    (Res.cond (.d (.i .u8 ((l.getD n.toNat 0).toNat : Nat))) (0 ≤ n ∧ n < l.length)).Ok P w gd L g h a o := by
  intro ⟨h0, h1⟩
  have hv := repA_s (hx ▸ H.opnd x)
  have hkv := repA_i (hk ▸ H.opnd k)
  have hlt : n.toNat < l.length := by omega
  refine ⟨_, ?_, .d (.i _ _)⟩
  have hget : (ByteArray.mk l.toArray)[n.toNat]? = some (l.getD n.toNat 0) := by
    have hs : n.toNat < (ByteArray.mk l.toArray).size := by simpa [ByteArray.size] using hlt
    rw [getElem?_pos (ByteArray.mk l.toArray) n.toNat hs]
    simp [ByteArray.getElem_eq_getElem_data, List.getD_eq_getElem?_getD, hlt]
  simp [execOp, ho, hv, hkv, Instr.index, asIntOf, run_underlying ((hT.get ht).string rfl), h0, hget]
theorem field_ok (hT : TysOk P T) (H : Holds w gd L g h a) {t ft : TypeId} {fs : List (Nat × Nat × TypeId)} {sz by_ : Nat} {z : List D} (ht : lookT t T = some ⟨.struct fs, sz, by_, z⟩) {x : Operand} {f off s : Nat} {v : AVal} {l : List AVal} {d : TyD}
    (hf : fieldAt f fs = some (off, s, ft)) (hft : lookT ft T = some d) (hx : opnd g x = .agg l) (hv : aPart d (dropF off l) = some v) {o : Oper} (ho : o.op = .field t x f) : (Res.val v).Ok P w gd L g h a o := by
  obtain ⟨fields, hu, hfs⟩ := (hT.get ht).struct rfl
  obtain ⟨vs, hvs, k1, k2, k3⟩ := repA_agg (hx ▸ H.opnd x)
  have hg := fieldAt_get hf
  have hd := hT.get hft
  rw [← hfs, List.getElem?_map] at hg
  cases hfd : fields.toList[f]? with
  | none => rw [hfd] at hg; cases hg
  | some fd =>
    rw [hfd] at hg
    simp only [Option.map_some, Option.some.injEq, Prod.mk.injEq] at hg
    obtain ⟨e1, e2, e3⟩ := hg
    have hfd' : fields[f]? = some fd := by simpa using hfd
    unfold aPart at hv
    rw [dropF_eq] at hv
    cases htk : takeF d.size (l.drop off) with
    | none => rw [htk] at hv; cases hv
    | some m =>
      rw [htk] at hv
      obtain ⟨hm, hlen⟩ := takeF_eq htk
      rw [List.length_drop] at hlen
      have hisAgg := hd.isAgg w
      have hmlen : m.length = d.size := by rw [hm, List.length_take, List.length_drop]; omega
      have hmget : ∀ (i : Nat) (y : AVal), m[i]? = some y → l[off + i]? = some y ∧ i < d.size := by
        intro i y hy
        have hi : i < d.size := by rw [← hmlen]; exact (List.getElem?_eq_some_iff.1 hy).1
        rw [hm, List.getElem?_take, if_pos hi, List.getElem?_drop] at hy
        exact ⟨hy, hi⟩
      cases hs : isStr d.kind with
      | true =>
        rw [hs] at hv hisAgg
        simp only [Option.some.injEq] at hv
        subst hv
        have hext : ∀ i, i < d.size → off + i < vs.size → (vs.extract off (off + d.size)).getD i undef = vs.getD (off + i) undef := by
          intro i hi hv
          rw [Array.getD_eq_getD_getElem?, Array.getD_eq_getD_getElem?, Array.getElem?_extract, if_pos (by omega)]
        refine ⟨.agg (vs.extract off (off + d.size)), ?_, .agg (by simp; omega) (fun i hi => ?_) (fun i y hy => ?_)⟩
        · simp [execOp, ho, hvs, Instr.field, run_underlying hu, hfd', part, asAgg, e1, e3, hisAgg, hd.sizeOf w]
        · rw [hext i (by omega) (by omega)]; exact k2 _ (by omega)
        · obtain ⟨h1, h2⟩ := hmget i y hy
          rw [hext i h2 (by omega)]; exact k3 _ _ h1
      | false =>
        rw [hs] at hv hisAgg
        cases m with
        | nil => cases hv
        | cons y r =>
          cases r with
          | cons _ _ => cases hv
          | nil =>
            simp only [Option.some.injEq] at hv
            subst hv
            obtain ⟨h1, h2⟩ := hmget 0 y rfl
            have hlt : off < vs.size := by omega
            refine ⟨vs.getD off undef, ?_, k3 _ _ h1⟩
            simp [execOp, ho, hvs, Instr.field, run_underlying hu, hfd', part, asAgg, e1, e3, hisAgg, hlt]
theorem minmax_ok (H : Holds w gd L g h a) {x y : Operand} {k k' : IntKind} {n m : Int} (hx : opnd g x = .d (.i k n)) (hy : opnd g y = .d (.i k' m)) {as : Array Operand} (has : as.toList = [x, y]) {ts : Array TypeId} {o : Oper} :
    (o.op = .call { callee := .builtin .min, args := as, argTypes := ts } → (Res.val (.d (.i k (min n m)))).Ok P w gd L g h a o) ∧ (o.op = .call { callee := .builtin .max, args := as, argTypes := ts } → (Res.val (.d (.i k (max n m)))).Ok P w gd L g h a o) := by
  have hv := repA_i (hx ▸ H.opnd x)
  have hw := repA_i (hy ▸ H.opnd y)
  obtain ⟨l⟩ := as
  simp only at has
  subst has
  refine ⟨fun ho => ⟨_, ?_, .d (.i _ _)⟩, fun ho => ⟨_, ?_, .d (.i _ _)⟩⟩
  · have : (if m < n then m else n) = min n m := by omega
    simp [execOp, ho, resolve, invoke, builtin, Builtin.min_, Builtin.min2, hv, hw, this]
  · have : (if n < m then m else n) = max n m := by omega
    simp [execOp, ho, resolve, invoke, builtin, Builtin.max_, Builtin.max2, hv, hw, this]
theorem lenStr_ok (hT : TysOk P T) (H : Holds w gd L g h a) {t : TypeId} {sz by_ : Nat} {z : List D} (ht : lookT t T = some ⟨.string, sz, by_, z⟩) {x : Operand} {l : List UInt8} (hx : opnd g x = .d (.s l)) {as : Array Operand} {ts : Array TypeId} (has : as.toList = [x]) (hts : ts.toList = [t]) {o : Oper}
    (ho : o.op = .call { callee := .builtin .len, args := as, argTypes := ts }) : (Res.val (.d (.i .i64 l.length))).Ok P w gd L g h a o := by
  have hv := repA_s (hx ▸ H.opnd x)
  obtain ⟨l1⟩ := as
  obtain ⟨l2⟩ := ts
  simp only at has hts
  subst has hts
  have hsz : (ByteArray.mk l.toArray).size = l.length := by simp [ByteArray.size]
  exact ⟨.int .i64 l.length, by simp [execOp, ho, resolve, invoke, builtin, Builtin.len_, hv, run_underlying ((hT.get ht).string rfl), goInt, hsz], .d (.i _ _)⟩
theorem lenSl_ok (hT : TysOk P T) {t e : TypeId} {sz by_ : Nat} {z : List D} (ht : lookT t T = some ⟨.slice e, sz, by_, z⟩) {x : Operand} {A : Option Addr} {n c : Nat} (hx : a.eval x = .slice A n c) {as : Array Operand} {ts : Array TypeId} (has : as.toList = [x]) (hts : ts.toList = [t]) {o : Oper}
    (ho : o.op = .call { callee := .builtin .len, args := as, argTypes := ts }) : (Res.val (.d (.i .i64 n))).Ok P w gd L g h a o := by
  obtain ⟨l1⟩ := as
  obtain ⟨l2⟩ := ts
  simp only at has hts
  subst has hts
  exact ⟨.int .i64 n, by simp [execOp, ho, resolve, invoke, builtin, Builtin.len_, hx, run_underlying ((hT.get ht).slice rfl), goInt], .d (.i _ _)⟩
theorem capNil_ok (hT : TysOk P T) {t e : TypeId} {sz by_ : Nat} {z : List D} (ht : lookT t T = some ⟨.slice e, sz, by_, z⟩) {x : Operand} {c : Nat} (hx : a.eval x = .slice none 0 c) {as : Array Operand} {ts : Array TypeId} (has : as.toList = [x]) (hts : ts.toList = [t]) {o : Oper}
    (ho : o.op = .call { callee := .builtin .cap, args := as, argTypes := ts }) : (Res.val (.d (.i .i64 c))).Ok P w gd L g h a o := by
  obtain ⟨l1⟩ := as
  obtain ⟨l2⟩ := ts
  simp only at has hts
  subst has hts
  exact ⟨.int .i64 c, by simp [execOp, ho, resolve, invoke, builtin, Builtin.cap_, hx, run_underlying ((hT.get ht).slice rfl), goInt], .d (.i _ _)⟩
end
end Towline
