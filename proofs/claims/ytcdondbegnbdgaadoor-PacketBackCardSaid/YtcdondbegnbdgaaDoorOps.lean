/- Laws of single operations in the walk, each leaving an abstract world of which what matters is known: conversions between strings and bytes, clear. Over any program. -/
import Derived.WalkKit
import Derived.WalkLawsBesides
import Derived.WalkSpells
import Derived.Lib.Hide
import Derived.Lib.SliceRun
import Derived.BigQuiet
namespace Towline
open Go Go.RowKit

/-- Block b holds the bytes l from its first place on; none of these places is frozen. -/
def BytesAt (w : World) (b : Nat) (l : List UInt8) : Prop :=
  b < w.heap.size ∧ ∀ j, j < l.length → w.cell? ⟨b, j, none⟩ = some (.int .u8 (((l.getD j 0).toNat : Nat) : Int)) ∧ w.frozen? ⟨b, j, none⟩ = false
theorem BytesAt.cell {w : World} {b : Nat} {l : List UInt8} (h : BytesAt w b l) {j : Nat} (hj : j < l.length) : w.cell? ⟨b, j, none⟩ = some (.int .u8 (((l.getD j 0).toNat : Nat) : Int)) := (h.2 j hj).1
theorem BytesAt.free {w : World} {b : Nat} {l : List UInt8} (h : BytesAt w b l) {j : Nat} (hj : j < l.length) : w.frozen? ⟨b, j, none⟩ = false := (h.2 j hj).2
theorem BytesAt.below {w w' : World} {B b : Nat} {l : List UInt8} (h : BytesAt w b l) (hb : Below B w w') (hB : b < B) : BytesAt w' b l :=
  ⟨Nat.lt_of_lt_of_le h.1 hb.size, fun j hj => ⟨by rw [hb.cell (p := ⟨b, j, none⟩) hB]; exact h.cell hj, by rw [hb.frozen (p := ⟨b, j, none⟩) hB]; exact h.free hj⟩⟩
theorem BytesAt.set {w : World} {b : Nat} {l : List UInt8} (h : BytesAt w b l) (k : Nat) (x : UInt8) : BytesAt (w.setCell ⟨b, k, none⟩ (.int .u8 ((x.toNat : Nat) : Int))) b (l.set k x) := by
  refine ⟨by simpa [World.setCell] using h.1, fun i hi => ?_⟩
  rw [List.length_set] at hi
  obtain ⟨h1, h2⟩ := h.2 i hi
  refine ⟨?_, by rw [World.frozen?_setCell]; exact h2⟩
  by_cases e : i = k
  · subst e
    rw [World.cell?_setCell_same _ _ _ h1]
    simp [hi]
  · rw [World.cell?_setCell_other _ _ _ _ (by intro e2; injection e2 with _ e3; exact e e3.symm), h1]
    simp [Ne.symm e]

theorem size_setCells (b : Nat) : ∀ (vs : List Value) (o : Nat) (w : World), (w.setCells b o vs).heap.size = w.heap.size
  | [], _, _ => rfl
  | v :: vs, o, w => by
    show ((w.setCell ⟨b, o, none⟩ v).setCells b (o + 1) vs).heap.size = _
    rw [size_setCells b vs]
    simp [World.setCell]
theorem below_setCells {B b : Nat} (hB : B ≤ b) : ∀ (vs : List Value) (o : Nat) {a w : World}, Below B a w → Below B a (w.setCells b o vs)
  | [], _, _, _, h => h
  | v :: vs, o, a, w, h => by
    show Below B a ((w.setCell ⟨b, o, none⟩ v).setCells b (o + 1) vs)
    exact below_setCells hB vs (o + 1) (h.setCell hB v)

section
variable {P : Program} {ops : Array Oper} {rest : List Oper} {a : Act} {w : World} {Q : Exit → Act → World → Prop} {dst : Option Tmp} {ty : TypeId} {x : Operand} {pos : String} {after : Array Edge}
/-- '[]byte(s)'. -/
theorem wpList_bytesOf {src dt e : TypeId} {s : ByteArray}
    (hs : P.underlying src = some .string) (hd : P.underlying dt = some (.slice e)) (he : P.underlying e = some (.int .u8)) (hx : a.eval x = .string s)
    (hK : ∀ cap w1, s.size ≤ cap → Below w.heap.size w w1 → w.heap.size < w1.heap.size → Hid (BytesAt w1 w.heap.size s.data.toList) → wpList P ops Q rest (a.put dst (.slice (some ⟨w.heap.size, 0, none⟩) s.size cap)) w1) :
    wpList P ops Q ({ dst := dst, op := .convert src dt x, type := ty, pos := pos, after := after, guard := none } :: rest) a w := by
  refine wpList_plain rfl fun K hK' => ?_
  have hrun := run_bytes_of_string (P := P) w src dt e s hs hd he
  unfold Oper.wp
  simp [execOp, hx, hrun, Result.andThen]
  refine hK' _ _ (hK _ _ (by have := grownCap_ge w s.size 0 e; exact this) ?_ ?_ ?_)
  · exact (Below.refl _ w).drew.alloc (Nat.le_refl _) _
  · show _ < (w.heap.push _).size
    simp
  · refine ⟨by show _ < (w.heap.push _).size; simp, fun j hj => ?_⟩
    have h1 := World.cell?_alloc_mark w.drew (bytesRow s (grownCap w s.size 0 e)) e ((bytesRow s (grownCap w s.size 0 e)).size, (bytesRow s (grownCap w s.size 0 e)).size + 1) j
    have h2 := World.frozen?_alloc_mark w.drew (bytesRow s (grownCap w s.size 0 e)) e (bytesRow s (grownCap w s.size 0 e)).size ((bytesRow s (grownCap w s.size 0 e)).size + 1) j
    have hz : w.drew.heap.size = w.heap.size := rfl
    rw [hz] at h1 h2
    have hj' : j < s.data.size := by simpa using hj
    have h3 := bytesRow_at s (grownCap w s.size 0 e) j hj'
    refine ⟨by rw [h1, h3]; simp [Array.getElem?_eq_getElem hj'], ?_⟩
    rw [h2]
    have : j < (bytesRow s (grownCap w s.size 0 e)).size := (Array.getElem?_eq_some_iff.1 h3).1
    simp; omega
/-- 'string(b)', b a row of bytes of the call's own, or one that was read. -/
theorem wpList_stringOf {src dt e : TypeId} {b cap : Nat} {n : Nat} {l : List UInt8}
    (hs : P.underlying src = some (.slice e)) (he : P.underlying e = some (.int .u8)) (hd : P.underlying dt = some .string) (hx : a.eval x = .slice (some ⟨b, 0, none⟩) n cap)
    (hl : Hid (BytesAt w b l)) (hn : n = l.length)
    (hK : wpList P ops Q rest (a.put dst (.string ⟨l.toArray⟩)) w) :
    wpList P ops Q ({ dst := dst, op := .convert src dt x, type := ty, pos := pos, after := after, guard := none } :: rest) a w := by
  subst hn
  refine wpList_plain rfl fun K hK' => ?_
  have hrun := run_convert_bytes_back (P := P) w src dt e ⟨b, 0, none⟩ cap l hs he hd (fun j hj => by
    have := hl.out.cell hj
    rw [Addr.add_lit, Nat.zero_add]
    simpa [List.getD_eq_getElem?_getD, List.getElem?_eq_getElem hj] using this)
  unfold Oper.wp
  simp [execOp, hx, hrun, Result.andThen]
  exact hK' _ _ hK
/-- A row of bytes, a piece of it noughts. -/
def wiped (l : List UInt8) (o n : Nat) : List UInt8 := l.take o ++ List.replicate n 0 ++ l.drop (o + n)
theorem wiped_length {l : List UInt8} {o n : Nat} (h : o + n ≤ l.length) : (wiped l o n).length = l.length := by unfold wiped; simp; omega
theorem wiped_getD (l : List UInt8) (o n i : Nat) (h : o + n ≤ l.length) : (wiped l o n).getD i 0 = if o ≤ i ∧ i < o + n then 0 else l.getD i 0 := by
  unfold wiped
  simp only [List.getD_eq_getElem?_getD, List.getElem?_append, List.length_append, List.length_take, List.length_replicate, List.getElem?_take, List.getElem?_drop, List.getElem?_replicate, Nat.min_eq_left (show o ≤ l.length from by omega)]
  by_cases h1 : i < o
  · simp [h1, show i < o + n from by omega, show ¬ o ≤ i from by omega]
  · by_cases h2 : i < o + n
    · simp [h1, h2, show o ≤ i from by omega, show i - o < n from by omega]
    · simp [h2, show o + n + (i - (o + n)) = i from by omega]
/-- 'clear(b[o:o+n])'. -/
theorem wpList_clear {t e : TypeId} {b o n cap : Nat} {l : List UInt8}
    (ht : P.underlying t = some (.slice e)) (hz : ∀ w, (zeroValue e).run P w = .ok (.int .u8 0) w) (hx : a.eval x = .slice (some ⟨b, o, none⟩) n cap) (hn : 0 < n)
    (hl : Hid (BytesAt w b l)) (hon : o + n ≤ l.length)
    (hK : ∀ w1, (∀ B, B ≤ b → Below B w w1) → w1.heap.size = w.heap.size → Hid (BytesAt w1 b (wiped l o n)) → wpList P ops Q rest (a.put dst (.tuple #[])) w1) :
    wpList P ops Q ({ dst := dst, op := .call { callee := .builtin .clear, args := #[x], argTypes := #[t] }, type := ty, pos := pos, after := after, guard := none } :: rest) a w := by
  refine wpList_plain rfl fun K hK' => ?_
  have hcell : ∀ j, j < n → (w.cell? ⟨b, o + j, none⟩).isSome = true := fun j hj => by rw [hl.out.cell (j := o + j) (by omega)]; rfl
  have hfree : ∀ j, j < n → w.frozen? ⟨b, o + j, none⟩ = false := fun j hj => hl.out.free (j := o + j) (by omega)
  have hrun := Lib.run_clear_slice (P := P) w t e ty (.int .u8 0) ht hz rfl rfl b o n cap hn hcell hfree
  unfold Oper.wp
  simp [execOp, builtin, resolve, invoke, hx, hrun, Result.andThen]
  have hin := World.cell?_setCells_in b (List.replicate n (Value.int .u8 0)) o w (by simpa using hcell)
  refine hK' _ _ (hK _ (fun B hB => ?_) ?_ ?_)
  · exact below_setCells hB _ _ (Below.refl _ _)
  · exact size_setCells _ _ _ _
  · refine ⟨by rw [size_setCells]; exact hl.out.1, fun i hi => ?_⟩
    rw [wiped_length hon] at hi
    refine ⟨?_, by rw [World.frozen?_setCells]; exact hl.out.free hi⟩
    rw [wiped_getD l o n i hon]
    by_cases h : o ≤ i ∧ i < o + n
    · have := hin (i - o) (by simp; omega)
      rw [show o + (i - o) = i from by omega] at this
      rw [this, if_pos h]; simp
    · rw [if_neg h, World.cell?_setCells_out b _ o w ⟨b, i, none⟩ (by intro _ _; simp; omega)]
      exact hl.out.cell hi
end
/-- The world under a name of its own. -/
theorem gen_wp {P : Program} {c : Code} {Q : Exit → Act → World → Prop} {a : Act} {W : World} (h : ∀ w2, w2 = W → Code.wp P c Q a w2) : Code.wp P c Q a W := h _ rfl
theorem gen_post {Q : Exit → Act → World → Prop} {e : Exit} {a : Act} {W : World} (h : ∀ w2, w2 = W → Q e a w2) : Q e a W := h _ rfl
theorem gen_calls {P : Program} {f : FuncId} {args : Array Value} {W : World} {R : Ending → World → Prop} (h : ∀ w2, w2 = W → Calls P f args w2 R) : Calls P f args W R := h _ rfl
theorem gen_list {P : Program} {ops : Array Oper} {l : List Oper} {Q : Exit → Act → World → Prop} {a : Act} {W : World} (h : ∀ w2, w2 = W → wpList P ops Q l a w2) : wpList P ops Q l a W := h _ rfl
theorem quiet_left {P : Program} {f : FuncId} {args : Array Value} {w : World} {n : Nat} {v : Value}
    (h : Calls P f args (w.drewN n) fun e w' => e = .returned v ∧ w.drewN n = w') : Calls P f args (w.drewN n) fun e w'' => e = .returned v ∧ ∃ m, w'' = w.drewN m :=
  h.mono fun _ _ ⟨he, hm⟩ => ⟨he, n, hm.symm⟩
theorem below_drewN {B : Nat} {a w : World} (h : Below B a w) (n : Nat) : Below B a (w.drewN n) := ⟨h.os, h.tape, h.output, h.size, h.block⟩
theorem ext_trans {a b c : World} (h : Below a.heap.size a b) (k : Below b.heap.size b c) : Below a.heap.size a c := h.trans (k.mono h.size)
theorem ext_drewN {a b : World} (h : Below a.heap.size a b) (n : Nat) : Below a.heap.size a (b.drewN n) := below_drewN h n
theorem size_drewN (w : World) (n : Nat) : (w.drewN n).heap.size = w.heap.size := rfl
theorem BytesAt.drewN {w : World} {b : Nat} {l : List UInt8} (h : BytesAt w b l) (n : Nat) : BytesAt (w.drewN n) b l := h
theorem BytesAt.run_back {P : Program} {w : World} {b cap : Nat} {l : List UInt8} (h : BytesAt w b l) {src dt e : TypeId} (hs : P.underlying src = some (.slice e)) (he : P.underlying e = some (.int .u8)) (hd : P.underlying dt = some .string) {n : Nat} (hn : n = l.length) :
    (convert src dt (.slice (some ⟨b, 0, none⟩) n cap)).run P w = .ok (.string ⟨l.toArray⟩) w := by
  subst hn
  exact run_convert_bytes_back (P := P) w src dt e ⟨b, 0, none⟩ cap l hs he hd (fun j hj => by
    have := h.cell hj
    rw [Addr.add_lit, Nat.zero_add]
    simpa [List.getD_eq_getElem?_getD, List.getElem?_eq_getElem hj] using this)
theorem bytesAt_new (w : World) (l : List UInt8) (e : TypeId) : BytesAt (w.alloc (.cells ⟨l.map fun x => Value.int .u8 ((x.toNat : Nat) : Int)⟩ e)) w.heap.size l := by
  refine ⟨by simp, fun j hj => ⟨?_, by simp⟩⟩
  rw [World.cell?_alloc_new]
  simp [hj]

/-- A world that has grown out of w. -/
def Later (w : World) : Type := { w' : World // Below w.heap.size w w' }
instance (w : World) : Nonempty (Later w) := ⟨⟨w, Below.refl _ _⟩⟩
def Later.at {w : World} (x : Later w) : World := x.1
theorem Later.ext {w : World} (x : Later w) : Below w.heap.size w x.at := x.2
@[go_sem] theorem Later.cell {w : World} (x : Later w) (b o : Nat) (h : b < w.heap.size) : x.at.cell? ⟨b, o, none⟩ = w.cell? ⟨b, o, none⟩ := x.ext.cell (p := ⟨b, o, none⟩) h
@[go_sem] theorem Later.frozen {w : World} (x : Later w) (b o : Nat) (h : b < w.heap.size) : x.at.frozen? ⟨b, o, none⟩ = w.frozen? ⟨b, o, none⟩ := x.ext.frozen (p := ⟨b, o, none⟩) h
/-- A region that draws its order, whose operations read, and whose calls only make memory of their own, handing back plain values. -/
theorem wp_region_later {P : Program} {id : Nat} {Q : Exit → Act → World → Prop} {a : Act} {w : World} {l : List Oper} (hm : P.follows .mixedOrders = true) (hB : Region.lexB .any l.toArray = true)
    (h : wpQuiet P l.toArray (fun w' => ∃ x : Later w, w' = x.at) (fun a' => ∀ w', (∃ x : Later w, w' = x.at) → Q .normal a' w') l a) : (Code.region id l.toArray true).wp P Q a w :=
  wp_region_quiet (C := fun w' => ∃ x : Later w, w' = x.at) hm hB ⟨⟨w.drew, (Below.refl _ _).drew⟩, rfl⟩ (by simpa using h)
theorem later_of {P : Program} {f : FuncId} {args : Array Value} {w : World} {x : Later w} {v : Value} (h : Calls P f args x.at fun e w' => e = .returned v ∧ Below x.at.heap.size x.at w') :
    Calls P f args x.at fun e w'' => e = .returned v ∧ ∃ y : Later w, w'' = y.at :=
  h.mono fun _ w' ⟨he, hb⟩ => ⟨he, ⟨⟨w', ext_trans x.ext hb⟩, rfl⟩⟩
theorem later_same {P : Program} {f : FuncId} {args : Array Value} {w : World} {x : Later w} {v : Value} (h : Calls P f args x.at fun e w' => e = .returned v ∧ x.at = w') :
    Calls P f args x.at fun e w'' => e = .returned v ∧ ∃ y : Later w, w'' = y.at :=
  h.mono fun _ _ ⟨he, hb⟩ => ⟨he, ⟨x, hb.symm⟩⟩
theorem BytesAt.later {w : World} {b : Nat} {l : List UInt8} (h : BytesAt w b l) (x : Later w) : BytesAt x.at b l := h.below x.ext h.1

theorem extract_toList (s : ByteArray) (a b : Nat) : (s.extract a b).toList = (s.data.toList.take b).drop a := by
  rw [ByteArray.toList_eq, ByteArray.data_extract, Array.toList_extract, List.extract_eq_take_drop, List.take_drop]
  by_cases h : a ≤ b
  · rw [show a + (b - a) = b from by omega]
  · rw [show a + (b - a) = a from by omega, List.drop_of_length_le (by simp; omega), List.drop_of_length_le (by simp; omega)]
theorem extract_head (s : ByteArray) (n : Nat) : (s.extract 0 n).toList = s.data.toList.take n := by rw [extract_toList]; rfl
theorem extract_tail (s : ByteArray) (n : Nat) : (s.extract n s.size).toList = s.data.toList.drop n := by
  rw [extract_toList, List.take_of_length_le (by simp)]
theorem size_mk (l : List UInt8) : (ByteArray.mk l.toArray).size = l.length := by show (List.toArray _).size = _; simp
theorem BytesAt.set_val {w : World} {b : Nat} {l : List UInt8} (h : BytesAt w b l) (k : Nat) (x : UInt8) {n : Int} (hn : n = ((x.toNat : Nat) : Int)) : BytesAt (w.setCell ⟨b, k, none⟩ (.int .u8 n)) b (l.set k x) := by
  subst hn; exact h.set k x

/-- A slice of the call's own whose elements are bytes. -/
def byteCells (l : List UInt8) : List Value := l.map fun x => Value.int .u8 ((x.toNat : Nat) : Int)
theorem byteCells_append (l m : List UInt8) : byteCells (l ++ m) = byteCells l ++ byteCells m := by unfold byteCells; simp
theorem ownsRow_later {w w' : World} {base : Nat} {e : TypeId} {size : Nat} {v : Value} {n : Nat} {xs : List Value} (h : w.ownsRow base e size v n xs) (hb : Below w.heap.size w w') : w'.ownsRow base e size v n xs := by
  obtain ⟨h1, h2⟩ := h
  refine ⟨h1, ?_⟩
  rcases h2 with h2 | ⟨g, cap, cur, hv, hg, hh, r⟩
  · exact .inl h2
  · exact .inr ⟨g, cap, cur, hv, hg, by rw [hb.block g (Array.getElem?_eq_some_iff.1 hh).1]; exact hh, r⟩
theorem ownsRow_bytes_run {P : Program} {w : World} {base : Nat} {e : TypeId} {v : Value} {l : List UInt8} (h : w.ownsRow base e 1 v l.length (byteCells l)) {src dt : TypeId} (hs : P.underlying src = some (.slice e)) (he : P.underlying e = some (.int .u8)) (hd : P.underlying dt = some .string) :
    (convert src dt v).run P w = .ok (.string ⟨l.toArray⟩) w := by
  obtain ⟨h1, ⟨rfl, h2⟩ | ⟨g, cap, cur, rfl, hg, hh, hn, hcap, hcur, hx⟩⟩ := h
  · obtain rfl : l = [] := List.length_eq_zero_iff.1 h2
    have := run_convert_bytes_string (P := P) w src dt e none 0 0 hs he hd
    rw [this]
    simp [Conv.bytesToString]
    rfl
  · refine run_convert_bytes_back (P := P) w src dt e ⟨g, 0, none⟩ cap l hs he hd (fun j hj => ?_)
    rw [Addr.add_lit, Nat.zero_add]
    have h3 : cur.toList[j]? = some (.int .u8 ((l[j].toNat : Nat) : Int)) := by
      have h4 : (cur.toList.take (l.length * 1))[j]? = (byteCells l)[j]? := by rw [hx]
      rw [List.getElem?_take, if_pos (by omega)] at h4
      rw [h4]
      simp [byteCells, hj]
    unfold World.cell?
    rw [hh]
    simpa using h3
section
variable {P : Program} {ops : Array Oper} {rest : List Oper} {a : Act} {w : World} {Q : Exit → Act → World → Prop} {dst : Option Tmp} {ty : TypeId} {s x : Operand} {pos : String} {after : Array Edge}
/-- 'append(v, u)', u one cell, v nil or the call's own. -/
theorem wpList_append_one {t e : TypeId} {z u : Value} {bytes base n : Nat} {v : Value} {xs : List Value}
    (ht : P.underlying t = some (.slice e)) (hi : (P.info? e).map (fun i => (i.zero, i.size, i.bytes)) = some (some z, 1, bytes)) (hz : z.cells.size = 1)
    (hs : a.eval s = v) (hx : a.eval x = .slice (some ⟨w.heap.size, 0, none⟩) 1 1)
    (hown : w.ownsRow base e 1 v n xs) (hu : u.oneCell' = true) (h63 : n + 1 ≤ maxLen) (hbytes : (n + 1) * bytes ≤ 140737488355328) (hbase : base ≤ w.heap.size)
    (hK : ∀ v' w', Hid (w'.ownsRow base e 1 v' (n + 1) (xs ++ [u])) → w.grownBy w' v.ownBlock → wpList P ops Q rest (a.put dst v') w') :
    wpList P ops Q ({ dst := dst, op := .call { callee := .builtin .append, args := #[s, x], argTypes := #[t, t] }, type := ty, pos := pos, after := after, guard := none } :: rest) a (w.alloc (.cells #[u] e)) := by
  obtain ⟨i, h1, h2, h3, h4⟩ := info_parts hi
  refine wpList_append_own (w.alloc (.cells #[u] e)) rfl s x t rfl base e i z 1 bytes ht h1 h2 h3 h4 hz (by decide) v n xs hs ?_ ⟨w.heap.size, 0, none⟩ 1 1 [u] hx rfl ?_ ?_ h63 hbytes ?_ ?_
  · exact ownsRow_later hown ((Below.refl _ _).alloc (Nat.le_refl _) _)
  · intro j y hj
    rw [Addr.add_lit, Nat.zero_add, World.cell?_alloc_new]
    simpa using hj
  · intro y hy
    simp only [List.mem_singleton] at hy
    rw [hy]; exact hu
  · simp; omega
  · intro v' w' k1 k2 _
    refine hK v' w' k1 ⟨k2.os, k2.tape, k2.output, Nat.le_trans (by simp) k2.size, fun k hk hne => ?_⟩
    rw [k2.block k (by simp; omega) hne, Below.heap_alloc w _ k hk]
end
theorem ownsRow_nil (w : World) (base : Nat) (e : TypeId) (size : Nat) : w.ownsRow base e size (.slice none 0 0) 0 [] := ⟨by simp, .inl ⟨rfl, rfl⟩⟩
/-- Where what a slice of the call's own may have been written lies from base on. -/
theorem below_grown {B base : Nat} {a w w' : World} {e : TypeId} {size n : Nat} {v : Value} {xs : List Value} (h : Below B a w) (hg : w.grownBy w' v.ownBlock) (hB : B ≤ base) (hB2 : B ≤ w.heap.size) (hown : w.ownsRow base e size v n xs) : Below B a w' := by
  refine h.grown hg hB2 fun k hk => ?_
  obtain ⟨_, ⟨rfl, _⟩ | ⟨g, cap, cur, rfl, hgb, _⟩⟩ := hown
  · cases hk
  · simp only [Value.ownBlock, Option.some.injEq] at hk
    omega
/-- The least of two lengths, the greatest of two: as one number, not two ways. -/
theorem run_min_nat {P : Program} (w : World) (ts : Array TypeId) (t : TypeId) (k k' : IntKind) (x y : Nat) : (Builtin.min_ ts t #[.int k (x : Int), .int k' (y : Int)]).run P w = .ok (.int k ((min x y : Nat) : Int)) w := by
  rw [run_min_int2]
  congr 3
  by_cases h : y < x
  · rw [if_pos (by omega)]; omega
  · rw [if_neg (by omega)]; omega
theorem grown_after {a b c : World} {row : Option Nat} (h : Below a.heap.size a b) (k : b.grownBy c row) : a.grownBy c row :=
  ⟨k.os.trans h.os, k.tape.trans h.tape, k.output.trans h.output, Nat.le_trans h.size k.size, fun i hi hne => (k.block i (Nat.lt_of_lt_of_le hi h.size) hne).trans (h.block i hi)⟩
/-- 'append(v, u)' in a region that draws its order, u one cell that lies at ⟨g, 0⟩. -/
theorem step_append_cell {P : Program} {ops : Array Oper} {o : Oper} {a : Act} {w : World} {K : Act → World → Prop} {Q : Exit → Act → World → Prop} {E : Prop} (hgd : o.guard = none) (s x : Operand) (t : TypeId)
    (ho : o.op = .call { callee := .builtin .append, args := #[s, x], argTypes := #[t, t] })
    {base e : TypeId} {z u : Value} {bytes : Nat} {v : Value} {n : Nat} {xs : List Value} (ht : P.underlying t = some (.slice e)) (hi : (P.info? e).map (fun i => (i.zero, i.size, i.bytes)) = some (some z, 1, bytes)) (hz : z.cells.size = 1)
    (hs : a.eval s = v) {w0 : World} (hown : w0.ownsRow base e 1 v n xs) (hbase : base ≤ w0.heap.size) (hb : Below w0.heap.size w0 w) {g c : Nat} (hx : a.eval x = .slice (some ⟨g, 0, none⟩) 1 c) (hh : w.heap[g]? = some (.cells #[u] e (0, 0))) (h1 : u.oneCell' = true)
    (h63 : n + 1 ≤ maxLen) (hbytes : (n + 1) * bytes ≤ 140737488355328)
    (h : ∀ v' w', Hid (w'.ownsRow base e 1 v' (n + 1) (xs ++ [u])) → w0.grownBy w' v.ownBlock → K (a.put o.dst v') w') :
    if Region.wanted o (yielded ops a.tmps) = true then Oper.wp P o a w K Q else E := by
  have hw : Region.wanted o (yielded ops a.tmps) = true := by simp [Region.wanted, hgd]
  rw [if_pos hw]
  obtain ⟨i, i1, i2, i3, i4⟩ := info_parts hi
  refine wp_append_own w s x t ho base e i z 1 bytes ht i1 i2 i3 i4 hz (by decide) v n xs hs (ownsRow_later hown hb) ⟨g, 0, none⟩ 1 c [u] hx rfl ?_ ?_ h63 hbytes (Nat.le_trans hbase hb.size) fun v' w' h2 h3 _ => h v' w' h2 (grown_after hb h3)
  · intro j y hj
    have : j = 0 := by
      have := (List.getElem?_eq_some_iff.1 hj).1
      simpa using this
    subst this
    simp only [List.getElem?_cons_zero, Option.some.injEq] at hj
    rw [← hj]
    simp [World.cell?, hh, Addr.add_lit]
  · intro y hy
    simp only [List.mem_singleton] at hy
    rw [hy]; exact h1
theorem run_min_int {P : Program} (w : World) (ts : Array TypeId) (t : TypeId) (k k' : IntKind) (x y : Int) : (Builtin.min_ ts t #[.int k x, .int k' y]).run P w = .ok (.int k (min x y)) w := by
  rw [run_min_int2]
  congr 2
  by_cases h : y < x
  · rw [if_pos h]; omega
  · rw [if_neg h]; omega
theorem run_max_int {P : Program} (w : World) (ts : Array TypeId) (t : TypeId) (k k' : IntKind) (x y : Int) : (Builtin.max_ ts t #[.int k x, .int k' y]).run P w = .ok (.int k (max x y)) w := by
  rw [run_max_int2]
  congr 2
  by_cases h : x < y
  · rw [if_pos h]; omega
  · rw [if_neg h]; omega
theorem bytes_ext {a b : ByteArray} (h : a.data.toList = b.data.toList) : a = b := by
  have := congrArg List.toArray h
  cases a; cases b; simpa using this
theorem extract_piece (l : List UInt8) (a k : Nat) (_h : k ≤ l.length - a) : ((ByteArray.mk l.toArray).extract a l.length).extract 0 k = ⟨((l.drop a).take k).toArray⟩ := by
  apply bytes_ext
  rw [← ByteArray.toList_eq, extract_toList, ← ByteArray.toList_eq, extract_toList]
  have e : (ByteArray.mk l.toArray).data.toList.take l.length = l := by simp
  rw [e, List.drop_zero]
end Towline
