/- The engine, part two: single operations, as functions of plain data, and that they say what the model does. Over any program. -/
import Derived.Test.YtjdmnfjgmbnlbaaGreatDoorEngA
import Derived.WalkLawsBesides
import Derived.WalkSpells
import Derived.IntWalk
import Derived.Laws.Cells
import Derived.Laws.Tables
import Derived.MapKept
namespace Towline
open Go Go.RowKit
set_option linter.unusedVariables false

inductive TyK
  | bool | int (k : IntKind) | string | slice (e : TypeId) | struct (fs : List (Nat × Nat × TypeId)) | array (n : Nat) (e : TypeId) | pointer (e : TypeId) | func | map (k e : TypeId) | other
structure TyD where
  kind : TyK
  size : Nat
  bytes : Nat
  zero : List D
def kindOf (P : Program) : TypeDesc → TyK
  | .bool => .bool
  | .int k => .int k
  | .string => .string
  | .slice e => .slice e
  | .struct fs => .struct (fs.toList.map fun f => (f.offset, match P.info? f.type with | some i => i.size | none => 0, f.type))
  | .array n e => .array n e
  | .pointer e => .pointer e
  | .func .. => .func
  | .map k e => .map k e
  | _ => .other
def D.val : D → Value
  | .i k n => .int k n
  | .b x => .bool x
  | .s l => .string ⟨l.toArray⟩
  | .v x => x
  | .sl .. => undef
  | .cl .. => undef
  | .o => undef
  | .pt _ => undef
def isStr : TyK → Bool
  | .struct _ => true
  | .array _ _ => true
  | _ => false
def TyD.zeroVal (d : TyD) : Value := match isStr d.kind with
  | true => .agg (d.zero.map D.val).toArray
  | false => match d.zero with | [x] => x.val | _ => undef
def plainF (P : Program) (f : Field) : Bool := match P.underlying f.type with | some (.int _) => true | some .bool => true | some .string => true | _ => false
/-- A struct of plain numbers, truth values and texts may be compared as it stands. -/
def cmpOk (P : Program) (t : TypeId) : Bool := match P.underlying t with
  | some (.struct fs) => !(fs.toList.all (plainF P)) ||
      (fs.toList.all (fun f => f.name != "_") && !P.stoodInHeld t && !P.eqGuardType P.depth t)
  | some (.array _ e) => match P.underlying e with
    | some (.int _) => !P.eqGuardType P.depth t
    | _ => true
  | _ => true
/-- What the program says of type t. -/
structure TyOk (P : Program) (t : TypeId) (d : TyD) : Prop where
  info : (P.info? t).map (fun i => (i.zero, i.size, i.bytes)) = some (some d.zeroVal, d.size, d.bytes)
  kind : (P.underlying t).map (kindOf P) = some d.kind
  zlen : d.zero.length = d.size
  ceq : cmpOk P t = true
  fok : (match P.underlying t with | some (.struct fs) => fs.toList.all (fun f => (P.info? f.type).isSome) | _ => true) = true
  zwf : (isStr d.kind || d.zero.length == 1) = true
  lt : t < markT
  zone : d.zero.all (fun x => x.val.oneCell' && match x with | .sl .. => false | .cl .. => false | .o => false | .pt _ => false | _ => true) = true
def tagMem (t : Nat) : List Nat → Bool
  | [] => false
  | j :: r => match Nat.beq j t with | true => true | false => tagMem t r
/-- The table of types; do sums of 64 bits with a sign wrap too; which calls' answers (by their slots) are to be had for good: rows of the call's own that such a call is handed are given up; which functions are lent objects: the arguments marked true are given up instead; of which types' boxes the type is kept in mind. -/
structure Tys where
  l : List (Nat × TyD)
  wrap : Bool
  pub : List Nat
  lnt : List (Nat × List Bool)
  tg : List Nat
def lookL (i : Nat) : List (Nat × TyD) → Option TyD
  | [] => none
  | (j, v) :: r => match Nat.beq j i with | true => some v | false => lookL i r
def lookT (i : Nat) (T : Tys) : Option TyD := lookL i T.l
def TysOkL (P : Program) : List (Nat × TyD) → Prop
  | [] => True
  | (t, d) :: r => TyOk P t d ∧ TysOkL P r
def TysOk (P : Program) (T : Tys) : Prop := TysOkL P T.l
theorem TysOkL.get {P : Program} {t : Nat} {d : TyD} : ∀ {T : List (Nat × TyD)}, TysOkL P T → lookL t T = some d → TyOk P t d
  | [], _, e => by simp [lookL] at e
  | (j, v) :: r, h, e => by
    have eq : lookL t ((j, v) :: r) = (match Nat.beq j t with | true => some v | false => lookL t r) := rfl
    rw [eq] at e
    cases hb : Nat.beq j t with
    | true =>
      rw [hb] at e
      cases e
      rw [← Nat.eq_of_beq_eq_true hb]
      exact h.1
    | false =>
      rw [hb] at e
      exact TysOkL.get h.2 e
theorem TysOk.get {P : Program} {t : Nat} {d : TyD} {T : Tys} (h : TysOk P T) (e : lookT t T = some d) : TyOk P t d := TysOkL.get h e
theorem TyOk.info' {P : Program} {t : TypeId} {d : TyD} (h : TyOk P t d) : ∃ i, P.info? t = some i ∧ i.zero = some d.zeroVal ∧ i.size = d.size ∧ i.bytes = d.bytes := by
  have := h.info
  cases hi : P.info? t with
  | none => rw [hi] at this; cases this
  | some i =>
    rw [hi] at this
    simp only [Option.map_some, Option.some.injEq, Prod.mk.injEq] at this
    exact ⟨i, rfl, this.1, this.2.1, this.2.2⟩
theorem TyOk.und {P : Program} {t : TypeId} {d : TyD} (h : TyOk P t d) : ∃ u, P.underlying t = some u ∧ kindOf P u = d.kind := by
  have := h.kind
  cases hi : P.underlying t with
  | none => rw [hi] at this; cases this
  | some u =>
    rw [hi] at this
    simp only [Option.map_some, Option.some.injEq] at this
    exact ⟨u, rfl, this⟩
section
variable {P : Program} {t : TypeId} {d : TyD}
theorem TyOk.slice {e : TypeId} (h : TyOk P t d) (hk : d.kind = .slice e) : P.underlying t = some (.slice e) := by
  obtain ⟨u, h1, h2⟩ := h.und
  rw [hk] at h2
  cases u <;> simp [kindOf] at h2
  rw [h1, h2]
theorem TyOk.bool (h : TyOk P t d) (hk : d.kind = .bool) : P.underlying t = some .bool := by
  obtain ⟨u, h1, h2⟩ := h.und
  rw [hk] at h2
  cases u <;> simp [kindOf] at h2 <;> first | (subst h2; exact h1) | exact h1
theorem TyOk.string (h : TyOk P t d) (hk : d.kind = .string) : P.underlying t = some .string := by
  obtain ⟨u, h1, h2⟩ := h.und
  rw [hk] at h2
  cases u <;> simp [kindOf] at h2
  exact h1
theorem TyOk.int {k : IntKind} (h : TyOk P t d) (hk : d.kind = .int k) : P.underlying t = some (.int k) := by
  obtain ⟨u, h1, h2⟩ := h.und
  rw [hk] at h2
  cases u <;> simp [kindOf] at h2
  rw [h1, h2]
theorem TyOk.array {n : Nat} {e : TypeId} (h : TyOk P t d) (hk : d.kind = .array n e) : P.underlying t = some (.array n e) := by
  obtain ⟨u, h1, h2⟩ := h.und
  rw [hk] at h2
  cases u <;> simp [kindOf] at h2
  rw [h1, h2.1, h2.2]
theorem TyOk.struct {fs : List (Nat × Nat × TypeId)} (h : TyOk P t d) (hk : d.kind = .struct fs) : ∃ l, P.underlying t = some (.struct l) ∧ (l.toList.map fun f => (f.offset, match P.info? f.type with | some i => i.size | none => 0, f.type)) = fs := by
  obtain ⟨u, h1, h2⟩ := h.und
  rw [hk] at h2
  cases u with
  | struct l => refine ⟨l, h1, ?_⟩; simpa [kindOf] using h2
  | _ => simp [kindOf] at h2
theorem TyOk.map {k e : TypeId} (h : TyOk P t d) (hk : d.kind = .map k e) : P.underlying t = some (.map k e) := by
  obtain ⟨u, h1, h2⟩ := h.und
  rw [hk] at h2
  cases u <;> simp [kindOf] at h2
  rw [h1, h2.1, h2.2]
theorem TyOk.isAgg (h : TyOk P t d) (w : World) : (isAgg t).run P w = .ok (isStr d.kind) w := by
  obtain ⟨u, h1, h2⟩ := h.und
  cases u <;> simp [Go.isAgg, run_underlying h1, ← h2, kindOf, isStr]
theorem TyOk.sizeOf (h : TyOk P t d) (w : World) : (Go.sizeOf t).run P w = .ok d.size w := by
  obtain ⟨i, h1, h2, h3, h4⟩ := h.info'
  simp [Go.sizeOf, typeInfo, h1, h3]
theorem TyOk.zeroValue (h : TyOk P t d) (w : World) : (zeroValue t).run P w = .ok d.zeroVal w := by
  obtain ⟨i, h1, h2, h3, h4⟩ := h.info'
  simp [Go.zeroValue, typeInfo, h1, h2]
end

def takeF {α : Type} : Nat → List α → Option (List α)
  | 0, _ => some []
  | _ + 1, [] => none
  | n + 1, c :: r => match takeF n r with | some l => some (c :: l) | none => none
def dropF {α : Type} : Nat → List α → List α
  | 0, l => l
  | _ + 1, [] => []
  | n + 1, _ :: r => dropF n r
/-- l over cells from place off on. -/
def overF {α : Type} : List α → Nat → List α → Option (List α)
  | cs, 0, [] => some cs
  | _ :: cs, 0, x :: l => match overF cs 0 l with | some r => some (x :: r) | none => none
  | c :: cs, n + 1, l => match overF cs n l with | some r => some (c :: r) | none => none
  | [], _, _ => none
def liftF : List D → Option (List AVal)
  | [] => some []
  | x :: r => match liftF r with | some l => some (.d x :: l) | none => none
theorem takeF_eq {α : Type} : ∀ {n : Nat} {l m : List α}, takeF n l = some m → m = l.take n ∧ n ≤ l.length
  | 0, l, m, h => by simp [takeF] at h; subst h; simp
  | n + 1, [], m, h => by simp [takeF] at h
  | n + 1, c :: r, m, h => by
    simp only [takeF] at h
    cases hr : takeF n r with
    | none => rw [hr] at h; cases h
    | some l =>
      rw [hr] at h
      simp only [Option.some.injEq] at h
      obtain ⟨e1, e2⟩ := takeF_eq hr
      subst h
      rw [e1]
      exact ⟨rfl, by simp; omega⟩
theorem dropF_eq {α : Type} : ∀ (n : Nat) (l : List α), dropF n l = l.drop n
  | 0, l => rfl
  | n + 1, [] => by simp [dropF]
  | n + 1, c :: r => by simp only [dropF, List.drop_succ_cons]; exact dropF_eq n r
theorem liftF_eq : ∀ {l : List D} {m : List AVal}, liftF l = some m → m = l.map .d
  | [], m, h => by simp [liftF] at h; subst h; rfl
  | x :: r, m, h => by
    simp only [liftF] at h
    cases hr : liftF r with
    | none => rw [hr] at h; cases h
    | some l =>
      rw [hr] at h
      simp only [Option.some.injEq] at h
      subst h
      rw [liftF_eq hr]; rfl
theorem overF_eq {α : Type} : ∀ {cs : List α} {n : Nat} {l m : List α}, overF cs n l = some m → n + l.length ≤ cs.length ∧ m.length = cs.length ∧ ∀ i, m[i]? = if n ≤ i ∧ i < n + l.length then l[i - n]? else cs[i]?
  | cs, 0, [], m, h => by
    have h : some cs = some m := by cases cs <;> simpa [overF] using h
    cases h
    exact ⟨by simp, rfl, fun i => by rw [if_neg (by simp)]⟩
  | c :: cs, 0, x :: l, m, h => by
    simp only [overF] at h
    cases hr : overF cs 0 l with
    | none => rw [hr] at h; cases h
    | some r =>
      rw [hr] at h
      simp only [Option.some.injEq] at h
      subst h
      obtain ⟨h1, h2, h3⟩ := overF_eq hr
      refine ⟨by simp at h1 ⊢; omega, by simp [h2], fun i => ?_⟩
      cases i with
      | zero => simp
      | succ i =>
        have := h3 i
        simp only [Nat.zero_le, true_and, Nat.zero_add, Nat.sub_zero] at this
        simp only [List.getElem?_cons_succ, this, Nat.zero_le, true_and, Nat.zero_add, List.length_cons, Nat.add_lt_add_iff_right, Nat.sub_zero]
  | c :: cs, n + 1, l, m, h => by
    simp only [overF] at h
    cases hr : overF cs n l with
    | none => rw [hr] at h; cases h
    | some r =>
      rw [hr] at h
      simp only [Option.some.injEq] at h
      subst h
      obtain ⟨h1, h2, h3⟩ := overF_eq hr
      refine ⟨by simp; omega, by simp [h2], fun i => ?_⟩
      cases i with
      | zero => simp
      | succ i =>
        have e : (n + 1 ≤ i + 1 ∧ i + 1 < n + 1 + l.length) ↔ (n ≤ i ∧ i < n + l.length) := by omega
        simp only [List.getElem?_cons_succ, h3 i, e, Nat.add_sub_add_right]
  | [], n + 1, l, m, h => by simp [overF] at h
  | [], 0, x :: l, m, h => by simp [overF] at h
def aconst : Value → AVal
  | .int k n => .d (.i k n)
  | .bool b => .d (.b b)
  | .string s => .d (.s s.data.toList)
  | .agg _ => .any
  | .tuple _ => .any
  | v => .d (.v v)
theorem aconst_rep (w : World) (good : Nat → Prop) (L : Lay) (v : Value) : RepA w L good (aconst v) v := by
  cases v with
  | int k n => exact .d (.i k n)
  | bool b => exact .d (.b b)
  | string s => exact .d (by have := RepD.s (w := w) (good := good) s.data.toList; simpa using this)
  | agg _ => exact .any
  | tuple _ => exact .any
  | _ => exact .d (.v _ rfl)
def AVal.cells : AVal → List AVal
  | .agg l => l
  | v => [v]
inductive Res
  | val (v : AVal)
  | cond (v : AVal) (c : Prop)
  | new (o : AObj)
  | newv (o : AObj) (v : Nat → AVal) (c : Option Prop)
  | set (id : Nat) (o : AObj)
  | setc (id : Nat) (o : AObj) (c : Prop)
  | mkrow (t : TypeId) (sz n : Nat) (f : Nat → List D) (c : Option Prop)
  | app (old : Nat) (t : TypeId) (sz n : Nat) (f : Nat → List D) (c : Prop)
  | appv (old : Nat) (t : TypeId) (cells : List AVal) (c : Prop)
  | mkv (t : TypeId) (cells : List AVal) (c : Prop)
  | mget (k : D) (l : List (D × D)) (z : D) (ok : Bool)
  | mput (id : Nat) (k x : D) (l : List (D × D))
  | mdel (id : Nat) (k : D) (l : List (D × D))
  | ndb (c : Bool → Prop)
  | str (c : List UInt8 → Prop)
  | pub (id : Nat) (v : AVal)

def wraps (T : Tys) : Bool := T.wrap
/-- A sum: 64 bits with a sign are added as they are, where that fits; the others wrap. -/
def arith (w : Bool) (k : IntKind) (n : Int) : Res :=
  match k with
  | .i64 => match w with
    | true => .val (.d (.i .i64 (IntKind.i64.wrap n)))
    | false => .cond (.d (.i .i64 n)) (-9223372036854775808 ≤ n ∧ n ≤ 9223372036854775807)
  | k => .val (.d (.i k (k.wrap n)))
def bitsOp (op : BinOp) (k : IntKind) (a b : Int) : Int :=
  let x := BitVec.ofInt k.bits a
  let y := BitVec.ofInt k.bits b
  match op with
  | .and => k.wrap (x &&& y).toNat
  | .or => k.wrap (x ||| y).toNat
  | .xor => k.wrap (x ^^^ y).toNat
  | _ => k.wrap (x &&& ~~~y).toNat
def kEq : IntKind → IntKind → Bool
  | .i8, .i8 => true | .i16, .i16 => true | .i32, .i32 => true | .i64, .i64 => true
  | .u8, .u8 => true | .u16, .u16 => true | .u32, .u32 => true | .u64, .u64 => true
  | _, _ => false
theorem kEq_eq {a b : IntKind} (h : kEq a b = true) : a = b := by cases a <;> cases b <;> simp_all [kEq]
def aBinI (w : Bool) (op : BinOp) (k : IntKind) (a b : Int) : Option Res :=
  match op with
  | .add => some (arith w k (a + b))
  | .sub => some (arith w k (a - b))
  | .mul => some (arith w k (a * b))
  | .eql => some (.val (.d (.b (a == b))))
  | .neq => some (.val (.d (.b (a != b))))
  | .lss => some (.val (.d (.b (decide (a < b)))))
  | .leq => some (.val (.d (.b (decide (a ≤ b)))))
  | .gtr => some (.val (.d (.b (decide (b < a)))))
  | .geq => some (.val (.d (.b (decide (b ≤ a)))))
  | .quo => some (.cond (.d (.i k (k.wrap (a.tdiv b)))) (b ≠ 0))
  | .rem => some (.cond (.d (.i k (a.tmod b))) (b ≠ 0))
  | .and => some (.val (.d (.i k (bitsOp .and k a b))))
  | .or => some (.val (.d (.i k (bitsOp .or k a b))))
  | .xor => some (.val (.d (.i k (bitsOp .xor k a b))))
  | .andNot => some (.val (.d (.i k (bitsOp .andNot k a b))))
  | _ => none
def shlOp (k : IntKind) (a b : Int) : Int := k.wrap (a * 2 ^ min b.toNat k.bits)
def shrOp (k : IntKind) (a b : Int) : Int := a.fdiv (2 ^ min b.toNat k.bits)
def aBin (w : Bool) (op : BinOp) : AVal → AVal → Option Res
  | .d (.i k a), .d (.i k' b) =>
    match op with
    | .shl => some (.cond (.d (.i k (shlOp k a b))) (0 ≤ b))
    | .shr => some (.cond (.d (.i k (shrOp k a b))) (0 ≤ b))
    | op => match kEq k k' with
      | true => aBinI w op k a b
      | false => none
  | .d (.s a), .d (.s b) =>
    match op with
    | .add => some (.cond (.d (.s (a ++ b))) (a.length + b.length ≤ 9223372036854775807))
    | .eql => some (.val (.d (.b (a == b))))
    | .neq => some (.val (.d (.b (a != b))))
    | .lss => some (.val (.d (.b (Op.bytesLess a b))))
    | _ => none
  | _, _ => none
def aLen : AVal → Option Int
  | .d (.s l) => some l.length
  | .d (.sl _ n _) => some n
  | .rsl _ _ _ n => some n
  | .d (.v (.slice none 0 _)) => some 0
  | _ => none
def mkCond (v : AVal) : Option Prop → Res
  | some c => .cond v c
  | none => .val v
/-- All cells from the pointed place on. -/
def aCells (h : Nat → Option AObj) : AVal → Option (List AVal × Option Prop)
  | .ptr id off => match h id with
    | some (.box cells _) => some (dropF off cells, none)
    | _ => none
  | .eptr _ _ f k off => match liftF (dropF off (f k)) with
    | some l => some (l, none)
    | none => none
  | .rptr id sz k off => match h id with
    | some (.row _ sz' n f) => match Nat.beq sz sz' with
      | true => match liftF (dropF off (f k)) with
        | some l => some (l, some (k < n))
        | none => none
      | false => none
    | some (.box cells _) => some (dropF (k * sz + off) cells, none)
    | some (.mp _) => none
    | some (.vrow ..) => none
    | some (.dmp _) => none
    | none => none
  | .d (.pt ds) => match liftF ds with
    | some l => some (l, none)
    | none => none
  | _ => none
def aPart (d : TyD) (l : List AVal) : Option AVal :=
  match takeF d.size l with
  | some l => match isStr d.kind with
    | true => some (.agg l)
    | false => match l with | [x] => some x | _ => none
  | none => none
def aLoad (h : Nat → Option AObj) (d : TyD) (p : AVal) : Option Res :=
  match aCells h p with
  | some (l, c) => match aPart d l with
    | some v => some (mkCond v c)
    | none => none
  | none => none
def AVal.sure : AVal → Bool
  | .any => false
  | .tup _ => false
  | .agg _ => false
  | _ => true
/-- The cells of a value that is stored. -/
def aStored (d : TyD) : AVal → Option (List AVal)
  | .agg l => match isStr d.kind with | true => some l | false => none
  | .any => none
  | .tup _ => none
  | v => match isStr d.kind with | true => none | false => some [v]
/-- One element of a row is another one. -/
def fupd (f : Nat → List D) (k : Nat) (r : List D) : Nat → List D := fun j => if j = k then r else f j
def unliftF : List AVal → Option (List D)
  | [] => some []
  | .d x :: r => match unliftF r with | some l => some (x :: l) | none => none
  | _ => none
theorem unliftF_eq : ∀ {l : List AVal} {m : List D}, unliftF l = some m → l = m.map .d
  | [], m, h => by simp [unliftF] at h; subst h; rfl
  | x :: r, m, h => by
    cases x with
    | d x =>
      simp only [unliftF] at h
      cases hr : unliftF r with
      | none => rw [hr] at h; cases h
      | some l =>
        rw [hr] at h
        simp only [Option.some.injEq] at h
        subst h
        rw [unliftF_eq hr]; rfl
    | _ => simp [unliftF] at h
def aStore (h : Nat → Option AObj) (d : TyD) (v : AVal) : AVal → Option Res
  | .ptr id off => match h id with
    | some (.box cells tag) => match aStored d v with
      | some vs => match Nat.beq vs.length d.size with
        | true => match overF cells off vs with
          | some l => some (.set id (.box l tag))
          | none => none
        | false => none
      | none => none
    | _ => none
  | .rptr id sz k off => match h id with
    | some (.row t sz' n f) => match Nat.beq sz sz' with
      | true => match aStored d v with
        | some vs => match Nat.beq vs.length d.size with
          | true => match unliftF vs with
            | some vs => match overF (f k) off vs with
              | some l => some (.setc id (.row t sz' n (fupd f k l)) (k < n))
              | none => none
            | none => none
          | false => none
        | none => none
      | false => none
    | some (.box cells tag) => match aStored d v with
      | some vs => match Nat.beq vs.length d.size with
        | true => match overF cells (k * sz + off) vs with
          | some l => some (.set id (.box l tag))
          | none => none
        | false => none
      | none => none
    | some (.mp _) => none
    | some (.vrow ..) => none
    | some (.dmp _) => none
    | none => none
  | _ => none
def aAddr (n : Nat) : AVal → Option AVal
  | .ptr id off => some (.ptr id (Nat.add off n))
  | .eptr sz m f k off => some (.eptr sz m f k (Nat.add off n))
  | .rptr id sz k off => some (.rptr id sz k (Nat.add off n))
  | .d (.pt ds) => some (.eptr ds.length 1 (fun _ => ds) 0 n)
  | _ => none
def fieldAt : Nat → List (Nat × Nat × TypeId) → Option (Nat × Nat × TypeId)
  | 0, x :: _ => some x
  | n + 1, _ :: r => fieldAt n r
  | _, [] => none
def aIndex (es : Nat) : AVal → AVal → Option Res
  | .d (.sl sz n f), .d (.i _ k) => match Nat.beq es sz with
    | true => some (.cond (.eptr sz n f k.toNat 0) (0 ≤ k ∧ k < n))
    | false => none
  | .rsl id sz o n, .d (.i _ k) => match Nat.beq es sz with
    | true => some (.cond (.rptr id sz (o + k.toNat) 0) (0 ≤ k ∧ k < n))
    | false => none
  | _, _ => none
/-- A slice expression's bounds, as numbers. -/
def sliceOf (n : Nat) : Option Int → Option Int → Nat × Nat × Option Prop
  | none, none => (0, n, none)
  | some a, none => (a.toNat, n, some (0 ≤ a ∧ a ≤ n))
  | none, some b => (0, b.toNat, some (0 ≤ b ∧ b ≤ n))
  | some a, some b => (a.toNat, b.toNat, some (0 ≤ a ∧ a ≤ b ∧ b ≤ n))
def cutS (l : List UInt8) : Option Int → Option Int → List UInt8
  | none, none => l
  | some a, none => l.drop a.toNat
  | none, some b => l.take b.toNat
  | some a, some b => (l.take b.toNat).drop a.toNat
def aSlice : AVal → Option Int → Option Int → Option Res
  | .d (.s l), lo, hi => some (mkCond (.d (.s (cutS l lo hi))) (sliceOf l.length lo hi).2.2)
  | .d (.sl sz n f), lo, hi => match sliceOf n lo hi with
    | (a, b, c) => match a with
      | 0 => some (mkCond (.d (.sl sz b f)) c)
      | a => some (mkCond (.d (.sl sz (b - a) fun k => f (a + k))) c)
  | .rsl id sz o n, lo, hi => match sliceOf n lo hi with
    | (a, b, c) => match a with
      | 0 => some (mkCond (.rsl id sz o b) c)
      | a => some (mkCond (.rsl id sz (o + a) (b - a)) c)
  | _, _, _ => none
def opnd (g : Nat → AVal) : Operand → AVal
  | .tmp t => g t
  | .const v => aconst v
  | .func f => .fn f []
  | .global n => globV n
def optI (g : Nat → AVal) : Option Operand → Option (Option Int)
  | none => some none
  | some x => match opnd g x with
    | .d (.i _ n) => some (some n)
    | _ => none
/-- The bounds of a slice, where they are plain numbers. -/
def boundsN (n : Nat) : Option (Option Int) → Option (Option Int) → Option (Nat × Nat)
  | some none, some none => some (0, n)
  | some (some (.ofNat A)), some none => match Nat.ble A n with | true => some (A, n) | false => none
  | some none, some (some (.ofNat B)) => match Nat.ble B n with | true => some (0, B) | false => none
  | some (some (.ofNat A)), some (some (.ofNat B)) => match Nat.ble A B && Nat.ble B n with | true => some (A, B) | false => none
  | _, _ => none
theorem boundsN_ok {n A B : Nat} {x y : Option (Option Int)} (h : boundsN n x y = some (A, B)) : ∃ ra rb, x = some ra ∧ y = some rb ∧ (sliceOf n ra rb).1 = A ∧ (sliceOf n ra rb).2.1 = B ∧ (∀ q, (sliceOf n ra rb).2.2 = some q → q) := by
  unfold boundsN at h
  split at h
  · cases h; exact ⟨_, _, rfl, rfl, rfl, rfl, fun q hq => by cases hq⟩
  · split at h
    · rename_i hb
      cases h
      have := Nat.le_of_ble_eq_true hb
      exact ⟨_, _, rfl, rfl, rfl, rfl, fun q hq => by simp only [sliceOf, Option.some.injEq] at hq; subst hq; exact ⟨Int.natCast_nonneg _, Int.ofNat_le.2 this⟩⟩
    · cases h
  · split at h
    · rename_i hb
      cases h
      have := Nat.le_of_ble_eq_true hb
      exact ⟨_, _, rfl, rfl, rfl, rfl, fun q hq => by simp only [sliceOf, Option.some.injEq] at hq; subst hq; exact ⟨Int.natCast_nonneg _, Int.ofNat_le.2 this⟩⟩
    · cases h
  · split at h
    · rename_i hb
      cases h
      rw [Bool.and_eq_true] at hb
      have h1 := Nat.le_of_ble_eq_true hb.1
      have h2 := Nat.le_of_ble_eq_true hb.2
      exact ⟨_, _, rfl, rfl, rfl, rfl, fun q hq => by simp only [sliceOf, Option.some.injEq] at hq; subst hq; exact ⟨Int.natCast_nonneg _, Int.ofNat_le.2 h1, Int.ofNat_le.2 h2⟩⟩
    · cases h
  · cases h
def aParts (fs : List (Nat × Nat × TypeId)) (g : Nat → AVal) : List (Nat × Operand) → List AVal → Option (List AVal)
  | [], cs => some cs
  | (j, x) :: r, cs => match fieldAt j fs with
    | some (off, size, _) => match opnd g x with
      | .any => none
      | .tup _ => none
      | v => match Nat.beq v.cells.length size with
        | true => match overF cs off v.cells with
          | some cs' => aParts fs g r cs'
          | none => none
        | false => none
    | none => none
/-- The places of an array's elements. -/
def arrF (s e : Nat) : Nat → Nat → List (Nat × Nat × Nat)
  | 0, _ => []
  | n + 1, off => (off, s, e) :: arrF s e n (off + s)
/-- Values, made: each begins with its word. -/
def strictV : AVal → Option AVal
  | .any => some .any
  | .d x => some (.d x)
  | .agg l => some (.agg l)
  | .tup l => some (.tup l)
  | .ptr a b => some (.ptr a b)
  | .eptr a b c d e => some (.eptr a b c d e)
  | .rsl a b c d => some (.rsl a b c d)
  | .rptr a b c d => some (.rptr a b c d)
  | .mref a => some (.mref a)
  | .fn a b => some (.fn a b)
  | .fresh a b c d => some (.fresh a b c d)
def strictL : List AVal → Option (List AVal)
  | [] => some []
  | x :: r => match strictV x with
    | some x => match strictL r with
      | some r => some (x :: r)
      | none => none
    | none => none
theorem strictL_eq : ∀ {l m : List AVal}, strictL l = some m → m = l
  | [], m, h => by simpa [strictL] using h.symm
  | x :: r, m, h => by
    have hx : strictV x = some x := by cases x <;> rfl
    rw [strictL, hx] at h
    simp only at h
    cases hr : strictL r with
    | none => rw [hr] at h; cases h
    | some r' =>
      rw [hr] at h
      cases h
      rw [strictL_eq hr]
def listAt {α : Type} : Nat → List α → Option α
  | 0, x :: _ => some x
  | n + 1, _ :: r => listAt n r
  | _, [] => none
def replF {α : Type} : Nat → α → List α
  | 0, _ => []
  | n + 1, x => x :: replF n x
def setF {α : Type} : Nat → α → List α → Option (List α)
  | _, _, [] => none
  | 0, x, _ :: r => some (x :: r)
  | n + 1, x, y :: r => match setF n x r with
    | some r' => some (y :: r')
    | none => none
theorem replF_eq {α : Type} (x : α) : ∀ n, replF n x = List.replicate n x
  | 0 => rfl
  | n + 1 => by simp only [replF, replF_eq x n, List.replicate_succ]
theorem setF_eq {α : Type} {x : α} : ∀ {n : Nat} {l m : List α}, setF n x l = some m → n < l.length ∧ m = l.set n x
  | n, [], m, h => by cases n <;> simp [setF] at h
  | 0, y :: r, m, h => by simp only [setF, Option.some.injEq] at h; subst h; simp
  | n + 1, y :: r, m, h => by
    simp only [setF] at h
    cases hr : setF n x r with
    | none => rw [hr] at h; cases h
    | some r' =>
      rw [hr] at h
      simp only [Option.some.injEq] at h
      subst h
      obtain ⟨h1, h2⟩ := setF_eq hr
      subst h2
      exact ⟨by simp; omega, rfl⟩
/-- The elements of a slice that is written out. -/
def aElems (d : TyD) (g : Nat → AVal) : List (Nat × Operand) → List (List D) → Option (List (List D))
  | [], l => some l
  | (j, x) :: r, l => match aStored d (opnd g x) with
    | some vs => match Nat.beq vs.length d.size with
      | true => match unliftF vs with
        | some us => match setF j us l with
          | some l' => aElems d g r l'
          | none => none
        | none => none
      | false => none
    | none => none
/-- .. whose cells may hold objects of the call's own. -/
def aElemsA (d : TyD) (g : Nat → AVal) : List (Nat × Operand) → List AVal → Option (List AVal)
  | [], l => some l
  | (j, x) :: r, l => match aStored d (opnd g x) with
    | some vs => match Nat.beq vs.length d.size with
      | true => match overF l (j * d.size) vs with
        | some l' => aElemsA d g r l'
        | none => none
      | false => none
    | none => none
/-- One row behind another. -/
def fcat (f : Nat → List D) (n : Nat) (f2 : Nat → List D) : Nat → List D := fun k => if k < n then f k else f2 (k - n)
def aSrc (h : Nat → Option AObj) (sz : Nat) : AVal → Option (Nat × (Nat → List D) × Option Prop)
  | .d (.sl sz' m f) => match Nat.beq sz' sz with
    | true => some (m, f, none)
    | false => none
  | .d (.v (.slice none 0 _)) => some (0, fun _ => [], none)
  | .rsl id sz' o m => match o with
    | 0 => match h id with
      | some (.row _ sz2 n f) => match Nat.beq sz' sz with
        | true => match Nat.beq sz2 sz with
          | true => some (m, f, some (m ≤ n))
          | false => none
        | false => none
      | _ => none
    | _ => none
  | _ => none
def andC (p : Prop) : Option Prop → Prop
  | some q => p ∧ q
  | none => p
/-- The same type, and rows of it bear no mark. -/
def eqT (a b : Nat) : Bool := match Nat.beq a b with | true => Nat.blt b markT | false => false
theorem eqT_ok {a b : Nat} (h : eqT a b = true) : a = b ∧ b < markT := by
  unfold eqT at h
  cases hb : Nat.beq a b with
  | false => rw [hb] at h; cases h
  | true =>
    rw [hb] at h
    exact ⟨Nat.eq_of_beq_eq_true hb, Nat.le_of_ble_eq_true h⟩
def aAppend (e : TypeId) (d : TyD) (h : Nat → Option AObj) (s x : AVal) : Option Res :=
  match d.size with
  | 0 => none
  | _ + 1 => match aSrc h d.size x with
    | some (m, f2, c) => match s with
      | .d (.v (.slice none 0 0)) => some (.mkrow e d.size m f2 (some (andC (m ≤ 9223372036854775807 ∧ m * d.bytes ≤ 140737488355328) c)))
      | .rsl id sz o n => match o with
        | 0 => match h id with
          | some (.row e' sz' n' f) => match eqT e' e with
            | true => match Nat.beq sz' d.size with
              | true => match Nat.beq sz d.size with
                | true => some (.app id e d.size (n' + m) (fcat f n' f2) (andC (n = n' ∧ n' + m ≤ 9223372036854775807 ∧ (n' + m) * d.bytes ≤ 140737488355328) c))
                | false => none
              | false => none
            | false => none
          | _ => none
        | _ => none
      | _ => none
    | none => none
/-- Bytes, as elements. -/
def bytesF (l : List UInt8) : Nat → List D := fun k => [.i .u8 ((l.getD k 0).toNat : Nat)]
/-- m elements f2, put behind. -/
def aAppendX (e : TypeId) (d : TyD) (h : Nat → Option AObj) (s : AVal) (m : Nat) (f2 : Nat → List D) (c : Option Prop) : Option Res :=
  match d.size with
  | 0 => none
  | _ + 1 => match s with
    | .d (.v (.slice none 0 0)) => some (.mkrow e d.size m f2 (some (andC (m ≤ 9223372036854775807 ∧ m * d.bytes ≤ 140737488355328) c)))
    | .rsl id sz o n => match o with
      | 0 => match h id with
        | some (.row e' sz' n' f) => match eqT e' e with
          | true => match Nat.beq sz' d.size with
            | true => match Nat.beq sz d.size with
              | true => some (.app id e d.size (n' + m) (fcat f n' f2) (andC (n = n' ∧ n' + m ≤ 9223372036854775807 ∧ (n' + m) * d.bytes ≤ 140737488355328) c))
              | false => none
            | false => none
          | false => none
        | _ => none
      | _ => none
    | _ => none
def isNil : AVal → Bool
  | .d (.v (.slice none 0 0)) => true
  | _ => false
def isNilP : AVal → Bool
  | .d (.v (.pointer none)) => true
  | _ => false
/-- A pointer against nil. -/
def aNilP (op : BinOp) (x : AVal) : Option Res :=
  match x with
  | .ptr _ _ => match op with
    | .eql => some (.val (.d (.b false)))
    | .neq => some (.val (.d (.b true)))
    | _ => none
  | .d (.pt _) => match op with
    | .eql => some (.val (.d (.b false)))
    | .neq => some (.val (.d (.b true)))
    | _ => none
  | .d (.v (.pointer none)) => match op with
    | .eql => some (.val (.d (.b true)))
    | .neq => some (.val (.d (.b false)))
    | _ => none
  | _ => none
/-- A slice against nil: one with elements is not nil. -/
def aNil (op : BinOp) (x : AVal) : Option Res :=
  match x with
  | .d (.sl _ n _) => match op with
    | .eql => some (.ndb fun b => 0 < n → b = false)
    | .neq => some (.ndb fun b => 0 < n → b = true)
    | _ => none
  | .rsl _ _ _ n => match op with
    | .eql => some (.ndb fun b => 0 < n → b = false)
    | .neq => some (.ndb fun b => 0 < n → b = true)
    | _ => none
  | .d (.v (.slice none 0 0)) => match op with
    | .eql => some (.val (.d (.b true)))
    | .neq => some (.val (.d (.b false)))
    | _ => none
  | _ => none
/-- Two structs of plain fields. -/
def eqF (T : Tys) : List (Nat × Nat × TypeId) → List AVal → List AVal → Option Bool
  | [], _, _ => some true
  | (off, _, ft) :: r, l, m => match lookT ft T with
    | some ⟨.int _, _, _, _⟩ => match l[off]?, m[off]? with
      | some (.d (.i k a)), some (.d (.i k' b)) => match kEq k k' with
        | true => match eqF T r l m with
          | some c => some ((a == b) && c)
          | none => none
        | false => none
      | _, _ => none
    | some ⟨.bool, _, _, _⟩ => match l[off]?, m[off]? with
      | some (.d (.b a)), some (.d (.b b)) => match eqF T r l m with
        | some c => some ((a == b) && c)
        | none => none
      | _, _ => none
    | some ⟨.string, _, _, _⟩ => match l[off]?, m[off]? with
      | some (.d (.s a)), some (.d (.s b)) => match eqF T r l m with
        | some c => some ((a == b) && c)
        | none => none
      | _, _ => none
    | _ => none
/-- Two arrays of numbers. -/
def eqA : List Nat → List AVal → List AVal → Option Bool
  | [], _, _ => some true
  | i :: is, l, m => match l[i]?, m[i]? with
    | some (.d (.i k a)), some (.d (.i k' b)) => match kEq k k' with
      | true => match eqA is l m with
        | some c => some ((a == b) && c)
        | none => none
      | false => none
    | _, _ => none
def aCmp (T : Tys) (op : BinOp) (t : TypeId) (l m : List AVal) : Option Res :=
  match lookT t T with
  | some ⟨.struct fs, _, _, _⟩ => match eqF T fs l m with
    | some b => match op with
      | .eql => some (.val (.d (.b b)))
      | .neq => some (.val (.d (.b (!b))))
      | _ => none
    | none => none
  | some ⟨.array n e, _, _, _⟩ => match lookT e T with
    | some ⟨.int _, sz, _, _⟩ => match Nat.beq sz 1 with
      | true => match eqA (List.range n) l m with
        | some b => match op with
          | .eql => some (.val (.d (.b b)))
          | .neq => some (.val (.d (.b (!b))))
          | _ => none
        | none => none
      | false => none
    | _ => none
  | _ => none
/-- Rows of such elements are boxes: their cells may hold objects of the call's own. -/
abbrev bxT : Nat := 2000000000
/-- Rows of such elements that are written out are data at once: nobody turns them later. -/
abbrev pbT : Nat := 3000000000
/-- n copies. -/
def copyF {α : Type} : Nat → List α → List α
  | 0, _ => []
  | n + 1, l => l ++ copyF n l
theorem copyF_len {α : Type} (l : List α) : ∀ n, (copyF n l).length = n * l.length
  | 0 => by simp [copyF]
  | n + 1 => by rw [copyF, List.length_append, copyF_len l n, Nat.add_mul]; omega
theorem copyF_get {α : Type} (l : List α) : ∀ (n : Nat) (i : Nat) (x : α), (copyF n l)[i]? = some x → ∃ k j, k < n ∧ j < l.length ∧ i = k * l.length + j ∧ l[j]? = some x
  | 0, i, x, h => by simp [copyF] at h
  | n + 1, i, x, h => by
    rw [copyF] at h
    by_cases hi : i < l.length
    · rw [List.getElem?_append_left hi] at h
      exact ⟨0, i, by omega, hi, by omega, h⟩
    · rw [List.getElem?_append_right (by omega)] at h
      obtain ⟨k, j, h1, h2, h3, h4⟩ := copyF_get l n _ x h
      exact ⟨k + 1, j, by omega, h2, by rw [Nat.add_mul]; omega, h4⟩
/-- Maps of this type are objects of the call's own; without the mark a map is something of which nothing is known. -/
abbrev mpT : Nat := 4000000000
/-- Is it a key of such a kind? -/
def keyK : TyK → D → Bool
  | .int K, .i k _ => kEq K k
  | .string, .s _ => true
  | _, _ => false
def keyEq : D → D → Option Bool
  | .i k a, .i k' b => match kEq k k' with
    | true => some (a == b)
    | false => none
  | .s a, .s b => some (a == b)
  | _, _ => none
/-- Where a key stands, and what it leads to. -/
def findM (k : D) : List (D × AVal) → Nat → Option (Option (Nat × AVal))
  | [], _ => some none
  | (k', v) :: r, i => match keyEq k k' with
    | some true => some (some (i, v))
    | some false => findM k r (i + 1)
    | none => none
/-- Where a key stands in a map of data, and what it leads to. -/
def findD0 (k : D) : List (D × D) → Nat → Option (Option (Nat × D))
  | [], _ => some none
  | (k', v) :: r, i => match keyEq k k' with
    | some true => some (some (i, v))
    | some false => findD0 k r (i + 1)
    | none => none
@[irreducible] def findD (k : D) (l : List (D × D)) : Option (Option (Nat × D)) := findD0 k l 0
/-- The map with an entry more, or with another one. -/
@[irreducible] def putM (f : Option (Nat × D)) (k v : D) (l : List (D × D)) : List (D × D) := match f with | some (i, _) => l.set i (k, v) | none => l ++ [(k, v)]
@[irreducible] def delM (f : Option (Nat × D)) (l : List (D × D)) : List (D × D) := match f with | some (i, _) => l.eraseIdx i | none => l
/-- What a map says of a key. -/
def getD2 (z : D) (f : Option (Nat × D)) : D := match f with | some p => p.2 | none => z
def isS (f : Option (Nat × D)) : Bool := match f with | some _ => true | none => false
def okM (ok : Bool) (x : AVal) (b : Bool) : AVal := match ok with | true => .tup [x, .d (.b b)] | false => x
/-- What is asked of a map: its own list, by a key of its kind. -/
def aMap (T : Tys) (h : Nat → Option AObj) (t : TypeId) (m k : AVal) : Option (Nat × TypeId × D × List (D × AVal)) :=
  match lookT t T with
  | some ⟨.map kt et, _, _, _⟩ => match lookT kt T with
    | some dk => match m with
      | .mref id => match h id with
        | some (.mp l) => match k with
          | .d k => match keyK dk.kind k with
            | true => some (id, et, k, l)
            | false => none
          | _ => none
        | _ => none
      | _ => none
    | none => none
  | _ => none
/-- An operation that is no call of a function. -/
def tagOf (T : Tys) (t : TypeId) : Option TypeId := match tagMem t T.tg with | true => some t | false => none
def aop0 (T : Tys) (g : Nat → AVal) (h : Nat → Option AObj) (op : Op) : Option Res :=
  match op with
  | .move x => some (.val (opnd g x))
  | .assign x => some (.val (opnd g x))
  | .pick c a b => match opnd g c with
    | .d (.b true) => some (.val (opnd g a))
    | .d (.b false) => some (.val (opnd g b))
    | _ => none
  | .box _ x => match opnd g x with
    | .agg l => some (.new (.box l))
    | .any => none
    | .tup _ => none
    | v => some (.new (.box [v]))
  | .alloc t => match lookT t T with
    | some d => match liftF d.zero with
      | some l => some (.new (.box l (tagOf T t)))
      | none => none
    | none => none
  | .build t ps => match lookT t T with
    | some ⟨.struct fs, _, _, z⟩ => match liftF z with
      | some l => match aParts fs g ps.toList l with
        | some l => match strictL l with
          | some l => some (.val (.agg l))
          | none => none
        | none => none
      | none => none
    | some ⟨.array n e, _, _, z⟩ => match lookT e T with
      | some d => match liftF z with
        | some l => match aParts (arrF d.size e n 0) g ps.toList l with
          | some l => match strictL l with
            | some l => some (.val (.agg l))
            | none => none
          | none => none
        | none => none
      | none => none
    | _ => none
  | .load t x => match lookT t T with
    | some d => aLoad h d (opnd g x)
    | none => none
  | .store t p x => match lookT t T with
    | some d => aStore h d (opnd g x) (opnd g p)
    | none => none
  | .fieldAddr t x f => match lookT t T with
    | some ⟨.struct fs, _, _, _⟩ => match fieldAt f fs with
      | some (o, s, _) => match s with
        | 0 => none
        | _ + 1 => match aAddr o (opnd g x) with
          | some v => some (.val v)
          | none => none
      | none => none
    | _ => none
  | .indexAddr t x k => match lookT t T with
    | some ⟨.slice e, _, _, _⟩ => match lookT e T with
      | some d => aIndex d.size (opnd g x) (opnd g k)
      | none => none
    | some ⟨.array n e, _, _, _⟩ => match lookT e T, opnd g x, opnd g k with
      | some d, .ptr id off, .d (.i _ kk) => some (.cond (.ptr id (off + kk.toNat * d.size)) (0 ≤ kk ∧ kk < n))
      | some d, .eptr sz m f j off, .d (.i _ kk) => some (.cond (.eptr sz m f j (off + kk.toNat * d.size)) (0 ≤ kk ∧ kk < n))
      | some d, .rptr id sz j off, .d (.i _ kk) => some (.cond (.rptr id sz j (off + kk.toNat * d.size)) (0 ≤ kk ∧ kk < n))
      | _, _, _ => none
    | _ => none
  | .field t x f => match lookT t T with
    | some ⟨.struct fs, _, _, _⟩ => match fieldAt f fs with
      | some (o, _, ft) => match lookT ft T, opnd g x with
        | some d, .agg l => match aPart d (dropF o l) with
          | some v => some (.val v)
          | none => none
        | _, _ => none
      | none => none
    | _ => none
  | .index t x k => match lookT t T with
    | some ⟨.string, _, _, _⟩ => match opnd g x, opnd g k with
      | .d (.s l), .d (.i _ k) => some (.cond (.d (.i .u8 ((l.getD k.toNat 0).toNat : Nat))) (0 ≤ k ∧ k < l.length))
      | _, _ => none
    | _ => none
  | .nilCheck x => match opnd g x with
    | .ptr id o => some (.val (.ptr id o))
    | .eptr a b c d e => some (.val (.eptr a b c d e))
    | .rptr a b c d => some (.val (.rptr a b c d))
    | .fn f l => some (.val (.fn f l))
    | .d (.pt ds) => some (.val (.d (.pt ds)))
    | _ => none
  | .lookup t m k ok => match aMap T h t (opnd g m) (opnd g k) with
    | some (_, et, k, l) => match lookT et T with
      | some d => match isStr d.kind with
        | false => match d.zero with
          | [z] => match findM k l 0 with
            | some (some (_, v)) => match ok with
              | true => some (.val (.tup [v, .d (.b true)]))
              | false => some (.val v)
            | some none => match ok with
              | true => some (.val (.tup [.d z, .d (.b false)]))
              | false => some (.val (.d z))
            | none => none
          | _ => none
        | true => none
      | none => none
    | none => none
  | .mapUpdate t m k x => match aMap T h t (opnd g m) (opnd g k) with
    | some (id, _, k, l) => match (opnd g x).sure with
      | true => match findM k l 0 with
        | some (some (i, _)) => some (.set id (.mp (l.set i (k, opnd g x))))
        | some none => some (.set id (.mp (l ++ [(k, opnd g x)])))
        | none => none
      | false => none
    | none => none
  | .insert t m k x => match aMap T h t (opnd g m) (opnd g k) with
    | some (id, _, k, l) => match (opnd g x).sure with
      | true => match findM k l 0 with
        | some (some (i, _)) => some (.set id (.mp (l.set i (k, opnd g x))))
        | some none => some (.set id (.mp (l ++ [(k, opnd g x)])))
        | none => none
      | false => none
    | none => none
  | .call { callee := .builtin .delete, args := as, argTypes := ts } => match as.toList, ts.toList with
    | [m, k], [t, _] => match aMap T h t (opnd g m) (opnd g k) with
      | some (id, _, k, l) => match findM k l 0 with
        | some (some (i, _)) => some (.set id (.mp (l.eraseIdx i)))
        | some none => some (.set id (.mp l))
        | none => none
      | none => none
    | _, _ => none
  | .binOp op t x y _ => match isNilP (opnd g y) with
   | true => match lookT t T with
    | some ⟨.pointer _, _, _, _⟩ => aNilP op (opnd g x)
    | _ => none
   | false => match isNil (opnd g y) with
    | true => match lookT t T with
      | some ⟨.slice _, _, _, _⟩ => aNil op (opnd g x)
      | _ => none
    | false => match opnd g x with
      | .agg l => match opnd g y with
        | .agg m => aCmp T op t l m
        | _ => none
      | .d (.b a) => match opnd g y with
        | .d (.b b) => match lookT t T with
          | some ⟨.bool, _, _, _⟩ => match op with
            | .eql => some (.val (.d (.b (a == b))))
            | .neq => some (.val (.d (.b (a != b))))
            | _ => none
          | _ => none
        | _ => none
      | u => aBin (wraps T) op u (opnd g y)
  | .unOp .not _ x => match opnd g x with
    | .d (.b x) => some (.val (.d (.b (!x))))
    | _ => none
  | .unOp .neg _ x => match opnd g x with
    | .d (.i k x) => some (arith (wraps T) k (0 - x))
    | _ => none
  | .unOp .xor _ x => match opnd g x with
    | .d (.i k x) => some (.val (.d (.i k (bitsOp .xor k (if k.signed then -1 else k.max) x))))
    | _ => none
  | .convert src dst x => match lookT src T, lookT dst T, opnd g x with
    | some _, some ⟨.int k, _, _, _⟩, .d (.i _ n) => some (arith (wraps T) k n)
    | some ⟨.string, _, _, _⟩, some ⟨.string, _, _, _⟩, .d (.s l) => some (.val (.d (.s l)))
    | some ⟨.slice e, _, _, _⟩, some ⟨.string, _, _, _⟩, .d (.sl sz n f) => match lookT e T with
      | some ⟨.int .u8, _, _, _⟩ => match Nat.beq sz 1 with
        | true => some (.str fun l => l.length = n ∧ ∀ k, k < n → f k = bytesF l k)
        | false => none
      | _ => none
    | some ⟨.slice e, _, _, _⟩, some ⟨.string, _, _, _⟩, .d (.v (.slice none 0 _)) => match lookT e T with
      | some ⟨.int .u8, _, _, _⟩ => some (.val (.d (.s [])))
      | _ => none
    | some ⟨.slice e, _, _, _⟩, some ⟨.string, _, _, _⟩, .rsl id sz o n => match lookT e T with
      | some ⟨.int .u8, _, _, _⟩ => match h id with
        | some (.row _ sz' n' f) => match Nat.beq sz 1 with
          | true => match Nat.beq sz' 1 with
            | true => some (.str fun l => l.length = n ∧ o + n ≤ n' ∧ ∀ k, k < n → f (o + k) = bytesF l k)
            | false => none
          | false => none
        | _ => none
      | _ => none
    | _, _, _ => none
  | .slice t x lo hi none => match lookT t T with
   | some ⟨.array n e, _, _, _⟩ => match lo, hi, lookT e T, opnd g x with
     | none, none, some d, .ptr id 0 => match h id with
       | some (.box cells _) => match unliftF cells with
         | some ds => match Nat.beq ds.length (n * d.size) with
           | true => match Nat.ble n 9223372036854775807 with
             | true => some (.pub id (.d (.sl d.size n fun k => (ds.drop (k * d.size)).take d.size)))
             | false => none
           | false => none
         | none => none
       | _ => none
     | lo, hi, some d, .ptr id 0 => match boundsN n (optI g lo) (optI g hi) with
       | some (A, B) => match h id with
         | some (.box cells _) => match unliftF cells with
           | some ds => match Nat.beq ds.length (n * d.size) with
             | true => match Nat.ble n 9223372036854775807 with
               | true => some (.pub id (.d (.sl d.size (B - A) fun k => (ds.drop ((A + k) * d.size)).take d.size)))
               | false => none
             | false => none
           | none => none
         | _ => none
       | none => none
     | _, _, _, _ => none
   | _ => match optI g lo, optI g hi with
    | some lo, some hi => match lookT t T with
      | some ⟨.string, _, _, _⟩ => match opnd g x with
        | .d (.s l) => aSlice (.d (.s l)) lo hi
        | _ => none
      | some ⟨.slice e, _, _, _⟩ => match lookT e T, opnd g x with
        | some d, .d (.sl sz n f) => match Nat.beq d.size sz with
          | true => aSlice (.d (.sl sz n f)) lo hi
          | false => none
        | some d, .rsl id sz o n => match Nat.beq d.size sz with
          | true => aSlice (.rsl id sz o n) lo hi
          | false => none
        | _, _ => none
      | _ => none
    | _, _ => none
  | .extract x k => match opnd g x with
    | .tup l => match listAt k l with
      | some v => some (.val v)
      | none => none
    | _ => none
  | .makeFunc (.func f) first caps => match first.toList with
    | [] => some (.val (.fn f (caps.toList.map (opnd g))))
    | _ => none
  | .call { callee := .builtin .len, args := as, argTypes := ts } => match as.toList, ts.toList with
    | [x], [t] => match lookT t T with
      | some ⟨.string, _, _, _⟩ => match opnd g x with
        | .d (.s l) => some (.val (.d (.i .i64 l.length)))
        | _ => none
      | some ⟨.slice _, _, _, _⟩ => match opnd g x with
        | .d (.sl _ n _) => some (.val (.d (.i .i64 n)))
        | .rsl _ _ _ n => some (.val (.d (.i .i64 n)))
        | .d (.v (.slice none 0 _)) => some (.val (.d (.i .i64 0)))
        | _ => none
      | some ⟨.map _ _, _, _, _⟩ => match opnd g x with
        | .mref id => match h id with
          | some (.mp l) => some (.val (.d (.i .i64 l.length)))
          | _ => none
        | _ => none
      | _ => none
    | _, _ => none
  | .call { callee := .builtin .cap, args := as, argTypes := ts } => match as.toList, ts.toList with
    | [x], [t] => match lookT t T with
      | some ⟨.slice _, _, _, _⟩ => match opnd g x with
        | .d (.v (.slice none 0 c)) => some (.val (.d (.i .i64 c)))
        | _ => none
      | _ => none
    | _, _ => none
  | .call { callee := .builtin .min, args := as, .. } => match as.toList with
    | [x, y] => match opnd g x, opnd g y with
      | .d (.i k a), .d (.i _ b) => some (.val (.d (.i k (min a b))))
      | _, _ => none
    | _ => none
  | .call { callee := .builtin .max, args := as, .. } => match as.toList with
    | [x, y] => match opnd g x, opnd g y with
      | .d (.i k a), .d (.i _ b) => some (.val (.d (.i k (max a b))))
      | _, _ => none
    | _ => none
  | .call { callee := .builtin .clear, args := as, argTypes := ts } => match as.toList, ts.toList with
    | [x], [t] => match lookT t T with
      | some ⟨.slice e, _, _, _⟩ => match lookT e T, opnd g x with
        | some d, .rsl id sz o n => match h id with
          | some (.row ty sz' n' f) => match Nat.beq sz sz' with
            | true => match Nat.beq d.size sz with
              | true => some (.setc id (.row ty sz' n' (fun k => if o ≤ k ∧ k < o + n then d.zero else f k)) (o + n ≤ n' ∧ 0 < n'))
              | false => none
            | false => none
          | _ => none
        | _, _ => none
      | _ => none
    | _, _ => none
  | .buildSlice t len ps => match lookT t T with
    | some ⟨.slice e, _, _, _⟩ => match lookT e T with
      | some d => match Nat.ble (len + len * d.size) 16777216 with
        | true => match aElems d g ps.toList (replF len d.zero) with
          | none => match tagMem (bxT + e) T.tg with
            | true => match liftF (copyF len d.zero) with
              | some cs => match aElemsA d g ps.toList cs with
                | some l => some (.newv (.box l) (fun id => .rsl id d.size 0 len) none)
                | none => none
              | none => none
            | false => none
          | some l => match tagMem (pbT + e) T.tg with
            | true => some (.newv (.row 0 1 0 fun _ => []) (fun _ => .d (.sl d.size len fun k => l.getD k [])) none)
            | false => some (.mkrow e d.size len (fun k => l.getD k []) none)
        | false => none
      | none => none
    | _ => none
  | .makeMap t none => match tagMem (mpT + t) T.tg with
    | true => some (.newv (.mp []) (fun id => .mref id) none)
    | false => some (.newv (.row 0 1 0 fun _ => []) (fun _ => .d .o) none)
  | .makeMap t (some x) => match lookT t T, opnd g x with
    | some ⟨.map _ _, _, _, _⟩, .d (.i _ _) => match tagMem (mpT + t) T.tg with
      | true => some (.newv (.mp []) (fun id => .mref id) none)
      | false => some (.newv (.row 0 1 0 fun _ => []) (fun _ => .d .o) none)
    | _, _ => none
  | .makeSlice t l c => match lookT t T with
    | some ⟨.slice e, _, _, _⟩ => match tagMem (bxT + e) T.tg with
     | true => match lookT e T, opnd g l, opnd g c with
      | some d, .d (.i _ (.ofNat n)), .d (.i _ (.ofNat m)) => match Nat.beq n m with
        | true => match liftF (copyF n d.zero) with
          | some cells => some (.newv (.box cells) (fun id => .rsl id d.size 0 n) (some (d.bytes * n ≤ 281474976710656 ∧ n ≤ 9223372036854775807)))
          | none => none
        | false => none
      | _, _, _ => none
     | false => match lookT e T, opnd g l, opnd g c with
      | some d, .d (.i _ n), .d (.i _ m) => some (.mkrow e d.size n.toNat (fun _ => d.zero) (some (0 ≤ n ∧ n ≤ m ∧ d.bytes * m ≤ 281474976710656 ∧ m ≤ 9223372036854775807)))
      | _, _, _ => none
    | _ => none
  | .call { callee := .builtin .append, args := as, argTypes := ts } => match as.toList, ts.toList with
    | [s, x], [t, t'] => match Nat.beq t t' with
      | true => match lookT t T with
        | some ⟨.slice e, _, _, _⟩ => match lookT e T with
          | some d => aAppend e d h (opnd g s) (opnd g x)
          | none => none
        | _ => none
      | false => match lookT t T with
        | some ⟨.slice e, _, _, _⟩ => match lookT e T, lookT t' T, opnd g x with
          | some d, some ⟨.string, _, _, _⟩, .d (.s l) => match Nat.beq d.size 1 with
            | true => aAppendX e d h (opnd g s) l.length (bytesF l) none
            | false => none
          | some d, some ⟨.int .i64, _, _, _⟩, .d (.i .i64 n) => aAppendX e d h (opnd g s) n.toNat (fun _ => d.zero) (some (0 ≤ n ∧ n.toNat ≤ 9223372036854775807 ∧ n.toNat * d.bytes ≤ 281474976710656))
          | _, _, _ => none
        | _ => none
    | _, _ => none
  | _ => none
/-- An array of the call's own that is kept as a row: how long it is, and its elements. -/
def arrRow (h : Nat → Option AObj) (id sz : Nat) : Option (Nat × (Nat → List D)) :=
  match h id with
  | some (.row t sz' n f) => match Nat.ble arT t with
    | true => match Nat.beq t (arT + n) with
      | true => match Nat.beq sz sz' with
        | true => some (n, f)
        | false => none
      | false => none
    | false => none
  | _ => none
def flatG (f : Nat → List D) : Nat → Nat → List D
  | 0, _ => []
  | n + 1, k => f k ++ flatG f n (k + 1)
abbrev flatF (n : Nat) (f : Nat → List D) : List D := flatG f n 0
/-- All cells from the pointed place on: of an array that is kept as a row, all of it. -/
def aCellsA (h : Nat → Option AObj) (p : AVal) : Option (List AVal × Option Prop) :=
  match p with
  | .rptr id sz 0 0 => match arrRow h id sz with
    | some (n, f) => some ((flatF n f).map .d, none)
    | none => aCells h (.rptr id sz 0 0)
  | p => aCells h p
/-- What a copy reads. -/
def cpySrc (h : Nat → Option AObj) : AVal → Option (Nat × (Nat → List D) × Prop)
  | .d (.sl sz m f) => match Nat.beq sz 1 with
    | true => some (m, f, True)
    | false => none
  | .rsl id sz o m => match Nat.beq sz 1 with
    | true => match h id with
      | some (.row _ sz' n f) => match Nat.beq sz' 1 with
        | true => some (m, fun k => f (o + k), o + m ≤ n)
        | false => none
      | _ => none
    | false => none
  | _ => none
/-- Operations with arrays that are kept as rows; copies; slices with a bound on their room. -/
def arrOp (T : Tys) (g : Nat → AVal) (h : Nat → Option AObj) (op : Op) : Option Res :=
  match op with
  | .alloc t => match tagMem (arT + t) T.tg with
    | true => match lookT t T with
      | some ⟨.array n e, s, _, z⟩ => match lookT e T with
        | some d => match Nat.beq s (n * d.size) with
          | true => match Nat.ble n 9223372036854775807 with
            | true => some (.newv (.row (arT + n) d.size n (fun k => (z.drop (k * d.size)).take d.size)) (fun id => .rptr id d.size 0 0) none)
            | false => none
          | false => none
        | none => none
      | _ => none
    | false => none
  | .indexAddr t x k => match lookT t T with
    | some ⟨.array n e, _, _, _⟩ => match lookT e T, opnd g x, opnd g k with
      | some d, .rptr id sz j off, .d (.i _ kk) => match arrRow h id sz with
        | some _ => match Nat.beq d.size sz with
          | true => match off with
            | 0 => some (.cond (.rptr id sz (j + kk.toNat) 0) (0 ≤ kk ∧ kk < n))
            | _ + 1 => none
          | false => none
        | none => none
      | _, _, _ => none
    | _ => none
  | .load t x => match lookT t T with
    | some ⟨.array m e, s, _, _⟩ => match opnd g x with
      | .rptr id sz j off => match arrRow h id sz with
        | some (n, f) => match Nat.beq s (n * sz) with
          | true => match j with
            | 0 => match off with
              | 0 => some (.val (.agg ((flatF n f).map .d)))
              | _ + 1 => none
            | _ + 1 => none
          | false => none
        | none => none
      | _ => none
    | _ => none
  | .store t p x => match lookT t T with
    | some ⟨.array m e, s, _, _⟩ => match opnd g p with
      | .rptr id sz j off => match arrRow h id sz with
        | some (n, _) => match Nat.beq s (n * sz) with
          | true => match j with
            | 0 => match off with
              | 0 => match opnd g x with
                | .agg l => match unliftF l with
                  | some ds => match Nat.beq ds.length s with
                    | true => some (.set id (.row (arT + n) sz n (fun k => (ds.drop (k * sz)).take sz)))
                    | false => none
                  | none => none
                | _ => none
              | _ + 1 => none
            | _ + 1 => none
          | false => none
        | none => none
      | _ => none
    | _ => none
  | .index t x k => match lookT t T with
    | some ⟨.array n e, _, _, _⟩ => match lookT e T, opnd g x, opnd g k with
      | some d, .agg l, .d (.i _ kk) => match isStr d.kind with
        | false => match Nat.beq d.size 1 with
          | true => match listAt kk.toNat l with
            | some v => some (.cond v (0 ≤ kk ∧ kk < n))
            | none => none
          | false => none
        | true => none
      | _, _, _ => none
    | _ => none
  | .slice t x lo hi none => match lookT t T with
    | some ⟨.array n e, _, _, _⟩ => match lookT e T, opnd g x with
      | some d, .rptr id sz j off => match arrRow h id sz with
        | some (n', _) => match Nat.beq n n' with
          | true => match Nat.beq d.size sz with
            | true => match j with
              | 0 => match off with
                | 0 => match optI g lo, optI g hi with
                  | some lo, some hi => aSlice (.rsl id sz 0 n) lo hi
                  | _, _ => none
                | _ + 1 => none
              | _ + 1 => none
            | false => none
          | false => none
        | none => none
      | _, _ => none
    | _ => none
  | .slice t x lo (some hi) (some mx) => match lookT t T with
    | some ⟨.slice e, _, _, _⟩ => match lookT e T, opnd g x, opnd g hi, opnd g mx, optI g lo with
      | some d, .d (.sl sz n f), .d (.i _ b), .d (.i _ m), some lo => match Nat.beq d.size sz with
        | true => match lo with
          | none => some (.cond (.d (.sl sz b.toNat f)) (0 ≤ b ∧ b ≤ m ∧ m ≤ n))
          | some a => some (.cond (.d (.sl sz (b.toNat - a.toNat) fun k => f (a.toNat + k))) (0 ≤ a ∧ a ≤ b ∧ b ≤ m ∧ m ≤ n))
        | false => none
      | _, _, _, _, _ => none
    | _ => none
  | .call { callee := .builtin .copy, args := as, argTypes := ts } => match as.toList, ts.toList with
    | [p, x], [t, _] => match lookT t T with
      | some ⟨.slice e, _, _, _⟩ => match lookT e T with
        | some d => match Nat.beq d.size 1 with
          | true => match opnd g p with
            | .rsl id sz o n => match h id with
              | some (.row ty sz' n' f) => match Nat.beq sz 1 with
                | true => match Nat.beq sz' 1 with
                  | true => match Nat.beq ty markT with
                    | true => none
                    | false => match cpySrc h (opnd g x) with
                      | some (m, f2, c) => some (.setc id (.row ty 1 n' (fun k => if o ≤ k ∧ k < o + min m n then f2 (k - o) else f k)) (c ∧ 0 < m ∧ 0 < n ∧ o + n ≤ n'))
                      | none => none
                  | false => none
                | false => none
              | _ => none
            | _ => none
          | false => none
        | none => none
      | _ => none
    | _, _ => none
  | _ => none
/-- Rows of such elements may hold objects of the call's own, and grow. -/
abbrev vrT : Nat := 6000000000
/-- Maps of this type hold data alone. -/
abbrev dmT : Nat := 7000000000
def aMapD (T : Tys) (h : Nat → Option AObj) (t : TypeId) (m k : AVal) : Option (Nat × TypeId × D × List (D × D)) :=
  match lookT t T with
  | some ⟨.map kt et, _, _, _⟩ => match lookT kt T with
    | some dk => match m with
      | .mref id => match h id with
        | some (.dmp l) => match k with
          | .d k => match keyK dk.kind k with
            | true => some (id, et, k, l)
            | false => none
          | _ => none
        | _ => none
      | _ => none
    | none => none
  | _ => none
/-- What is put behind such a row. -/
def vSrc (h : Nat → Option AObj) : AVal → Option (List AVal)
  | .rsl id sz o m => match Nat.beq sz 1 with
    | true => match o with
      | 0 => match h id with
        | some (.box cells _) => match Nat.beq cells.length m with
          | true => some cells
          | false => none
        | some (.vrow _ cells) => match Nat.beq cells.length m with
          | true => some cells
          | false => none
        | _ => none
      | _ + 1 => none
    | false => none
  | .d (.v (.slice none 0 _)) => some []
  | _ => none
/-- Operations with rows that may hold objects, and with maps of data. -/
def newOp (T : Tys) (g : Nat → AVal) (h : Nat → Option AObj) (op : Op) : Option Res :=
  match op with
  | .load t x => match opnd g x with
    | .rptr id sz k off => match h id with
      | some (.vrow _ cells) => match lookT t T with
        | some d => match aPart d (dropF (k * sz + off) cells) with
          | some v => some (.val v)
          | none => none
        | none => none
      | _ => none
    | _ => none
  | .store t p x => match opnd g p with
    | .rptr id sz k off => match h id with
      | some (.vrow t' cells) => match lookT t T with
        | some d => match aStored d (opnd g x) with
          | some vs => match Nat.beq vs.length d.size with
            | true => match overF cells (k * sz + off) vs with
              | some l => some (.set id (.vrow t' l))
              | none => none
            | false => none
          | none => none
        | none => none
      | _ => none
    | _ => none
  | .lookup t m k ok => match aMapD T h t (opnd g m) (opnd g k) with
    | some (_, et, k, l) => match lookT et T with
      | some d => match isStr d.kind with
        | false => match d.zero with
          | [z] => some (.mget k l z ok)
          | _ => none
        | true => none
      | none => none
    | none => none
  | .mapUpdate t m k x => match aMapD T h t (opnd g m) (opnd g k) with
    | some (id, _, k, l) => match opnd g x with
      | .d x => some (.mput id k x l)
      | _ => none
    | none => none
  | .insert t m k x => match aMapD T h t (opnd g m) (opnd g k) with
    | some (id, _, k, l) => match opnd g x with
      | .d x => some (.mput id k x l)
      | _ => none
    | none => none
  | .makeMap t none => match tagMem (dmT + t) T.tg with
    | true => some (.newv (.dmp []) (fun id => .mref id) none)
    | false => none
  | .makeMap t (some x) => match lookT t T, opnd g x with
    | some ⟨.map _ _, _, _, _⟩, .d (.i _ _) => match tagMem (dmT + t) T.tg with
      | true => some (.newv (.dmp []) (fun id => .mref id) none)
      | false => none
    | _, _ => none
  | .call { callee := .builtin .delete, args := as, argTypes := ts } => match as.toList, ts.toList with
    | [m, k], [t, _] => match aMapD T h t (opnd g m) (opnd g k) with
      | some (id, _, k, l) => some (.mdel id k l)
      | none => none
    | _, _ => none
  | .call { callee := .builtin .len, args := as, argTypes := ts } => match as.toList, ts.toList with
    | [x], [t] => match lookT t T with
      | some ⟨.map _ _, _, _, _⟩ => match opnd g x with
        | .mref id => match h id with
          | some (.dmp l) => some (.val (.d (.i .i64 l.length)))
          | _ => none
        | _ => none
      | _ => none
    | _, _ => none
  | .call { callee := .builtin .append, args := as, argTypes := ts } => match as.toList, ts.toList with
    | [s, x], [t, t'] => match Nat.beq t t' with
      | true => match lookT t T with
        | some ⟨.slice e, _, _, _⟩ => match tagMem (vrT + e) T.tg with
          | true => match lookT e T with
            | some d => match Nat.beq d.size 1 with
              | true => match vSrc h (opnd g x) with
                | some new => match opnd g s with
                  | .d (.v (.slice none 0 0)) => some (.mkv e new (new.length ≤ 9223372036854775807 ∧ new.length * d.bytes ≤ 140737488355328))
                  | .rsl id sz o n => match o with
                    | 0 => match h id with
                      | some (.vrow e' old) => match eqT e' e with
                        | true => match Nat.beq sz 1 with
                          | true => match Nat.beq n old.length with
                            | true => some (.appv id e (old ++ new) (old.length + new.length ≤ 9223372036854775807 ∧ (old.length + new.length) * d.bytes ≤ 140737488355328))
                            | false => none
                          | false => none
                        | false => none
                      | _ => none
                    | _ + 1 => none
                  | _ => none
                | none => none
              | false => none
            | none => none
          | false => none
        | _ => none
      | false => none
    | _, _ => none
  | _ => none
def aop (T : Tys) (g : Nat → AVal) (h : Nat → Option AObj) (op : Op) : Option Res :=
  match newOp T g h op with
  | some r => some r
  | none => match arrOp T g h op with
    | some r => some r
    | none => aop0 T g h op
end Towline
