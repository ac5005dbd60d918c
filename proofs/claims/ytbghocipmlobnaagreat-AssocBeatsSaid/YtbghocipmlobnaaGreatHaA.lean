/- Chapter 18: associations and chunks as plain data; the small functions. -/
import Derived.Test.YtbghocipmlobnaaGreatChD
import Derived.Test.YtbghocipmlobnaaGreatTys
namespace Towline.Hand
structure H where
  st : Int
  tries : Int
  due : Int
  ourTag : Int
  peerTag : Int
  ourTsn : Int
  peerTsn : Int
  mine : Int
  window : Int
  outs : Int
  ins : Int
  cookie : List UInt8
  deriving DecidableEq, Inhabited
/-- A chunk without gaps, doubles and items. -/
structure K where
  ty : Int
  flags : Int
  tsn : Int
  tag : Int
  window : Int
  ppid : Int
  stream : Int
  ssn : Int
  outs : Int
  ins : Int
  text : List UInt8
  deriving DecidableEq, Inhabited
/-- A cookie's state. -/
structure S where
  ourTag : Int
  peerTag : Int
  ourTsn : Int
  peerTsn : Int
  tieOurs : Int
  tiePeer : Int
  window : Int
  outs : Int
  ins : Int
  ourPort : Int
  peerPort : Int
  peer : List UInt8
  made : Int
  life : Int
def K.of (ty : Int) : K := ⟨ty, 0, 0, 0, 0, 0, 0, 0, 0, 0, []⟩
def H.nil : H := ⟨0, 0, 0, 0, 0, 0, 0, 0, 0, 0, 0, []⟩
def accepted (s : S) (mine : Int) : H := ⟨3, 0, 0, s.ourTag, s.peerTag, s.ourTsn, s.peerTsn, mine, s.window, s.outs, s.ins, []⟩
def caseOf (h : H) (s : S) : Int :=
  if s.ourTag = h.ourTag ∧ s.peerTag = h.peerTag then 4 else if s.ourTag = h.ourTag then 2 else if s.peerTag = h.peerTag ∧ s.tieOurs = 0 ∧ s.tiePeer = 0 then 3 else if ¬ s.peerTag = h.peerTag ∧ s.tieOurs = h.ourTag ∧ s.tiePeer = h.peerTag then 1 else 0
end Towline.Hand
namespace Go.Proofs.YtbghocipmlobnaaGreat
open Go Towline Towline.Hand
set_option linter.unusedVariables false
set_option maxRecDepth 20000
set_option maxHeartbeats 2000000
theorem follows : Tryz.prog.follows .mixedOrders = true := by kernel_rfl
abbrev vi (n : Int) : AVal := .d (.i .i64 n)
abbrev v32 (n : Int) : AVal := .d (.i .u32 n)
abbrev v16 (n : Int) : AVal := .d (.i .u16 n)
abbrev vb (b : Bool) : AVal := .d (.b b)
abbrev vs (l : List UInt8) : AVal := .d (.s l)
abbrev nilD : D := .v (.slice none 0 0)
abbrev hA (h : H) : AVal := .agg [vi h.st, vi h.tries, vi h.due, v32 h.ourTag, v32 h.peerTag, v32 h.ourTsn, v32 h.peerTsn, v32 h.mine, v32 h.window, v16 h.outs, v16 h.ins, vs h.cookie]
def encK (c : K) : List D := [.i .i64 c.ty, .i .i64 c.flags, .i .u32 c.tsn, .i .u32 c.tag, .i .u32 c.window, .i .u32 c.ppid, .i .u16 c.stream, .i .u16 c.ssn, .i .u16 c.outs, .i .u16 c.ins, nilD, nilD, nilD, .s c.text]
abbrev kL (c : K) : List AVal := [vi c.ty, vi c.flags, v32 c.tsn, v32 c.tag, v32 c.window, v32 c.ppid, v16 c.stream, v16 c.ssn, v16 c.outs, v16 c.ins, .d nilD, .d nilD, .d nilD, vs c.text]
abbrev kA (c : K) : AVal := .agg (kL c)
abbrev ksA (l : List K) : AVal := .d (slT 14 encK l)
abbrev sA (s : S) : AVal := .agg [v32 s.ourTag, v32 s.peerTag, v32 s.ourTsn, v32 s.peerTsn, v32 s.tieOurs, v32 s.tiePeer, v32 s.window, v16 s.outs, v16 s.ins, v16 s.ourPort, v16 s.peerPort, vs s.peer, vi s.made, vi s.life]
theorem accept_spec (s : S) (m : Int) : PSpec Tryz.prog 42 [sA s, v32 m] (· = .tup [hA (accepted s m), ksA [K.of 11]]) := by
  refine PSpec.run tysOk follows Tryz.func42 (by decide) rfl Tryz.ntmps42 (Nat.le_of_ble_eq_true rfl) rfl fun w0 R0 hGw => ?_
  conv => whnf
  refine ⟨by omega, ?_⟩
  conv => whnf
  refine ⟨_, ?_, rfl, rfl⟩
  exact .tup ⟨.refl _, .sl rfl (fun j hj => by match j, hj with | 0, _ => rfl), trivial⟩
theorem or_zero {a b : Int} (ha : 0 ≤ a ∧ a < 4294967296) (hb : 0 ≤ b ∧ b < 4294967296) : (bitsOp .or .u32 a b == 0) = (decide (a = 0) && decide (b = 0)) := by
  obtain ⟨a, rfl⟩ := Int.eq_ofNat_of_zero_le ha.1
  obtain ⟨b, rfl⟩ := Int.eq_ofNat_of_zero_le hb.1
  have ea : (BitVec.ofInt 32 (a : Int)).toNat = a := by simp; omega
  have eb : (BitVec.ofInt 32 (b : Int)).toNat = b := by simp; omega
  have hlt : a ||| b < 2 ^ 32 := Nat.or_lt_two_pow (by omega) (by omega)
  have key : (BitVec.ofInt 32 (a : Int) ||| BitVec.ofInt 32 (b : Int)).toNat = a ||| b := by rw [BitVec.toNat_or, ea, eb]
  have e : bitsOp .or .u32 a b = ((a ||| b : Nat) : Int) := by
    show IntKind.u32.wrap (((BitVec.ofInt 32 (a : Int) ||| BitVec.ofInt 32 (b : Int)).toNat : Nat) : Int) = _
    rw [key]
    simp [IntKind.wrap, IntKind.bits, IntKind.signed]
    omega
  rw [e, Bool.eq_iff_iff]
  simp only [beq_iff_eq, Bool.and_eq_true, decide_eq_true_eq]
  constructor
  · intro h
    have h : a ||| b = 0 := by omega
    have := Nat.or_eq_zero_iff.1 h
    omega
  · rintro ⟨h1, h2⟩
    have h1 : a = 0 := by omega
    have h2 : b = 0 := by omega
    subst h1 h2; rfl
end Go.Proofs.YtbghocipmlobnaaGreat
