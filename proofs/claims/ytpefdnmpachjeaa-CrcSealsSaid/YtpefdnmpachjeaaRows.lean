/-
  No cell of these rows narrows 'for every input' (looked for: loops, veiled, ifaces, maps, wideKeys, modest, calm, conditions, laid).
  DERIVED. THE GIVEN ROWS OF THIS SEAT. 6 by the template 'for every input the law returns true; each argument reads behind the call as it read before'; 0 by the template 'total and deterministic' (their statements: YtpefdnmpachjeaaTotals.lean).
  GIVEN WITH THE SEED: the statements are not yours to turn. If you find one false, say at which input.
  Laid BY PROGRAM, IN A SANDBOX (cutbox-rows.mjs): the forced cells as the released guide's own fill.sh prints them over the translation cb5c1a5087119c88… (all of the seat's roots in one cut). By AI agents, Wed Nov 11 2026. No macro, syntax, notation, axiom, sorry.
-/
import Derived.Test.YtpefdnmpachjeaaChecked
import GoSem.Claim
import GoSem.ClaimJoined
import GoSem.ClaimMapViews
import Derived.JoinedTies
import Derived.KernelRfl
namespace Go.Proofs.Ytpefdnmpachjeaa
/- THE CELL 'sum', in the pinned program and in every row, IS THE sha256 OF THE DUMP (.gsa) THAT YtpefdnmpachjeaaProg.lean LOADS. Nothing in Lean hashes anything: it is a label: what it is worth is what the hold of that sum in a sandbox is worth. -/
noncomputable def Try.pinned : Pinned := { name := "ytpefdnmpachjeaa", sum := "cb5c1a5087119c88007480318f4b013de43170fdfbccc7f3b32e6c4f7f7aeb79", checked := Try.checked }
namespace Rows
def none {H : Type} : Left H := { results := [], args := [] }

/-- 'towlinelaw2.CrcSums': WHATEVER THE INPUT: true; the input reads as it did. -/
def crcSumsSpec : ChangeSpec := { name := "crcSums", fn := fun _ => fun
  | [d1, d2] => { results := [.lit (.bool true)], args := [d1, d2] }
  | _ => none }
def crcSumsRow : OpenClaim := { program := "ytpefdnmpachjeaa", sum := "cb5c1a5087119c88007480318f4b013de43170fdfbccc7f3b32e6c4f7f7aeb79", func := "towline/towlinelaw2.CrcSums", spec := "crcSums", apart := false }
def CrcSumsSaid : Prop := crcSumsRow.holds Try.pinned (OpenSpec.ofChange crcSumsSpec)

/-- ITS FALSE NEIGHBOUR: 'it returns false'. Refute it at one input. -/
def crcSumsWrong : ChangeSpec := { name := "crcSums", fn := fun _ => fun
  | [d1, d2] => { results := [.lit (.bool false)], args := [d1, d2] }
  | _ => none }
def CrcSumsWrongFalsely : Prop := crcSumsRow.holds Try.pinned (OpenSpec.ofChange crcSumsWrong)

/-- 'towlinelaw2.CrcSeals': WHATEVER THE INPUT: true; the input reads as it did. -/
def crcSealsSpec : ChangeSpec := { name := "crcSeals", fn := fun _ => fun
  | [d] => { results := [.lit (.bool true)], args := [d] }
  | _ => none }
def crcSealsRow : OpenClaim := { program := "ytpefdnmpachjeaa", sum := "cb5c1a5087119c88007480318f4b013de43170fdfbccc7f3b32e6c4f7f7aeb79", func := "towline/towlinelaw2.CrcSeals", spec := "crcSeals", apart := false }
def CrcSealsSaid : Prop := crcSealsRow.holds Try.pinned (OpenSpec.ofChange crcSealsSpec)

/-- ITS FALSE NEIGHBOUR: 'it returns false'. Refute it at one input. -/
def crcSealsWrong : ChangeSpec := { name := "crcSeals", fn := fun _ => fun
  | [d] => { results := [.lit (.bool false)], args := [d] }
  | _ => none }
def CrcSealsWrongFalsely : Prop := crcSealsRow.holds Try.pinned (OpenSpec.ofChange crcSealsWrong)

/-- 'towlinelaw2.CrcJoins': WHATEVER THE INPUT: true; the input reads as it did. -/
def crcJoinsSpec : ChangeSpec := { name := "crcJoins", fn := fun _ => fun
  | [d1, d2, d3, d4] => { results := [.lit (.bool true)], args := [d1, d2, d3, d4] }
  | _ => none }
def crcJoinsRow : OpenClaim := { program := "ytpefdnmpachjeaa", sum := "cb5c1a5087119c88007480318f4b013de43170fdfbccc7f3b32e6c4f7f7aeb79", func := "towline/towlinelaw2.CrcJoins", spec := "crcJoins", apart := false }
def CrcJoinsSaid : Prop := crcJoinsRow.holds Try.pinned (OpenSpec.ofChange crcJoinsSpec)

/-- ITS FALSE NEIGHBOUR: 'it returns false'. Refute it at one input. -/
def crcJoinsWrong : ChangeSpec := { name := "crcJoins", fn := fun _ => fun
  | [d1, d2, d3, d4] => { results := [.lit (.bool false)], args := [d1, d2, d3, d4] }
  | _ => none }
def CrcJoinsWrongFalsely : Prop := crcJoinsRow.holds Try.pinned (OpenSpec.ofChange crcJoinsWrong)

/-- 'towlinelaw2.CrcTurns': WHATEVER THE INPUT: true; the input reads as it did. -/
def crcTurnsSpec : ChangeSpec := { name := "crcTurns", fn := fun _ => fun
  | [d1, d2, d3] => { results := [.lit (.bool true)], args := [d1, d2, d3] }
  | _ => none }
def crcTurnsRow : OpenClaim := { program := "ytpefdnmpachjeaa", sum := "cb5c1a5087119c88007480318f4b013de43170fdfbccc7f3b32e6c4f7f7aeb79", func := "towline/towlinelaw2.CrcTurns", spec := "crcTurns", apart := false }
def CrcTurnsSaid : Prop := crcTurnsRow.holds Try.pinned (OpenSpec.ofChange crcTurnsSpec)

/-- ITS FALSE NEIGHBOUR: 'it returns false'. Refute it at one input. -/
def crcTurnsWrong : ChangeSpec := { name := "crcTurns", fn := fun _ => fun
  | [d1, d2, d3] => { results := [.lit (.bool false)], args := [d1, d2, d3] }
  | _ => none }
def CrcTurnsWrongFalsely : Prop := crcTurnsRow.holds Try.pinned (OpenSpec.ofChange crcTurnsWrong)

/-- 'towlinelaw2.CrcOne': WHATEVER THE INPUT: true; the input reads as it did. -/
def crcOneSpec : ChangeSpec := { name := "crcOne", fn := fun _ => fun
  | [d1, d2, d3, d4] => { results := [.lit (.bool true)], args := [d1, d2, d3, d4] }
  | _ => none }
def crcOneRow : OpenClaim := { program := "ytpefdnmpachjeaa", sum := "cb5c1a5087119c88007480318f4b013de43170fdfbccc7f3b32e6c4f7f7aeb79", func := "towline/towlinelaw2.CrcOne", spec := "crcOne", apart := false }
def CrcOneSaid : Prop := crcOneRow.holds Try.pinned (OpenSpec.ofChange crcOneSpec)

/-- ITS FALSE NEIGHBOUR: 'it returns false'. Refute it at one input. -/
def crcOneWrong : ChangeSpec := { name := "crcOne", fn := fun _ => fun
  | [d1, d2, d3, d4] => { results := [.lit (.bool false)], args := [d1, d2, d3, d4] }
  | _ => none }
def CrcOneWrongFalsely : Prop := crcOneRow.holds Try.pinned (OpenSpec.ofChange crcOneWrong)

/-- 'towlinelaw2.CrcHeads': WHATEVER THE INPUT: true; the input reads as it did. -/
def crcHeadsSpec : ChangeSpec := { name := "crcHeads", fn := fun _ => fun
  | [d1, d2] => { results := [.lit (.bool true)], args := [d1, d2] }
  | _ => none }
def crcHeadsRow : OpenClaim := { program := "ytpefdnmpachjeaa", sum := "cb5c1a5087119c88007480318f4b013de43170fdfbccc7f3b32e6c4f7f7aeb79", func := "towline/towlinelaw2.CrcHeads", spec := "crcHeads", apart := false }
def CrcHeadsSaid : Prop := crcHeadsRow.holds Try.pinned (OpenSpec.ofChange crcHeadsSpec)

/-- ITS FALSE NEIGHBOUR: 'it returns false'. Refute it at one input. -/
def crcHeadsWrong : ChangeSpec := { name := "crcHeads", fn := fun _ => fun
  | [d1, d2] => { results := [.lit (.bool false)], args := [d1, d2] }
  | _ => none }
def CrcHeadsWrongFalsely : Prop := crcHeadsRow.holds Try.pinned (OpenSpec.ofChange crcHeadsWrong)

/- THE SECOND FORM. 'bulk': how many values and letters a reading holds, each counted each time it is reached (what is shared counts as often as it is met; a slice's spare places count too). A statement '..UptoSaid' is the law's where the arguments, and the package variables that the reading takes, are together of bulk at most 1048576: NARROWER than '..Said'. Prove '..Said' where nothing that the law and all that it calls make is longer than what came in: it says more and counts as full. Else prove '..UptoSaid'. A law counts once. -/
mutual
def uptoBulk {H : Type} : DataW H → Nat
  | .lit (.string bytes) => bytes.length + 1
  | .lit _ => 1
  | .nil => 1
  | .ptr d => uptoBulk d + 1
  | .slice elems spare => uptoBulkAll elems + uptoBulkAll spare + 1
  | .agg parts => uptoBulkAll parts + 1
  | .iface _ d => uptoBulk d + 1
  | .map entries => uptoBulkEntries entries + 1
  | .held _ => 1
def uptoBulkAll {H : Type} : List (DataW H) → Nat
  | [] => 0
  | d :: r => uptoBulk d + uptoBulkAll r
def uptoBulkEntries {H : Type} : List (Lit × DataW H) → Nat
  | [] => 0
  | x :: r => uptoBulkEntry x + uptoBulkEntries r
def uptoBulkEntry {H : Type} : Lit × DataW H → Nat
  | (.string bytes, d) => bytes.length + uptoBulk d + 1
  | (_, d) => uptoBulk d + 1
 end
def uptoSmall : (H : Type) → List (DataW H) → Bool := fun _ ds => decide (uptoBulkAll ds ≤ 1048576)
def OpenSpec.upto (s : _root_.Go.ChangeSpec) : _root_.Go.OpenSpec := { _root_.Go.OpenSpec.ofChange s with cond := some uptoSmall }

/-- 'towlinelaw2.CrcSums', WHERE WHAT IT READS IS OF BULK AT MOST 1048576: true; the input reads as it did. -/
def crcSumsUptoRow : OpenClaim := { program := "ytpefdnmpachjeaa", sum := "cb5c1a5087119c88007480318f4b013de43170fdfbccc7f3b32e6c4f7f7aeb79", func := "towline/towlinelaw2.CrcSums", spec := "crcSums", apart := false, narrowed := true }
def CrcSumsUptoSaid : Prop := crcSumsUptoRow.holds Try.pinned (OpenSpec.upto crcSumsSpec)

/-- 'towlinelaw2.CrcSeals', WHERE WHAT IT READS IS OF BULK AT MOST 1048576: true; the input reads as it did. -/
def crcSealsUptoRow : OpenClaim := { program := "ytpefdnmpachjeaa", sum := "cb5c1a5087119c88007480318f4b013de43170fdfbccc7f3b32e6c4f7f7aeb79", func := "towline/towlinelaw2.CrcSeals", spec := "crcSeals", apart := false, narrowed := true }
def CrcSealsUptoSaid : Prop := crcSealsUptoRow.holds Try.pinned (OpenSpec.upto crcSealsSpec)

/-- 'towlinelaw2.CrcJoins', WHERE WHAT IT READS IS OF BULK AT MOST 1048576: true; the input reads as it did. -/
def crcJoinsUptoRow : OpenClaim := { program := "ytpefdnmpachjeaa", sum := "cb5c1a5087119c88007480318f4b013de43170fdfbccc7f3b32e6c4f7f7aeb79", func := "towline/towlinelaw2.CrcJoins", spec := "crcJoins", apart := false, narrowed := true }
def CrcJoinsUptoSaid : Prop := crcJoinsUptoRow.holds Try.pinned (OpenSpec.upto crcJoinsSpec)

/-- 'towlinelaw2.CrcTurns', WHERE WHAT IT READS IS OF BULK AT MOST 1048576: true; the input reads as it did. -/
def crcTurnsUptoRow : OpenClaim := { program := "ytpefdnmpachjeaa", sum := "cb5c1a5087119c88007480318f4b013de43170fdfbccc7f3b32e6c4f7f7aeb79", func := "towline/towlinelaw2.CrcTurns", spec := "crcTurns", apart := false, narrowed := true }
def CrcTurnsUptoSaid : Prop := crcTurnsUptoRow.holds Try.pinned (OpenSpec.upto crcTurnsSpec)

/-- 'towlinelaw2.CrcOne', WHERE WHAT IT READS IS OF BULK AT MOST 1048576: true; the input reads as it did. -/
def crcOneUptoRow : OpenClaim := { program := "ytpefdnmpachjeaa", sum := "cb5c1a5087119c88007480318f4b013de43170fdfbccc7f3b32e6c4f7f7aeb79", func := "towline/towlinelaw2.CrcOne", spec := "crcOne", apart := false, narrowed := true }
def CrcOneUptoSaid : Prop := crcOneUptoRow.holds Try.pinned (OpenSpec.upto crcOneSpec)

/-- 'towlinelaw2.CrcHeads', WHERE WHAT IT READS IS OF BULK AT MOST 1048576: true; the input reads as it did. -/
def crcHeadsUptoRow : OpenClaim := { program := "ytpefdnmpachjeaa", sum := "cb5c1a5087119c88007480318f4b013de43170fdfbccc7f3b32e6c4f7f7aeb79", func := "towline/towlinelaw2.CrcHeads", spec := "crcHeads", apart := false, narrowed := true }
def CrcHeadsUptoSaid : Prop := crcHeadsUptoRow.holds Try.pinned (OpenSpec.upto crcHeadsSpec)

end Rows
end Go.Proofs.Ytpefdnmpachjeaa
