/-
  No cell of these rows narrows 'for every input' (looked for: loops, veiled, ifaces, maps, wideKeys, modest, calm, conditions, laid).
  DERIVED. THE GIVEN ROWS OF THIS SEAT. 5 by the template 'for every input the law returns true; each argument reads behind the call as it read before'; 0 by the template 'total and deterministic' (their statements: YtbkcekmahdbgdaaGreatTotals.lean).
  GIVEN WITH THE SEED: the statements are not yours to turn. If you find one false, say at which input.
  Laid BY PROGRAM, IN A SANDBOX (cutbox-rows.mjs): the forced cells as the released guide's own fill.sh prints them over the translation 08554e5d8959ac3b… (all of the seat's roots in one cut). By AI agents, Wed Nov 11 2026. No macro, syntax, notation, axiom, sorry.
-/
import Derived.Test.YtbkcekmahdbgdaaGreatChecked
import GoSem.Claim
import GoSem.ClaimJoined
import GoSem.ClaimMapViews
import Derived.JoinedTies
import Derived.KernelRfl
namespace Go.Proofs.YtbkcekmahdbgdaaGreat
/- THE CELL 'sum', in the pinned program and in every row, IS THE sha256 OF THE DUMP (.gsa) THAT YtbkcekmahdbgdaaGreatProg.lean LOADS. Nothing in Lean hashes anything: it is a label: what it is worth is what the hold of that sum in a sandbox is worth. -/
noncomputable def Tryz.pinned : Pinned := { name := "ytbkcekmahdbgdaagreat", sum := "08554e5d8959ac3b05cbcf61d335798700438fc00182ac51c36be7446373981d", checked := Tryz.checked }
namespace Rows
def none {H : Type} : Left H := { results := [], args := [] }

/-- 'towlinelaw19.AssocStreams': WHATEVER THE INPUT: true; the input reads as it did. -/
def assocStreamsSpec : ChangeSpec := { name := "assocStreams", fn := fun _ => fun
  | [d1, d2, d3] => { results := [.lit (.bool true)], args := [d1, d2, d3] }
  | _ => none }
def assocStreamsRow : OpenClaim := { program := "ytbkcekmahdbgdaagreat", sum := "08554e5d8959ac3b05cbcf61d335798700438fc00182ac51c36be7446373981d", func := "towline/towlinelaw19.AssocStreams", spec := "assocStreams", inPlace := ["internal/abi.NoEscape", "internal/bytealg.MakeNoZero", "slices.overlaps[uint32]"], unfollowed := true, recurses := true, apart := false }
def AssocStreamsSaid : Prop := assocStreamsRow.holds Tryz.pinned (OpenSpec.ofChange assocStreamsSpec)

/-- ITS FALSE NEIGHBOUR: 'it returns false'. Refute it at one input. -/
def assocStreamsWrong : ChangeSpec := { name := "assocStreams", fn := fun _ => fun
  | [d1, d2, d3] => { results := [.lit (.bool false)], args := [d1, d2, d3] }
  | _ => none }
def AssocStreamsWrongFalsely : Prop := assocStreamsRow.holds Tryz.pinned (OpenSpec.ofChange assocStreamsWrong)

/-- 'towlinelaw19.AssocPrefix': WHATEVER THE INPUT: true; the input reads as it did. -/
def assocPrefixSpec : ChangeSpec := { name := "assocPrefix", fn := fun _ => fun
  | [d] => { results := [.lit (.bool true)], args := [d] }
  | _ => none }
def assocPrefixRow : OpenClaim := { program := "ytbkcekmahdbgdaagreat", sum := "08554e5d8959ac3b05cbcf61d335798700438fc00182ac51c36be7446373981d", func := "towline/towlinelaw19.AssocPrefix", spec := "assocPrefix", inPlace := ["internal/abi.NoEscape", "internal/bytealg.MakeNoZero", "slices.overlaps[uint32]"], unfollowed := true, recurses := true, apart := false }
def AssocPrefixSaid : Prop := assocPrefixRow.holds Tryz.pinned (OpenSpec.ofChange assocPrefixSpec)

/-- ITS FALSE NEIGHBOUR: 'it returns false'. Refute it at one input. -/
def assocPrefixWrong : ChangeSpec := { name := "assocPrefix", fn := fun _ => fun
  | [d] => { results := [.lit (.bool false)], args := [d] }
  | _ => none }
def AssocPrefixWrongFalsely : Prop := assocPrefixRow.holds Tryz.pinned (OpenSpec.ofChange assocPrefixWrong)

/-- 'towlinelaw19.AssocNotes': WHATEVER THE INPUT: true; the input reads as it did. -/
def assocNotesSpec : ChangeSpec := { name := "assocNotes", fn := fun _ => fun
  | [d1, d2] => { results := [.lit (.bool true)], args := [d1, d2] }
  | _ => none }
def assocNotesRow : OpenClaim := { program := "ytbkcekmahdbgdaagreat", sum := "08554e5d8959ac3b05cbcf61d335798700438fc00182ac51c36be7446373981d", func := "towline/towlinelaw19.AssocNotes", spec := "assocNotes", inPlace := ["internal/abi.NoEscape", "internal/bytealg.MakeNoZero", "slices.overlaps[uint32]"], unfollowed := true, recurses := true, apart := false }
def AssocNotesSaid : Prop := assocNotesRow.holds Tryz.pinned (OpenSpec.ofChange assocNotesSpec)

/-- ITS FALSE NEIGHBOUR: 'it returns false'. Refute it at one input. -/
def assocNotesWrong : ChangeSpec := { name := "assocNotes", fn := fun _ => fun
  | [d1, d2] => { results := [.lit (.bool false)], args := [d1, d2] }
  | _ => none }
def AssocNotesWrongFalsely : Prop := assocNotesRow.holds Tryz.pinned (OpenSpec.ofChange assocNotesWrong)

/-- 'towlinelaw19.AssocHolds': WHATEVER THE INPUT: true; the input reads as it did. -/
def assocHoldsSpec : ChangeSpec := { name := "assocHolds", fn := fun _ => fun
  | [d] => { results := [.lit (.bool true)], args := [d] }
  | _ => none }
def assocHoldsRow : OpenClaim := { program := "ytbkcekmahdbgdaagreat", sum := "08554e5d8959ac3b05cbcf61d335798700438fc00182ac51c36be7446373981d", func := "towline/towlinelaw19.AssocHolds", spec := "assocHolds", inPlace := ["internal/abi.NoEscape", "internal/bytealg.MakeNoZero", "slices.overlaps[uint32]"], unfollowed := true, recurses := true, apart := false }
def AssocHoldsSaid : Prop := assocHoldsRow.holds Tryz.pinned (OpenSpec.ofChange assocHoldsSpec)

/-- ITS FALSE NEIGHBOUR: 'it returns false'. Refute it at one input. -/
def assocHoldsWrong : ChangeSpec := { name := "assocHolds", fn := fun _ => fun
  | [d] => { results := [.lit (.bool false)], args := [d] }
  | _ => none }
def AssocHoldsWrongFalsely : Prop := assocHoldsRow.holds Tryz.pinned (OpenSpec.ofChange assocHoldsWrong)

/-- 'towlinelaw19.AssocWaits': WHATEVER THE INPUT: true; the input reads as it did. -/
def assocWaitsSpec : ChangeSpec := { name := "assocWaits", fn := fun _ => fun
  | [d1, d2] => { results := [.lit (.bool true)], args := [d1, d2] }
  | _ => none }
def assocWaitsRow : OpenClaim := { program := "ytbkcekmahdbgdaagreat", sum := "08554e5d8959ac3b05cbcf61d335798700438fc00182ac51c36be7446373981d", func := "towline/towlinelaw19.AssocWaits", spec := "assocWaits", inPlace := ["internal/abi.NoEscape", "internal/bytealg.MakeNoZero", "slices.overlaps[uint32]"], unfollowed := true, recurses := true, apart := false }
def AssocWaitsSaid : Prop := assocWaitsRow.holds Tryz.pinned (OpenSpec.ofChange assocWaitsSpec)

/-- ITS FALSE NEIGHBOUR: 'it returns false'. Refute it at one input. -/
def assocWaitsWrong : ChangeSpec := { name := "assocWaits", fn := fun _ => fun
  | [d1, d2] => { results := [.lit (.bool false)], args := [d1, d2] }
  | _ => none }
def AssocWaitsWrongFalsely : Prop := assocWaitsRow.holds Tryz.pinned (OpenSpec.ofChange assocWaitsWrong)

/- THE SECOND FORM. 'bulk': how many values and letters a reading holds, each counted each time it is reached (what is shared counts as often as it is met; a slice's spare places count too). A statement '..UptoSaid' is the law's where the arguments, and the package variables that the reading takes, are together of bulk at most 1048576: NARROWER than '..Said'. Prove '..Said' where nothing that the law and all that it calls make is longer than what came in: it says more and counts as full. Else prove '..UptoSaid'. A law counts once. -/
mutual
def uptoBulk {H : Type} : DataW H → Nat
  | .lit (.string bytes) => bytes.length + 1
  | .lit _ => 1
  | .nil => 1
  | .ptr d => uptoBulk d + 1
  | .slice elems spare => uptoBulkAll elems + uptoBulkAll spare + 1
  | .agg parts => uptoBulkAll parts + 1
  | .iface _ d => uptoBulk d + 1
  | .map entries => uptoBulkEntries entries + 1
  | .held _ => 1
def uptoBulkAll {H : Type} : List (DataW H) → Nat
  | [] => 0
  | d :: r => uptoBulk d + uptoBulkAll r
def uptoBulkEntries {H : Type} : List (Lit × DataW H) → Nat
  | [] => 0
  | x :: r => uptoBulkEntry x + uptoBulkEntries r
def uptoBulkEntry {H : Type} : Lit × DataW H → Nat
  | (.string bytes, d) => bytes.length + uptoBulk d + 1
  | (_, d) => uptoBulk d + 1
 end
def uptoSmall : (H : Type) → List (DataW H) → Bool := fun _ ds => decide (uptoBulkAll ds ≤ 1048576)
def OpenSpec.upto (s : _root_.Go.ChangeSpec) : _root_.Go.OpenSpec := { _root_.Go.OpenSpec.ofChange s with cond := some uptoSmall }

/-- 'towlinelaw19.AssocStreams', WHERE WHAT IT READS IS OF BULK AT MOST 1048576: true; the input reads as it did. -/
def assocStreamsUptoRow : OpenClaim := { program := "ytbkcekmahdbgdaagreat", sum := "08554e5d8959ac3b05cbcf61d335798700438fc00182ac51c36be7446373981d", func := "towline/towlinelaw19.AssocStreams", spec := "assocStreams", inPlace := ["internal/abi.NoEscape", "internal/bytealg.MakeNoZero", "slices.overlaps[uint32]"], unfollowed := true, recurses := true, apart := false, narrowed := true }
def AssocStreamsUptoSaid : Prop := assocStreamsUptoRow.holds Tryz.pinned (OpenSpec.upto assocStreamsSpec)

/-- 'towlinelaw19.AssocPrefix', WHERE WHAT IT READS IS OF BULK AT MOST 1048576: true; the input reads as it did. -/
def assocPrefixUptoRow : OpenClaim := { program := "ytbkcekmahdbgdaagreat", sum := "08554e5d8959ac3b05cbcf61d335798700438fc00182ac51c36be7446373981d", func := "towline/towlinelaw19.AssocPrefix", spec := "assocPrefix", inPlace := ["internal/abi.NoEscape", "internal/bytealg.MakeNoZero", "slices.overlaps[uint32]"], unfollowed := true, recurses := true, apart := false, narrowed := true }
def AssocPrefixUptoSaid : Prop := assocPrefixUptoRow.holds Tryz.pinned (OpenSpec.upto assocPrefixSpec)

/-- 'towlinelaw19.AssocNotes', WHERE WHAT IT READS IS OF BULK AT MOST 1048576: true; the input reads as it did. -/
def assocNotesUptoRow : OpenClaim := { program := "ytbkcekmahdbgdaagreat", sum := "08554e5d8959ac3b05cbcf61d335798700438fc00182ac51c36be7446373981d", func := "towline/towlinelaw19.AssocNotes", spec := "assocNotes", inPlace := ["internal/abi.NoEscape", "internal/bytealg.MakeNoZero", "slices.overlaps[uint32]"], unfollowed := true, recurses := true, apart := false, narrowed := true }
def AssocNotesUptoSaid : Prop := assocNotesUptoRow.holds Tryz.pinned (OpenSpec.upto assocNotesSpec)

/-- 'towlinelaw19.AssocHolds', WHERE WHAT IT READS IS OF BULK AT MOST 1048576: true; the input reads as it did. -/
def assocHoldsUptoRow : OpenClaim := { program := "ytbkcekmahdbgdaagreat", sum := "08554e5d8959ac3b05cbcf61d335798700438fc00182ac51c36be7446373981d", func := "towline/towlinelaw19.AssocHolds", spec := "assocHolds", inPlace := ["internal/abi.NoEscape", "internal/bytealg.MakeNoZero", "slices.overlaps[uint32]"], unfollowed := true, recurses := true, apart := false, narrowed := true }
def AssocHoldsUptoSaid : Prop := assocHoldsUptoRow.holds Tryz.pinned (OpenSpec.upto assocHoldsSpec)

/-- 'towlinelaw19.AssocWaits', WHERE WHAT IT READS IS OF BULK AT MOST 1048576: true; the input reads as it did. -/
def assocWaitsUptoRow : OpenClaim := { program := "ytbkcekmahdbgdaagreat", sum := "08554e5d8959ac3b05cbcf61d335798700438fc00182ac51c36be7446373981d", func := "towline/towlinelaw19.AssocWaits", spec := "assocWaits", inPlace := ["internal/abi.NoEscape", "internal/bytealg.MakeNoZero", "slices.overlaps[uint32]"], unfollowed := true, recurses := true, apart := false, narrowed := true }
def AssocWaitsUptoSaid : Prop := assocWaitsUptoRow.holds Tryz.pinned (OpenSpec.upto assocWaitsSpec)

end Rows
end Go.Proofs.YtbkcekmahdbgdaaGreat
