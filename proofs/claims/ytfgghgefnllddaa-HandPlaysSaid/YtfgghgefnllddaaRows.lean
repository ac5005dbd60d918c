/-
  No cell of these rows narrows 'for every input' (looked for: loops, veiled, ifaces, maps, wideKeys, modest, calm, conditions, laid).
  DERIVED. THE GIVEN ROWS OF THIS SEAT. 7 by the template 'for every input the law returns true; each argument reads behind the call as it read before'; 0 by the template 'total and deterministic' (their statements: YtfgghgefnllddaaTotals.lean).
  GIVEN WITH THE SEED: the statements are not yours to turn. If you find one false, say at which input.
  Laid BY PROGRAM, IN A SANDBOX (cutbox-rows.mjs): the forced cells as the released guide's own fill.sh prints them over the translation c1da89a84151fbd6… (all of the seat's roots in one cut). By AI agents, Wed Nov 11 2026. No macro, syntax, notation, axiom, sorry.
-/
import Derived.Test.YtfgghgefnllddaaChecked
import GoSem.Claim
import GoSem.ClaimJoined
import GoSem.ClaimMapViews
import Derived.JoinedTies
import Derived.KernelRfl
namespace Go.Proofs.Ytfgghgefnllddaa
/- THE CELL 'sum', in the pinned program and in every row, IS THE sha256 OF THE DUMP (.gsa) THAT YtfgghgefnllddaaProg.lean LOADS. Nothing in Lean hashes anything: it is a label: what it is worth is what the hold of that sum in a sandbox is worth. -/
noncomputable def Try.pinned : Pinned := { name := "ytfgghgefnllddaa", sum := "c1da89a84151fbd68665548b9bd965b831161e28d13e94538bbee23d1d33c062", checked := Try.checked }
namespace Rows
def none {H : Type} : Left H := { results := [], args := [] }

/-- 'towlinelaw18.HandCookies': WHATEVER THE INPUT: true; the input reads as it did. -/
def handCookiesSpec : ChangeSpec := { name := "handCookies", fn := fun _ => fun
  | [d1, d2, d3] => { results := [.lit (.bool true)], args := [d1, d2, d3] }
  | _ => none }
def handCookiesRow : OpenClaim := { program := "ytfgghgefnllddaa", sum := "c1da89a84151fbd68665548b9bd965b831161e28d13e94538bbee23d1d33c062", func := "towline/towlinelaw18.HandCookies", spec := "handCookies", unfollowed := true, recurses := true, apart := false }
def HandCookiesSaid : Prop := handCookiesRow.holds Try.pinned (OpenSpec.ofChange handCookiesSpec)

/-- ITS FALSE NEIGHBOUR: 'it returns false'. Refute it at one input. -/
def handCookiesWrong : ChangeSpec := { name := "handCookies", fn := fun _ => fun
  | [d1, d2, d3] => { results := [.lit (.bool false)], args := [d1, d2, d3] }
  | _ => none }
def HandCookiesWrongFalsely : Prop := handCookiesRow.holds Try.pinned (OpenSpec.ofChange handCookiesWrong)

/-- 'towlinelaw18.HandSteps': WHATEVER THE INPUT: true; the input reads as it did. -/
def handStepsSpec : ChangeSpec := { name := "handSteps", fn := fun _ => fun
  | [d1, d2, d3, d4, d5] => { results := [.lit (.bool true)], args := [d1, d2, d3, d4, d5] }
  | _ => none }
def handStepsRow : OpenClaim := { program := "ytfgghgefnllddaa", sum := "c1da89a84151fbd68665548b9bd965b831161e28d13e94538bbee23d1d33c062", func := "towline/towlinelaw18.HandSteps", spec := "handSteps", unfollowed := true, recurses := true, apart := false }
def HandStepsSaid : Prop := handStepsRow.holds Try.pinned (OpenSpec.ofChange handStepsSpec)

/-- ITS FALSE NEIGHBOUR: 'it returns false'. Refute it at one input. -/
def handStepsWrong : ChangeSpec := { name := "handSteps", fn := fun _ => fun
  | [d1, d2, d3, d4, d5] => { results := [.lit (.bool false)], args := [d1, d2, d3, d4, d5] }
  | _ => none }
def HandStepsWrongFalsely : Prop := handStepsRow.holds Try.pinned (OpenSpec.ofChange handStepsWrong)

/-- 'towlinelaw18.HandDeaf': WHATEVER THE INPUT: true; the input reads as it did. -/
def handDeafSpec : ChangeSpec := { name := "handDeaf", fn := fun _ => fun
  | [d1, d2, d3] => { results := [.lit (.bool true)], args := [d1, d2, d3] }
  | _ => none }
def handDeafRow : OpenClaim := { program := "ytfgghgefnllddaa", sum := "c1da89a84151fbd68665548b9bd965b831161e28d13e94538bbee23d1d33c062", func := "towline/towlinelaw18.HandDeaf", spec := "handDeaf", unfollowed := true, recurses := true, apart := false }
def HandDeafSaid : Prop := handDeafRow.holds Try.pinned (OpenSpec.ofChange handDeafSpec)

/-- ITS FALSE NEIGHBOUR: 'it returns false'. Refute it at one input. -/
def handDeafWrong : ChangeSpec := { name := "handDeaf", fn := fun _ => fun
  | [d1, d2, d3] => { results := [.lit (.bool false)], args := [d1, d2, d3] }
  | _ => none }
def HandDeafWrongFalsely : Prop := handDeafRow.holds Try.pinned (OpenSpec.ofChange handDeafWrong)

/-- 'towlinelaw18.HandMeets': WHATEVER THE INPUT: true; the input reads as it did. -/
def handMeetsSpec : ChangeSpec := { name := "handMeets", fn := fun _ => fun
  | [d1, d2, d3, d4, d5, d6] => { results := [.lit (.bool true)], args := [d1, d2, d3, d4, d5, d6] }
  | _ => none }
def handMeetsRow : OpenClaim := { program := "ytfgghgefnllddaa", sum := "c1da89a84151fbd68665548b9bd965b831161e28d13e94538bbee23d1d33c062", func := "towline/towlinelaw18.HandMeets", spec := "handMeets", unfollowed := true, recurses := true, apart := false }
def HandMeetsSaid : Prop := handMeetsRow.holds Try.pinned (OpenSpec.ofChange handMeetsSpec)

/-- ITS FALSE NEIGHBOUR: 'it returns false'. Refute it at one input. -/
def handMeetsWrong : ChangeSpec := { name := "handMeets", fn := fun _ => fun
  | [d1, d2, d3, d4, d5, d6] => { results := [.lit (.bool false)], args := [d1, d2, d3, d4, d5, d6] }
  | _ => none }
def HandMeetsWrongFalsely : Prop := handMeetsRow.holds Try.pinned (OpenSpec.ofChange handMeetsWrong)

/-- 'towlinelaw18.HandEnds': WHATEVER THE INPUT: true; the input reads as it did. -/
def handEndsSpec : ChangeSpec := { name := "handEnds", fn := fun _ => fun
  | [d1, d2, d3] => { results := [.lit (.bool true)], args := [d1, d2, d3] }
  | _ => none }
def handEndsRow : OpenClaim := { program := "ytfgghgefnllddaa", sum := "c1da89a84151fbd68665548b9bd965b831161e28d13e94538bbee23d1d33c062", func := "towline/towlinelaw18.HandEnds", spec := "handEnds", unfollowed := true, recurses := true, apart := false }
def HandEndsSaid : Prop := handEndsRow.holds Try.pinned (OpenSpec.ofChange handEndsSpec)

/-- ITS FALSE NEIGHBOUR: 'it returns false'. Refute it at one input. -/
def handEndsWrong : ChangeSpec := { name := "handEnds", fn := fun _ => fun
  | [d1, d2, d3] => { results := [.lit (.bool false)], args := [d1, d2, d3] }
  | _ => none }
def HandEndsWrongFalsely : Prop := handEndsRow.holds Try.pinned (OpenSpec.ofChange handEndsWrong)

/-- 'towlinelaw18.HandTries': WHATEVER THE INPUT: true; the input reads as it did. -/
def handTriesSpec : ChangeSpec := { name := "handTries", fn := fun _ => fun
  | [d1, d2] => { results := [.lit (.bool true)], args := [d1, d2] }
  | _ => none }
def handTriesRow : OpenClaim := { program := "ytfgghgefnllddaa", sum := "c1da89a84151fbd68665548b9bd965b831161e28d13e94538bbee23d1d33c062", func := "towline/towlinelaw18.HandTries", spec := "handTries", inPlace := ["internal/abi.NoEscape", "internal/bytealg.MakeNoZero"], unfollowed := true, recurses := true, apart := false }
def HandTriesSaid : Prop := handTriesRow.holds Try.pinned (OpenSpec.ofChange handTriesSpec)

/-- ITS FALSE NEIGHBOUR: 'it returns false'. Refute it at one input. -/
def handTriesWrong : ChangeSpec := { name := "handTries", fn := fun _ => fun
  | [d1, d2] => { results := [.lit (.bool false)], args := [d1, d2] }
  | _ => none }
def HandTriesWrongFalsely : Prop := handTriesRow.holds Try.pinned (OpenSpec.ofChange handTriesWrong)

/-- 'towlinelaw18.HandPlays': WHATEVER THE INPUT: true; the input reads as it did. -/
def handPlaysSpec : ChangeSpec := { name := "handPlays", fn := fun _ => fun
  | [d] => { results := [.lit (.bool true)], args := [d] }
  | _ => none }
def handPlaysRow : OpenClaim := { program := "ytfgghgefnllddaa", sum := "c1da89a84151fbd68665548b9bd965b831161e28d13e94538bbee23d1d33c062", func := "towline/towlinelaw18.HandPlays", spec := "handPlays", inPlace := ["internal/abi.NoEscape", "internal/bytealg.MakeNoZero"], unfollowed := true, recurses := true, apart := false }
def HandPlaysSaid : Prop := handPlaysRow.holds Try.pinned (OpenSpec.ofChange handPlaysSpec)

/-- ITS FALSE NEIGHBOUR: 'it returns false'. Refute it at one input. -/
def handPlaysWrong : ChangeSpec := { name := "handPlays", fn := fun _ => fun
  | [d] => { results := [.lit (.bool false)], args := [d] }
  | _ => none }
def HandPlaysWrongFalsely : Prop := handPlaysRow.holds Try.pinned (OpenSpec.ofChange handPlaysWrong)

/- THE SECOND FORM. 'bulk': how many values and letters a reading holds, each counted each time it is reached (what is shared counts as often as it is met; a slice's spare places count too). A statement '..UptoSaid' is the law's where the arguments, and the package variables that the reading takes, are together of bulk at most 1048576: NARROWER than '..Said'. Prove '..Said' where nothing that the law and all that it calls make is longer than what came in: it says more and counts as full. Else prove '..UptoSaid'. A law counts once. -/
mutual
def uptoBulk {H : Type} : DataW H → Nat
  | .lit (.string bytes) => bytes.length + 1
  | .lit _ => 1
  | .nil => 1
  | .ptr d => uptoBulk d + 1
  | .slice elems spare => uptoBulkAll elems + uptoBulkAll spare + 1
  | .agg parts => uptoBulkAll parts + 1
  | .iface _ d => uptoBulk d + 1
  | .map entries => uptoBulkEntries entries + 1
  | .held _ => 1
def uptoBulkAll {H : Type} : List (DataW H) → Nat
  | [] => 0
  | d :: r => uptoBulk d + uptoBulkAll r
def uptoBulkEntries {H : Type} : List (Lit × DataW H) → Nat
  | [] => 0
  | x :: r => uptoBulkEntry x + uptoBulkEntries r
def uptoBulkEntry {H : Type} : Lit × DataW H → Nat
  | (.string bytes, d) => bytes.length + uptoBulk d + 1
  | (_, d) => uptoBulk d + 1
 end
def uptoSmall : (H : Type) → List (DataW H) → Bool := fun _ ds => decide (uptoBulkAll ds ≤ 1048576)
def OpenSpec.upto (s : _root_.Go.ChangeSpec) : _root_.Go.OpenSpec := { _root_.Go.OpenSpec.ofChange s with cond := some uptoSmall }

/-- 'towlinelaw18.HandCookies', WHERE WHAT IT READS IS OF BULK AT MOST 1048576: true; the input reads as it did. -/
def handCookiesUptoRow : OpenClaim := { program := "ytfgghgefnllddaa", sum := "c1da89a84151fbd68665548b9bd965b831161e28d13e94538bbee23d1d33c062", func := "towline/towlinelaw18.HandCookies", spec := "handCookies", unfollowed := true, recurses := true, apart := false, narrowed := true }
def HandCookiesUptoSaid : Prop := handCookiesUptoRow.holds Try.pinned (OpenSpec.upto handCookiesSpec)

/-- 'towlinelaw18.HandSteps', WHERE WHAT IT READS IS OF BULK AT MOST 1048576: true; the input reads as it did. -/
def handStepsUptoRow : OpenClaim := { program := "ytfgghgefnllddaa", sum := "c1da89a84151fbd68665548b9bd965b831161e28d13e94538bbee23d1d33c062", func := "towline/towlinelaw18.HandSteps", spec := "handSteps", unfollowed := true, recurses := true, apart := false, narrowed := true }
def HandStepsUptoSaid : Prop := handStepsUptoRow.holds Try.pinned (OpenSpec.upto handStepsSpec)

/-- 'towlinelaw18.HandDeaf', WHERE WHAT IT READS IS OF BULK AT MOST 1048576: true; the input reads as it did. -/
def handDeafUptoRow : OpenClaim := { program := "ytfgghgefnllddaa", sum := "c1da89a84151fbd68665548b9bd965b831161e28d13e94538bbee23d1d33c062", func := "towline/towlinelaw18.HandDeaf", spec := "handDeaf", unfollowed := true, recurses := true, apart := false, narrowed := true }
def HandDeafUptoSaid : Prop := handDeafUptoRow.holds Try.pinned (OpenSpec.upto handDeafSpec)

/-- 'towlinelaw18.HandMeets', WHERE WHAT IT READS IS OF BULK AT MOST 1048576: true; the input reads as it did. -/
def handMeetsUptoRow : OpenClaim := { program := "ytfgghgefnllddaa", sum := "c1da89a84151fbd68665548b9bd965b831161e28d13e94538bbee23d1d33c062", func := "towline/towlinelaw18.HandMeets", spec := "handMeets", unfollowed := true, recurses := true, apart := false, narrowed := true }
def HandMeetsUptoSaid : Prop := handMeetsUptoRow.holds Try.pinned (OpenSpec.upto handMeetsSpec)

/-- 'towlinelaw18.HandEnds', WHERE WHAT IT READS IS OF BULK AT MOST 1048576: true; the input reads as it did. -/
def handEndsUptoRow : OpenClaim := { program := "ytfgghgefnllddaa", sum := "c1da89a84151fbd68665548b9bd965b831161e28d13e94538bbee23d1d33c062", func := "towline/towlinelaw18.HandEnds", spec := "handEnds", unfollowed := true, recurses := true, apart := false, narrowed := true }
def HandEndsUptoSaid : Prop := handEndsUptoRow.holds Try.pinned (OpenSpec.upto handEndsSpec)

/-- 'towlinelaw18.HandTries', WHERE WHAT IT READS IS OF BULK AT MOST 1048576: true; the input reads as it did. -/
def handTriesUptoRow : OpenClaim := { program := "ytfgghgefnllddaa", sum := "c1da89a84151fbd68665548b9bd965b831161e28d13e94538bbee23d1d33c062", func := "towline/towlinelaw18.HandTries", spec := "handTries", inPlace := ["internal/abi.NoEscape", "internal/bytealg.MakeNoZero"], unfollowed := true, recurses := true, apart := false, narrowed := true }
def HandTriesUptoSaid : Prop := handTriesUptoRow.holds Try.pinned (OpenSpec.upto handTriesSpec)

/-- 'towlinelaw18.HandPlays', WHERE WHAT IT READS IS OF BULK AT MOST 1048576: true; the input reads as it did. -/
def handPlaysUptoRow : OpenClaim := { program := "ytfgghgefnllddaa", sum := "c1da89a84151fbd68665548b9bd965b831161e28d13e94538bbee23d1d33c062", func := "towline/towlinelaw18.HandPlays", spec := "handPlays", inPlace := ["internal/abi.NoEscape", "internal/bytealg.MakeNoZero"], unfollowed := true, recurses := true, apart := false, narrowed := true }
def HandPlaysUptoSaid : Prop := handPlaysUptoRow.holds Try.pinned (OpenSpec.upto handPlaysSpec)

end Rows
end Go.Proofs.Ytfgghgefnllddaa
