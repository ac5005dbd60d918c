/-
  No cell of these rows narrows 'for every input' (looked for: loops, veiled, ifaces, maps, wideKeys, modest, calm, conditions, laid).
  DERIVED. THE GIVEN ROWS OF THIS SEAT. 5 by the template 'for every input the law returns true; each argument reads behind the call as it read before'; 0 by the template 'total and deterministic' (their statements: YteblkbnkaogkmaaTotals.lean).
  GIVEN WITH THE SEED: the statements are not yours to turn. If you find one false, say at which input.
  Laid BY PROGRAM, IN A SANDBOX (cutbox-rows.mjs): the forced cells as the released guide's own fill.sh prints them over the translation b420c0bb13d2e650… (all of the seat's roots in one cut). By AI agents, Wed Nov 11 2026. No macro, syntax, notation, axiom, sorry.
-/
import Derived.Test.YteblkbnkaogkmaaChecked
import GoSem.Claim
import GoSem.ClaimJoined
import GoSem.ClaimMapViews
import Derived.JoinedTies
import Derived.KernelRfl
namespace Go.Proofs.Yteblkbnkaogkmaa
/- THE CELL 'sum', in the pinned program and in every row, IS THE sha256 OF THE DUMP (.gsa) THAT YteblkbnkaogkmaaProg.lean LOADS. Nothing in Lean hashes anything: it is a label: what it is worth is what the hold of that sum in a sandbox is worth. -/
noncomputable def Try.pinned : Pinned := { name := "yteblkbnkaogkmaa", sum := "b420c0bb13d2e650b91f16dd6bdfa44cfbeba4fb6f2f0259fc179e9466a804a6", checked := Try.checked }
namespace Rows
def none {H : Type} : Left H := { results := [], args := [] }

/-- 'towlinelaw17.StoreBack': WHATEVER THE INPUT: true; the input reads as it did. -/
def storeBackSpec : ChangeSpec := { name := "storeBack", fn := fun _ => fun
  | [d1, d2] => { results := [.lit (.bool true)], args := [d1, d2] }
  | _ => none }
def storeBackRow : OpenClaim := { program := "yteblkbnkaogkmaa", sum := "b420c0bb13d2e650b91f16dd6bdfa44cfbeba4fb6f2f0259fc179e9466a804a6", func := "towline/towlinelaw17.StoreBack", spec := "storeBack", unfollowed := true, recurses := true, apart := false }
def StoreBackSaid : Prop := storeBackRow.holds Try.pinned (OpenSpec.ofChange storeBackSpec)

/-- ITS FALSE NEIGHBOUR: 'it returns false'. Refute it at one input. -/
def storeBackWrong : ChangeSpec := { name := "storeBack", fn := fun _ => fun
  | [d1, d2] => { results := [.lit (.bool false)], args := [d1, d2] }
  | _ => none }
def StoreBackWrongFalsely : Prop := storeBackRow.holds Try.pinned (OpenSpec.ofChange storeBackWrong)

/-- 'towlinelaw17.StoreFills': WHATEVER THE INPUT: true; the input reads as it did. -/
def storeFillsSpec : ChangeSpec := { name := "storeFills", fn := fun _ => fun
  | [d1, d2] => { results := [.lit (.bool true)], args := [d1, d2] }
  | _ => none }
def storeFillsRow : OpenClaim := { program := "yteblkbnkaogkmaa", sum := "b420c0bb13d2e650b91f16dd6bdfa44cfbeba4fb6f2f0259fc179e9466a804a6", func := "towline/towlinelaw17.StoreFills", spec := "storeFills", unfollowed := true, recurses := true, apart := false }
def StoreFillsSaid : Prop := storeFillsRow.holds Try.pinned (OpenSpec.ofChange storeFillsSpec)

/-- ITS FALSE NEIGHBOUR: 'it returns false'. Refute it at one input. -/
def storeFillsWrong : ChangeSpec := { name := "storeFills", fn := fun _ => fun
  | [d1, d2] => { results := [.lit (.bool false)], args := [d1, d2] }
  | _ => none }
def StoreFillsWrongFalsely : Prop := storeFillsRow.holds Try.pinned (OpenSpec.ofChange storeFillsWrong)

/-- 'towlinelaw17.StoreStreams': WHATEVER THE INPUT: true; the input reads as it did. -/
def storeStreamsSpec : ChangeSpec := { name := "storeStreams", fn := fun _ => fun
  | [d1, d2] => { results := [.lit (.bool true)], args := [d1, d2] }
  | _ => none }
def storeStreamsRow : OpenClaim := { program := "yteblkbnkaogkmaa", sum := "b420c0bb13d2e650b91f16dd6bdfa44cfbeba4fb6f2f0259fc179e9466a804a6", func := "towline/towlinelaw17.StoreStreams", spec := "storeStreams", unfollowed := true, recurses := true, apart := false }
def StoreStreamsSaid : Prop := storeStreamsRow.holds Try.pinned (OpenSpec.ofChange storeStreamsSpec)

/-- ITS FALSE NEIGHBOUR: 'it returns false'. Refute it at one input. -/
def storeStreamsWrong : ChangeSpec := { name := "storeStreams", fn := fun _ => fun
  | [d1, d2] => { results := [.lit (.bool false)], args := [d1, d2] }
  | _ => none }
def StoreStreamsWrongFalsely : Prop := storeStreamsRow.holds Try.pinned (OpenSpec.ofChange storeStreamsWrong)

/-- 'towlinelaw17.StoreSteps': WHATEVER THE INPUT: true; the input reads as it did. -/
def storeStepsSpec : ChangeSpec := { name := "storeSteps", fn := fun _ => fun
  | [d1, d2, d3] => { results := [.lit (.bool true)], args := [d1, d2, d3] }
  | _ => none }
def storeStepsRow : OpenClaim := { program := "yteblkbnkaogkmaa", sum := "b420c0bb13d2e650b91f16dd6bdfa44cfbeba4fb6f2f0259fc179e9466a804a6", func := "towline/towlinelaw17.StoreSteps", spec := "storeSteps", unfollowed := true, recurses := true, apart := false }
def StoreStepsSaid : Prop := storeStepsRow.holds Try.pinned (OpenSpec.ofChange storeStepsSpec)

/-- ITS FALSE NEIGHBOUR: 'it returns false'. Refute it at one input. -/
def storeStepsWrong : ChangeSpec := { name := "storeSteps", fn := fun _ => fun
  | [d1, d2, d3] => { results := [.lit (.bool false)], args := [d1, d2, d3] }
  | _ => none }
def StoreStepsWrongFalsely : Prop := storeStepsRow.holds Try.pinned (OpenSpec.ofChange storeStepsWrong)

/-- 'towlinelaw17.StoreExpires': WHATEVER THE INPUT: true; the input reads as it did. -/
def storeExpiresSpec : ChangeSpec := { name := "storeExpires", fn := fun _ => fun
  | [d1, d2] => { results := [.lit (.bool true)], args := [d1, d2] }
  | _ => none }
def storeExpiresRow : OpenClaim := { program := "yteblkbnkaogkmaa", sum := "b420c0bb13d2e650b91f16dd6bdfa44cfbeba4fb6f2f0259fc179e9466a804a6", func := "towline/towlinelaw17.StoreExpires", spec := "storeExpires", unfollowed := true, recurses := true, apart := false }
def StoreExpiresSaid : Prop := storeExpiresRow.holds Try.pinned (OpenSpec.ofChange storeExpiresSpec)

/-- ITS FALSE NEIGHBOUR: 'it returns false'. Refute it at one input. -/
def storeExpiresWrong : ChangeSpec := { name := "storeExpires", fn := fun _ => fun
  | [d1, d2] => { results := [.lit (.bool false)], args := [d1, d2] }
  | _ => none }
def StoreExpiresWrongFalsely : Prop := storeExpiresRow.holds Try.pinned (OpenSpec.ofChange storeExpiresWrong)

/- THE SECOND FORM. 'bulk': how many values and letters a reading holds, each counted each time it is reached (what is shared counts as often as it is met; a slice's spare places count too). A statement '..UptoSaid' is the law's where the arguments, and the package variables that the reading takes, are together of bulk at most 1048576: NARROWER than '..Said'. Prove '..Said' where nothing that the law and all that it calls make is longer than what came in: it says more and counts as full. Else prove '..UptoSaid'. A law counts once. -/
mutual
def uptoBulk {H : Type} : DataW H → Nat
  | .lit (.string bytes) => bytes.length + 1
  | .lit _ => 1
  | .nil => 1
  | .ptr d => uptoBulk d + 1
  | .slice elems spare => uptoBulkAll elems + uptoBulkAll spare + 1
  | .agg parts => uptoBulkAll parts + 1
  | .iface _ d => uptoBulk d + 1
  | .map entries => uptoBulkEntries entries + 1
  | .held _ => 1
def uptoBulkAll {H : Type} : List (DataW H) → Nat
  | [] => 0
  | d :: r => uptoBulk d + uptoBulkAll r
def uptoBulkEntries {H : Type} : List (Lit × DataW H) → Nat
  | [] => 0
  | x :: r => uptoBulkEntry x + uptoBulkEntries r
def uptoBulkEntry {H : Type} : Lit × DataW H → Nat
  | (.string bytes, d) => bytes.length + uptoBulk d + 1
  | (_, d) => uptoBulk d + 1
 end
def uptoSmall : (H : Type) → List (DataW H) → Bool := fun _ ds => decide (uptoBulkAll ds ≤ 1048576)
def OpenSpec.upto (s : _root_.Go.ChangeSpec) : _root_.Go.OpenSpec := { _root_.Go.OpenSpec.ofChange s with cond := some uptoSmall }

/-- 'towlinelaw17.StoreBack', WHERE WHAT IT READS IS OF BULK AT MOST 1048576: true; the input reads as it did. -/
def storeBackUptoRow : OpenClaim := { program := "yteblkbnkaogkmaa", sum := "b420c0bb13d2e650b91f16dd6bdfa44cfbeba4fb6f2f0259fc179e9466a804a6", func := "towline/towlinelaw17.StoreBack", spec := "storeBack", unfollowed := true, recurses := true, apart := false, narrowed := true }
def StoreBackUptoSaid : Prop := storeBackUptoRow.holds Try.pinned (OpenSpec.upto storeBackSpec)

/-- 'towlinelaw17.StoreFills', WHERE WHAT IT READS IS OF BULK AT MOST 1048576: true; the input reads as it did. -/
def storeFillsUptoRow : OpenClaim := { program := "yteblkbnkaogkmaa", sum := "b420c0bb13d2e650b91f16dd6bdfa44cfbeba4fb6f2f0259fc179e9466a804a6", func := "towline/towlinelaw17.StoreFills", spec := "storeFills", unfollowed := true, recurses := true, apart := false, narrowed := true }
def StoreFillsUptoSaid : Prop := storeFillsUptoRow.holds Try.pinned (OpenSpec.upto storeFillsSpec)

/-- 'towlinelaw17.StoreStreams', WHERE WHAT IT READS IS OF BULK AT MOST 1048576: true; the input reads as it did. -/
def storeStreamsUptoRow : OpenClaim := { program := "yteblkbnkaogkmaa", sum := "b420c0bb13d2e650b91f16dd6bdfa44cfbeba4fb6f2f0259fc179e9466a804a6", func := "towline/towlinelaw17.StoreStreams", spec := "storeStreams", unfollowed := true, recurses := true, apart := false, narrowed := true }
def StoreStreamsUptoSaid : Prop := storeStreamsUptoRow.holds Try.pinned (OpenSpec.upto storeStreamsSpec)

/-- 'towlinelaw17.StoreSteps', WHERE WHAT IT READS IS OF BULK AT MOST 1048576: true; the input reads as it did. -/
def storeStepsUptoRow : OpenClaim := { program := "yteblkbnkaogkmaa", sum := "b420c0bb13d2e650b91f16dd6bdfa44cfbeba4fb6f2f0259fc179e9466a804a6", func := "towline/towlinelaw17.StoreSteps", spec := "storeSteps", unfollowed := true, recurses := true, apart := false, narrowed := true }
def StoreStepsUptoSaid : Prop := storeStepsUptoRow.holds Try.pinned (OpenSpec.upto storeStepsSpec)

/-- 'towlinelaw17.StoreExpires', WHERE WHAT IT READS IS OF BULK AT MOST 1048576: true; the input reads as it did. -/
def storeExpiresUptoRow : OpenClaim := { program := "yteblkbnkaogkmaa", sum := "b420c0bb13d2e650b91f16dd6bdfa44cfbeba4fb6f2f0259fc179e9466a804a6", func := "towline/towlinelaw17.StoreExpires", spec := "storeExpires", unfollowed := true, recurses := true, apart := false, narrowed := true }
def StoreExpiresUptoSaid : Prop := storeExpiresUptoRow.holds Try.pinned (OpenSpec.upto storeExpiresSpec)

end Rows
end Go.Proofs.Yteblkbnkaogkmaa
