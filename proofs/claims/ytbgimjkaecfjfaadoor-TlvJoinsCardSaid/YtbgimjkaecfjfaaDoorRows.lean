/-
  NARROWER THAN 'FOR EVERY INPUT', by the rows' own cells (each row's printed sentence says how): TlvParses: laid · TlvBack: laid · TlvJoins: laid · TlvActs: laid · TlvSizes: laid · TlvBuilds: laid.
  DERIVED. THE GIVEN ROWS OF THIS SEAT. 6 by the template 'for every input the law returns true; each argument reads behind the call as it read before'; 0 by the template 'total and deterministic' (their statements: YtbgimjkaecfjfaaDoorTotals.lean).
  GIVEN WITH THE SEED: the statements are not yours to turn. If you find one false, say at which input.
  Laid BY PROGRAM, IN A SANDBOX (cutbox-rows.mjs): the forced cells as the released guide's own fill.sh prints them over the translation e957ad547d4f10dc… (all of the seat's roots in one cut). By AI agents, Wed Nov 11 2026. No macro, syntax, notation, axiom, sorry.
-/
import Derived.Test.YtbgimjkaecfjfaaDoorChecked
import GoSem.PinnedTables
import GoSem.Claim
import GoSem.ClaimJoined
import GoSem.ClaimMapViews
import Derived.JoinedTies
import Derived.KernelRfl
namespace Go.Proofs.YtbgimjkaecfjfaaDoor
/- THE CELL 'sum', in the pinned program and in every row, IS THE sha256 OF THE DUMP (.gsa) THAT YtbgimjkaecfjfaaDoorProg.lean LOADS. Nothing in Lean hashes anything: it is a label: what it is worth is what the hold of that sum in a sandbox is worth. -/
noncomputable def Tryd.pinned : Pinned := { name := "ytbgimjkaecfjfaadoor", sum := "e957ad547d4f10dc0f6c1aa67acf9014bced6f8e37771b502f8d158004d8e073", checked := Tryd.checked }
namespace Rows
def none {H : Type} : Left H := { results := [], args := [] }

/- WHAT THE LISTED PACKAGE-LEVEL VARIABLES READ AS WHEN THE CALL BEGINS. Each datum BY PROGRAM (the guide's laid-datum.mjs) off the statement by which the dump's own 'gosem.cut.vars' lays the variable. In a bare row this is a premise. The card (YtbgimjkaecfjfaaDoorCards.lean) ties it to the program's text. -/
def laid_unicode_utf8_acceptRanges {H : Type} : DataW H := .agg [.agg [.lit (.int .u8 128), .lit (.int .u8 191)], .agg [.lit (.int .u8 160), .lit (.int .u8 191)], .agg [.lit (.int .u8 128), .lit (.int .u8 159)], .agg [.lit (.int .u8 144), .lit (.int .u8 191)], .agg [.lit (.int .u8 128), .lit (.int .u8 143)], .agg [.lit (.int .u8 0), .lit (.int .u8 0)], .agg [.lit (.int .u8 0), .lit (.int .u8 0)], .agg [.lit (.int .u8 0), .lit (.int .u8 0)], .agg [.lit (.int .u8 0), .lit (.int .u8 0)], .agg [.lit (.int .u8 0), .lit (.int .u8 0)], .agg [.lit (.int .u8 0), .lit (.int .u8 0)], .agg [.lit (.int .u8 0), .lit (.int .u8 0)], .agg [.lit (.int .u8 0), .lit (.int .u8 0)], .agg [.lit (.int .u8 0), .lit (.int .u8 0)], .agg [.lit (.int .u8 0), .lit (.int .u8 0)], .agg [.lit (.int .u8 0), .lit (.int .u8 0)]]
/-- One of Go's own tables, pinned by name: the form's constant. -/
def laid_unicode_utf8_first : DataW Unit := Go.Pinned.utf8First

/-- 'towlinelaw6.TlvParses': WHATEVER THE INPUT: true; the input reads as it did. -/
def tlvParsesSpec : ChangeSpec := { name := "tlvParses", fn := fun _ => fun
  | [d] => { results := [.lit (.bool true)], args := [d] }
  | _ => none }
def tlvParsesRow : OpenClaim := { program := "ytbgimjkaecfjfaadoor", sum := "e957ad547d4f10dc0f6c1aa67acf9014bced6f8e37771b502f8d158004d8e073", func := "towline/towlinelaw6.TlvParses", spec := "tlvParses", inPlace := ["internal/abi.NoEscape", "internal/bytealg.MakeNoZero", "internal/bytealg.IndexByteString", "internal/bytealg.IndexString"], unfollowed := true, recurses := true, named := ["unicode/utf8.first", "unicode/utf8.acceptRanges", "internal/bytealg.MaxLen"], apart := false, laid := [("unicode/utf8.acceptRanges", laid_unicode_utf8_acceptRanges), ("unicode/utf8.first", laid_unicode_utf8_first)] }
def TlvParsesSaid : Prop := tlvParsesRow.holds Tryd.pinned (OpenSpec.ofChange tlvParsesSpec)

/-- ITS FALSE NEIGHBOUR: 'it returns false'. Refute it at one input. -/
def tlvParsesWrong : ChangeSpec := { name := "tlvParses", fn := fun _ => fun
  | [d] => { results := [.lit (.bool false)], args := [d] }
  | _ => none }
def TlvParsesWrongFalsely : Prop := tlvParsesRow.holds Tryd.pinned (OpenSpec.ofChange tlvParsesWrong)

/-- 'towlinelaw6.TlvBack': WHATEVER THE INPUT: true; the input reads as it did. -/
def tlvBackSpec : ChangeSpec := { name := "tlvBack", fn := fun _ => fun
  | [d1, d2] => { results := [.lit (.bool true)], args := [d1, d2] }
  | _ => none }
def tlvBackRow : OpenClaim := { program := "ytbgimjkaecfjfaadoor", sum := "e957ad547d4f10dc0f6c1aa67acf9014bced6f8e37771b502f8d158004d8e073", func := "towline/towlinelaw6.TlvBack", spec := "tlvBack", inPlace := ["internal/abi.NoEscape", "internal/bytealg.MakeNoZero", "internal/bytealg.IndexByteString", "internal/bytealg.IndexString"], unfollowed := true, recurses := true, named := ["unicode/utf8.first", "unicode/utf8.acceptRanges", "internal/bytealg.MaxLen"], apart := false, laid := [("unicode/utf8.acceptRanges", laid_unicode_utf8_acceptRanges), ("unicode/utf8.first", laid_unicode_utf8_first)] }
def TlvBackSaid : Prop := tlvBackRow.holds Tryd.pinned (OpenSpec.ofChange tlvBackSpec)

/-- ITS FALSE NEIGHBOUR: 'it returns false'. Refute it at one input. -/
def tlvBackWrong : ChangeSpec := { name := "tlvBack", fn := fun _ => fun
  | [d1, d2] => { results := [.lit (.bool false)], args := [d1, d2] }
  | _ => none }
def TlvBackWrongFalsely : Prop := tlvBackRow.holds Tryd.pinned (OpenSpec.ofChange tlvBackWrong)

/-- 'towlinelaw6.TlvJoins': WHATEVER THE INPUT: true; the input reads as it did. -/
def tlvJoinsSpec : ChangeSpec := { name := "tlvJoins", fn := fun _ => fun
  | [d1, d2] => { results := [.lit (.bool true)], args := [d1, d2] }
  | _ => none }
def tlvJoinsRow : OpenClaim := { program := "ytbgimjkaecfjfaadoor", sum := "e957ad547d4f10dc0f6c1aa67acf9014bced6f8e37771b502f8d158004d8e073", func := "towline/towlinelaw6.TlvJoins", spec := "tlvJoins", inPlace := ["internal/abi.NoEscape", "internal/bytealg.MakeNoZero", "internal/bytealg.IndexByteString", "internal/bytealg.IndexString"], unfollowed := true, recurses := true, named := ["unicode/utf8.first", "unicode/utf8.acceptRanges", "internal/bytealg.MaxLen"], apart := false, laid := [("unicode/utf8.acceptRanges", laid_unicode_utf8_acceptRanges), ("unicode/utf8.first", laid_unicode_utf8_first)] }
def TlvJoinsSaid : Prop := tlvJoinsRow.holds Tryd.pinned (OpenSpec.ofChange tlvJoinsSpec)

/-- ITS FALSE NEIGHBOUR: 'it returns false'. Refute it at one input. -/
def tlvJoinsWrong : ChangeSpec := { name := "tlvJoins", fn := fun _ => fun
  | [d1, d2] => { results := [.lit (.bool false)], args := [d1, d2] }
  | _ => none }
def TlvJoinsWrongFalsely : Prop := tlvJoinsRow.holds Tryd.pinned (OpenSpec.ofChange tlvJoinsWrong)

/-- 'towlinelaw6.TlvActs': WHATEVER THE INPUT: true; the input reads as it did. -/
def tlvActsSpec : ChangeSpec := { name := "tlvActs", fn := fun _ => fun
  | [d] => { results := [.lit (.bool true)], args := [d] }
  | _ => none }
def tlvActsRow : OpenClaim := { program := "ytbgimjkaecfjfaadoor", sum := "e957ad547d4f10dc0f6c1aa67acf9014bced6f8e37771b502f8d158004d8e073", func := "towline/towlinelaw6.TlvActs", spec := "tlvActs", inPlace := ["internal/abi.NoEscape", "internal/bytealg.MakeNoZero", "internal/bytealg.IndexByteString", "internal/bytealg.IndexString"], unfollowed := true, recurses := true, named := ["unicode/utf8.first", "unicode/utf8.acceptRanges", "internal/bytealg.MaxLen"], apart := false, laid := [("unicode/utf8.acceptRanges", laid_unicode_utf8_acceptRanges), ("unicode/utf8.first", laid_unicode_utf8_first)] }
def TlvActsSaid : Prop := tlvActsRow.holds Tryd.pinned (OpenSpec.ofChange tlvActsSpec)

/-- ITS FALSE NEIGHBOUR: 'it returns false'. Refute it at one input. -/
def tlvActsWrong : ChangeSpec := { name := "tlvActs", fn := fun _ => fun
  | [d] => { results := [.lit (.bool false)], args := [d] }
  | _ => none }
def TlvActsWrongFalsely : Prop := tlvActsRow.holds Tryd.pinned (OpenSpec.ofChange tlvActsWrong)

/-- 'towlinelaw6.TlvSizes': WHATEVER THE INPUT: true; the input reads as it did. -/
def tlvSizesSpec : ChangeSpec := { name := "tlvSizes", fn := fun _ => fun
  | [d1, d2] => { results := [.lit (.bool true)], args := [d1, d2] }
  | _ => none }
def tlvSizesRow : OpenClaim := { program := "ytbgimjkaecfjfaadoor", sum := "e957ad547d4f10dc0f6c1aa67acf9014bced6f8e37771b502f8d158004d8e073", func := "towline/towlinelaw6.TlvSizes", spec := "tlvSizes", inPlace := ["internal/abi.NoEscape", "internal/bytealg.MakeNoZero", "internal/bytealg.IndexByteString", "internal/bytealg.IndexString"], unfollowed := true, recurses := true, named := ["unicode/utf8.first", "unicode/utf8.acceptRanges", "internal/bytealg.MaxLen"], apart := false, laid := [("unicode/utf8.acceptRanges", laid_unicode_utf8_acceptRanges), ("unicode/utf8.first", laid_unicode_utf8_first)] }
def TlvSizesSaid : Prop := tlvSizesRow.holds Tryd.pinned (OpenSpec.ofChange tlvSizesSpec)

/-- ITS FALSE NEIGHBOUR: 'it returns false'. Refute it at one input. -/
def tlvSizesWrong : ChangeSpec := { name := "tlvSizes", fn := fun _ => fun
  | [d1, d2] => { results := [.lit (.bool false)], args := [d1, d2] }
  | _ => none }
def TlvSizesWrongFalsely : Prop := tlvSizesRow.holds Tryd.pinned (OpenSpec.ofChange tlvSizesWrong)

/-- 'towlinelaw6.TlvBuilds': WHATEVER THE INPUT: true; the input reads as it did. -/
def tlvBuildsSpec : ChangeSpec := { name := "tlvBuilds", fn := fun _ => fun
  | [d1, d2] => { results := [.lit (.bool true)], args := [d1, d2] }
  | _ => none }
def tlvBuildsRow : OpenClaim := { program := "ytbgimjkaecfjfaadoor", sum := "e957ad547d4f10dc0f6c1aa67acf9014bced6f8e37771b502f8d158004d8e073", func := "towline/towlinelaw6.TlvBuilds", spec := "tlvBuilds", inPlace := ["internal/abi.NoEscape", "internal/bytealg.MakeNoZero", "internal/bytealg.IndexByteString", "internal/bytealg.IndexString"], unfollowed := true, recurses := true, named := ["unicode/utf8.first", "unicode/utf8.acceptRanges", "internal/bytealg.MaxLen"], apart := false, laid := [("unicode/utf8.acceptRanges", laid_unicode_utf8_acceptRanges), ("unicode/utf8.first", laid_unicode_utf8_first)] }
def TlvBuildsSaid : Prop := tlvBuildsRow.holds Tryd.pinned (OpenSpec.ofChange tlvBuildsSpec)

/-- ITS FALSE NEIGHBOUR: 'it returns false'. Refute it at one input. -/
def tlvBuildsWrong : ChangeSpec := { name := "tlvBuilds", fn := fun _ => fun
  | [d1, d2] => { results := [.lit (.bool false)], args := [d1, d2] }
  | _ => none }
def TlvBuildsWrongFalsely : Prop := tlvBuildsRow.holds Tryd.pinned (OpenSpec.ofChange tlvBuildsWrong)

/- THE SECOND FORM. 'bulk': how many values and letters a reading holds, each counted each time it is reached (what is shared counts as often as it is met; a slice's spare places count too). A statement '..UptoSaid' is the law's where the arguments, and the package variables that the reading takes, are together of bulk at most 1048576: NARROWER than '..Said'. Prove '..Said' where nothing that the law and all that it calls make is longer than what came in: it says more and counts as full. Else prove '..UptoSaid'. A law counts once. -/
mutual
def uptoBulk {H : Type} : DataW H → Nat
  | .lit (.string bytes) => bytes.length + 1
  | .lit _ => 1
  | .nil => 1
  | .ptr d => uptoBulk d + 1
  | .slice elems spare => uptoBulkAll elems + uptoBulkAll spare + 1
  | .agg parts => uptoBulkAll parts + 1
  | .iface _ d => uptoBulk d + 1
  | .map entries => uptoBulkEntries entries + 1
  | .held _ => 1
def uptoBulkAll {H : Type} : List (DataW H) → Nat
  | [] => 0
  | d :: r => uptoBulk d + uptoBulkAll r
def uptoBulkEntries {H : Type} : List (Lit × DataW H) → Nat
  | [] => 0
  | x :: r => uptoBulkEntry x + uptoBulkEntries r
def uptoBulkEntry {H : Type} : Lit × DataW H → Nat
  | (.string bytes, d) => bytes.length + uptoBulk d + 1
  | (_, d) => uptoBulk d + 1
 end
def uptoSmall : (H : Type) → List (DataW H) → Bool := fun _ ds => decide (uptoBulkAll ds ≤ 1048576)
def OpenSpec.upto (s : _root_.Go.ChangeSpec) : _root_.Go.OpenSpec := { _root_.Go.OpenSpec.ofChange s with cond := some uptoSmall }

/-- 'towlinelaw6.TlvParses', WHERE WHAT IT READS IS OF BULK AT MOST 1048576: true; the input reads as it did. -/
def tlvParsesUptoRow : OpenClaim := { program := "ytbgimjkaecfjfaadoor", sum := "e957ad547d4f10dc0f6c1aa67acf9014bced6f8e37771b502f8d158004d8e073", func := "towline/towlinelaw6.TlvParses", spec := "tlvParses", inPlace := ["internal/abi.NoEscape", "internal/bytealg.MakeNoZero", "internal/bytealg.IndexByteString", "internal/bytealg.IndexString"], unfollowed := true, recurses := true, named := ["unicode/utf8.first", "unicode/utf8.acceptRanges", "internal/bytealg.MaxLen"], apart := false, laid := [("unicode/utf8.acceptRanges", laid_unicode_utf8_acceptRanges), ("unicode/utf8.first", laid_unicode_utf8_first)], narrowed := true }
def TlvParsesUptoSaid : Prop := tlvParsesUptoRow.holds Tryd.pinned (OpenSpec.upto tlvParsesSpec)

/-- 'towlinelaw6.TlvBack', WHERE WHAT IT READS IS OF BULK AT MOST 1048576: true; the input reads as it did. -/
def tlvBackUptoRow : OpenClaim := { program := "ytbgimjkaecfjfaadoor", sum := "e957ad547d4f10dc0f6c1aa67acf9014bced6f8e37771b502f8d158004d8e073", func := "towline/towlinelaw6.TlvBack", spec := "tlvBack", inPlace := ["internal/abi.NoEscape", "internal/bytealg.MakeNoZero", "internal/bytealg.IndexByteString", "internal/bytealg.IndexString"], unfollowed := true, recurses := true, named := ["unicode/utf8.first", "unicode/utf8.acceptRanges", "internal/bytealg.MaxLen"], apart := false, laid := [("unicode/utf8.acceptRanges", laid_unicode_utf8_acceptRanges), ("unicode/utf8.first", laid_unicode_utf8_first)], narrowed := true }
def TlvBackUptoSaid : Prop := tlvBackUptoRow.holds Tryd.pinned (OpenSpec.upto tlvBackSpec)

/-- 'towlinelaw6.TlvJoins', WHERE WHAT IT READS IS OF BULK AT MOST 1048576: true; the input reads as it did. -/
def tlvJoinsUptoRow : OpenClaim := { program := "ytbgimjkaecfjfaadoor", sum := "e957ad547d4f10dc0f6c1aa67acf9014bced6f8e37771b502f8d158004d8e073", func := "towline/towlinelaw6.TlvJoins", spec := "tlvJoins", inPlace := ["internal/abi.NoEscape", "internal/bytealg.MakeNoZero", "internal/bytealg.IndexByteString", "internal/bytealg.IndexString"], unfollowed := true, recurses := true, named := ["unicode/utf8.first", "unicode/utf8.acceptRanges", "internal/bytealg.MaxLen"], apart := false, laid := [("unicode/utf8.acceptRanges", laid_unicode_utf8_acceptRanges), ("unicode/utf8.first", laid_unicode_utf8_first)], narrowed := true }
def TlvJoinsUptoSaid : Prop := tlvJoinsUptoRow.holds Tryd.pinned (OpenSpec.upto tlvJoinsSpec)

/-- 'towlinelaw6.TlvActs', WHERE WHAT IT READS IS OF BULK AT MOST 1048576: true; the input reads as it did. -/
def tlvActsUptoRow : OpenClaim := { program := "ytbgimjkaecfjfaadoor", sum := "e957ad547d4f10dc0f6c1aa67acf9014bced6f8e37771b502f8d158004d8e073", func := "towline/towlinelaw6.TlvActs", spec := "tlvActs", inPlace := ["internal/abi.NoEscape", "internal/bytealg.MakeNoZero", "internal/bytealg.IndexByteString", "internal/bytealg.IndexString"], unfollowed := true, recurses := true, named := ["unicode/utf8.first", "unicode/utf8.acceptRanges", "internal/bytealg.MaxLen"], apart := false, laid := [("unicode/utf8.acceptRanges", laid_unicode_utf8_acceptRanges), ("unicode/utf8.first", laid_unicode_utf8_first)], narrowed := true }
def TlvActsUptoSaid : Prop := tlvActsUptoRow.holds Tryd.pinned (OpenSpec.upto tlvActsSpec)

/-- 'towlinelaw6.TlvSizes', WHERE WHAT IT READS IS OF BULK AT MOST 1048576: true; the input reads as it did. -/
def tlvSizesUptoRow : OpenClaim := { program := "ytbgimjkaecfjfaadoor", sum := "e957ad547d4f10dc0f6c1aa67acf9014bced6f8e37771b502f8d158004d8e073", func := "towline/towlinelaw6.TlvSizes", spec := "tlvSizes", inPlace := ["internal/abi.NoEscape", "internal/bytealg.MakeNoZero", "internal/bytealg.IndexByteString", "internal/bytealg.IndexString"], unfollowed := true, recurses := true, named := ["unicode/utf8.first", "unicode/utf8.acceptRanges", "internal/bytealg.MaxLen"], apart := false, laid := [("unicode/utf8.acceptRanges", laid_unicode_utf8_acceptRanges), ("unicode/utf8.first", laid_unicode_utf8_first)], narrowed := true }
def TlvSizesUptoSaid : Prop := tlvSizesUptoRow.holds Tryd.pinned (OpenSpec.upto tlvSizesSpec)

/-- 'towlinelaw6.TlvBuilds', WHERE WHAT IT READS IS OF BULK AT MOST 1048576: true; the input reads as it did. -/
def tlvBuildsUptoRow : OpenClaim := { program := "ytbgimjkaecfjfaadoor", sum := "e957ad547d4f10dc0f6c1aa67acf9014bced6f8e37771b502f8d158004d8e073", func := "towline/towlinelaw6.TlvBuilds", spec := "tlvBuilds", inPlace := ["internal/abi.NoEscape", "internal/bytealg.MakeNoZero", "internal/bytealg.IndexByteString", "internal/bytealg.IndexString"], unfollowed := true, recurses := true, named := ["unicode/utf8.first", "unicode/utf8.acceptRanges", "internal/bytealg.MaxLen"], apart := false, laid := [("unicode/utf8.acceptRanges", laid_unicode_utf8_acceptRanges), ("unicode/utf8.first", laid_unicode_utf8_first)], narrowed := true }
def TlvBuildsUptoSaid : Prop := tlvBuildsUptoRow.holds Tryd.pinned (OpenSpec.upto tlvBuildsSpec)

end Rows
end Go.Proofs.YtbgimjkaecfjfaaDoor
