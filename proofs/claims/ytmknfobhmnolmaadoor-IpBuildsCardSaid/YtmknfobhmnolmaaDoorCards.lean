/-
  DERIVED. GIVEN WITH THE SEED: THE CARDS: each row of YtmknfobhmnolmaaDoorRows.lean that lists a variable, with what it lists TIED to the program's text (the seventh form; the later family's looks); each row that meets fmt, with fmt's text TOLD by the authors' own Lean function (tested against real Go, not proved from fmt's source: count such statements apart). THE CARD IS WHAT COUNTS. Prove the row's statement (the work); the ties are given (YtmknfobhmnolmaaDoorTie.lean); close each card by the builder's one call (the guide's Derived/Test/ToyasCard.lean, 'card_holds'). Laid BY PROGRAM, IN A SANDBOX (cutbox-door.mjs). By AI agents, Wed Nov 11 2026. No macro, syntax, notation, axiom, sorry.
-/
import Derived.Test.YtmknfobhmnolmaaDoorRows
import GoSem.ClaimSeven
namespace Go.Proofs.YtmknfobhmnolmaaDoor
namespace Rows

/-- THE TIED CARD OF 'towlinelaw5.IpSums'. -/
def ipSumsCard : Claim7 := { stood := { row := ipSumsRow, standIns := [], harness := (true, "6c9765cc99cfa9376346609ade4277e15888899388ab7f7d5940357c972f3f72"), looks := false }, kinds := [], alts := [], laidByText := true, laidKinds := [.data, .data, .data], laidTests := true, laidLooks := .later }
def IpSumsCardSaid : Prop := Claim7.holds Tryd.pinned (.plain (OpenSpec.ofChange ipSumsSpec)) ipSumsCard

/-- THE TIED CARD OF 'towlinelaw5.IpBuilds'. -/
def ipBuildsCard : Claim7 := { stood := { row := ipBuildsRow, standIns := [], harness := (true, "6c9765cc99cfa9376346609ade4277e15888899388ab7f7d5940357c972f3f72"), looks := false }, kinds := [], alts := [], laidByText := true, laidKinds := [.data, .data, .data], laidTests := true, laidLooks := .later }
def IpBuildsCardSaid : Prop := Claim7.holds Tryd.pinned (.plain (OpenSpec.ofChange ipBuildsSpec)) ipBuildsCard

/-- THE TIED CARD OF 'towlinelaw5.IpBack'. -/
def ipBackCard : Claim7 := { stood := { row := ipBackRow, standIns := [], harness := (true, "6c9765cc99cfa9376346609ade4277e15888899388ab7f7d5940357c972f3f72"), looks := false }, kinds := [], alts := [], laidByText := true, laidKinds := [.data, .data, .data], laidTests := true, laidLooks := .later }
def IpBackCardSaid : Prop := Claim7.holds Tryd.pinned (.plain (OpenSpec.ofChange ipBackSpec)) ipBackCard

/-- THE TIED CARD OF 'towlinelaw5.IpTurns'. -/
def ipTurnsCard : Claim7 := { stood := { row := ipTurnsRow, standIns := [], harness := (true, "6c9765cc99cfa9376346609ade4277e15888899388ab7f7d5940357c972f3f72"), looks := false }, kinds := [], alts := [], laidByText := true, laidKinds := [.data, .data, .data], laidTests := true, laidLooks := .later }
def IpTurnsCardSaid : Prop := Claim7.holds Tryd.pinned (.plain (OpenSpec.ofChange ipTurnsSpec)) ipTurnsCard

/-- THE SECOND FORM's CARD OF 'towlinelaw5.IpSums'. -/
def ipSumsUptoCard : Claim7 := { stood := { row := ipSumsUptoRow, standIns := [], harness := (true, "6c9765cc99cfa9376346609ade4277e15888899388ab7f7d5940357c972f3f72"), looks := false }, kinds := [], alts := [], laidByText := true, laidKinds := [.data, .data, .data], laidTests := true, laidLooks := .later }
def IpSumsUptoCardSaid : Prop := Claim7.holds Tryd.pinned (.plain (OpenSpec.upto ipSumsSpec)) ipSumsUptoCard

/-- THE SECOND FORM's CARD OF 'towlinelaw5.IpBuilds'. -/
def ipBuildsUptoCard : Claim7 := { stood := { row := ipBuildsUptoRow, standIns := [], harness := (true, "6c9765cc99cfa9376346609ade4277e15888899388ab7f7d5940357c972f3f72"), looks := false }, kinds := [], alts := [], laidByText := true, laidKinds := [.data, .data, .data], laidTests := true, laidLooks := .later }
def IpBuildsUptoCardSaid : Prop := Claim7.holds Tryd.pinned (.plain (OpenSpec.upto ipBuildsSpec)) ipBuildsUptoCard

/-- THE SECOND FORM's CARD OF 'towlinelaw5.IpBack'. -/
def ipBackUptoCard : Claim7 := { stood := { row := ipBackUptoRow, standIns := [], harness := (true, "6c9765cc99cfa9376346609ade4277e15888899388ab7f7d5940357c972f3f72"), looks := false }, kinds := [], alts := [], laidByText := true, laidKinds := [.data, .data, .data], laidTests := true, laidLooks := .later }
def IpBackUptoCardSaid : Prop := Claim7.holds Tryd.pinned (.plain (OpenSpec.upto ipBackSpec)) ipBackUptoCard

/-- THE SECOND FORM's CARD OF 'towlinelaw5.IpTurns'. -/
def ipTurnsUptoCard : Claim7 := { stood := { row := ipTurnsUptoRow, standIns := [], harness := (true, "6c9765cc99cfa9376346609ade4277e15888899388ab7f7d5940357c972f3f72"), looks := false }, kinds := [], alts := [], laidByText := true, laidKinds := [.data, .data, .data], laidTests := true, laidLooks := .later }
def IpTurnsUptoCardSaid : Prop := Claim7.holds Tryd.pinned (.plain (OpenSpec.upto ipTurnsSpec)) ipTurnsUptoCard
end Rows
end Go.Proofs.YtmknfobhmnolmaaDoor
