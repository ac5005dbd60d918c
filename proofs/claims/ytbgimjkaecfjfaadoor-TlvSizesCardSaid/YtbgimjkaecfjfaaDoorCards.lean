/-
  DERIVED. GIVEN WITH THE SEED: THE CARDS: each row of YtbgimjkaecfjfaaDoorRows.lean that lists a variable, with what it lists TIED to the program's text (the seventh form; the later family's looks); each row that meets fmt, with fmt's text TOLD by the authors' own Lean function (tested against real Go, not proved from fmt's source: count such statements apart). THE CARD IS WHAT COUNTS. Prove the row's statement (the work); the ties are given (YtbgimjkaecfjfaaDoorTie.lean); close each card by the builder's one call (the guide's Derived/Test/ToyasCard.lean, 'card_holds'). Laid BY PROGRAM, IN A SANDBOX (cutbox-door.mjs). By AI agents, Wed Nov 11 2026. No macro, syntax, notation, axiom, sorry.
-/
import Derived.Test.YtbgimjkaecfjfaaDoorRows
import GoSem.ClaimSeven
namespace Go.Proofs.YtbgimjkaecfjfaaDoor
namespace Rows

/-- THE TIED CARD OF 'towlinelaw6.TlvParses'. -/
def tlvParsesCard : Claim7 := { stood := { row := tlvParsesRow, standIns := [], harness := (true, "540826e7e60204d44962471216b90f91dfb3880df4f8620c3a7ac1bbbe79b945"), looks := false }, kinds := [], alts := [], laidByText := true, laidKinds := [.data, .pinned], laidTests := true, laidLooks := .later }
def TlvParsesCardSaid : Prop := Claim7.holds Tryd.pinned (.plain (OpenSpec.ofChange tlvParsesSpec)) tlvParsesCard

/-- THE TIED CARD OF 'towlinelaw6.TlvBack'. -/
def tlvBackCard : Claim7 := { stood := { row := tlvBackRow, standIns := [], harness := (true, "540826e7e60204d44962471216b90f91dfb3880df4f8620c3a7ac1bbbe79b945"), looks := false }, kinds := [], alts := [], laidByText := true, laidKinds := [.data, .pinned], laidTests := true, laidLooks := .later }
def TlvBackCardSaid : Prop := Claim7.holds Tryd.pinned (.plain (OpenSpec.ofChange tlvBackSpec)) tlvBackCard

/-- THE TIED CARD OF 'towlinelaw6.TlvJoins'. -/
def tlvJoinsCard : Claim7 := { stood := { row := tlvJoinsRow, standIns := [], harness := (true, "540826e7e60204d44962471216b90f91dfb3880df4f8620c3a7ac1bbbe79b945"), looks := false }, kinds := [], alts := [], laidByText := true, laidKinds := [.data, .pinned], laidTests := true, laidLooks := .later }
def TlvJoinsCardSaid : Prop := Claim7.holds Tryd.pinned (.plain (OpenSpec.ofChange tlvJoinsSpec)) tlvJoinsCard

/-- THE TIED CARD OF 'towlinelaw6.TlvActs'. -/
def tlvActsCard : Claim7 := { stood := { row := tlvActsRow, standIns := [], harness := (true, "540826e7e60204d44962471216b90f91dfb3880df4f8620c3a7ac1bbbe79b945"), looks := false }, kinds := [], alts := [], laidByText := true, laidKinds := [.data, .pinned], laidTests := true, laidLooks := .later }
def TlvActsCardSaid : Prop := Claim7.holds Tryd.pinned (.plain (OpenSpec.ofChange tlvActsSpec)) tlvActsCard

/-- THE TIED CARD OF 'towlinelaw6.TlvSizes'. -/
def tlvSizesCard : Claim7 := { stood := { row := tlvSizesRow, standIns := [], harness := (true, "540826e7e60204d44962471216b90f91dfb3880df4f8620c3a7ac1bbbe79b945"), looks := false }, kinds := [], alts := [], laidByText := true, laidKinds := [.data, .pinned], laidTests := true, laidLooks := .later }
def TlvSizesCardSaid : Prop := Claim7.holds Tryd.pinned (.plain (OpenSpec.ofChange tlvSizesSpec)) tlvSizesCard

/-- THE TIED CARD OF 'towlinelaw6.TlvBuilds'. -/
def tlvBuildsCard : Claim7 := { stood := { row := tlvBuildsRow, standIns := [], harness := (true, "540826e7e60204d44962471216b90f91dfb3880df4f8620c3a7ac1bbbe79b945"), looks := false }, kinds := [], alts := [], laidByText := true, laidKinds := [.data, .pinned], laidTests := true, laidLooks := .later }
def TlvBuildsCardSaid : Prop := Claim7.holds Tryd.pinned (.plain (OpenSpec.ofChange tlvBuildsSpec)) tlvBuildsCard

/-- THE SECOND FORM's CARD OF 'towlinelaw6.TlvParses'. -/
def tlvParsesUptoCard : Claim7 := { stood := { row := tlvParsesUptoRow, standIns := [], harness := (true, "540826e7e60204d44962471216b90f91dfb3880df4f8620c3a7ac1bbbe79b945"), looks := false }, kinds := [], alts := [], laidByText := true, laidKinds := [.data, .pinned], laidTests := true, laidLooks := .later }
def TlvParsesUptoCardSaid : Prop := Claim7.holds Tryd.pinned (.plain (OpenSpec.upto tlvParsesSpec)) tlvParsesUptoCard

/-- THE SECOND FORM's CARD OF 'towlinelaw6.TlvBack'. -/
def tlvBackUptoCard : Claim7 := { stood := { row := tlvBackUptoRow, standIns := [], harness := (true, "540826e7e60204d44962471216b90f91dfb3880df4f8620c3a7ac1bbbe79b945"), looks := false }, kinds := [], alts := [], laidByText := true, laidKinds := [.data, .pinned], laidTests := true, laidLooks := .later }
def TlvBackUptoCardSaid : Prop := Claim7.holds Tryd.pinned (.plain (OpenSpec.upto tlvBackSpec)) tlvBackUptoCard

/-- THE SECOND FORM's CARD OF 'towlinelaw6.TlvJoins'. -/
def tlvJoinsUptoCard : Claim7 := { stood := { row := tlvJoinsUptoRow, standIns := [], harness := (true, "540826e7e60204d44962471216b90f91dfb3880df4f8620c3a7ac1bbbe79b945"), looks := false }, kinds := [], alts := [], laidByText := true, laidKinds := [.data, .pinned], laidTests := true, laidLooks := .later }
def TlvJoinsUptoCardSaid : Prop := Claim7.holds Tryd.pinned (.plain (OpenSpec.upto tlvJoinsSpec)) tlvJoinsUptoCard

/-- THE SECOND FORM's CARD OF 'towlinelaw6.TlvActs'. -/
def tlvActsUptoCard : Claim7 := { stood := { row := tlvActsUptoRow, standIns := [], harness := (true, "540826e7e60204d44962471216b90f91dfb3880df4f8620c3a7ac1bbbe79b945"), looks := false }, kinds := [], alts := [], laidByText := true, laidKinds := [.data, .pinned], laidTests := true, laidLooks := .later }
def TlvActsUptoCardSaid : Prop := Claim7.holds Tryd.pinned (.plain (OpenSpec.upto tlvActsSpec)) tlvActsUptoCard

/-- THE SECOND FORM's CARD OF 'towlinelaw6.TlvSizes'. -/
def tlvSizesUptoCard : Claim7 := { stood := { row := tlvSizesUptoRow, standIns := [], harness := (true, "540826e7e60204d44962471216b90f91dfb3880df4f8620c3a7ac1bbbe79b945"), looks := false }, kinds := [], alts := [], laidByText := true, laidKinds := [.data, .pinned], laidTests := true, laidLooks := .later }
def TlvSizesUptoCardSaid : Prop := Claim7.holds Tryd.pinned (.plain (OpenSpec.upto tlvSizesSpec)) tlvSizesUptoCard

/-- THE SECOND FORM's CARD OF 'towlinelaw6.TlvBuilds'. -/
def tlvBuildsUptoCard : Claim7 := { stood := { row := tlvBuildsUptoRow, standIns := [], harness := (true, "540826e7e60204d44962471216b90f91dfb3880df4f8620c3a7ac1bbbe79b945"), looks := false }, kinds := [], alts := [], laidByText := true, laidKinds := [.data, .pinned], laidTests := true, laidLooks := .later }
def TlvBuildsUptoCardSaid : Prop := Claim7.holds Tryd.pinned (.plain (OpenSpec.upto tlvBuildsSpec)) tlvBuildsUptoCard
end Rows
end Go.Proofs.YtbgimjkaecfjfaaDoor
