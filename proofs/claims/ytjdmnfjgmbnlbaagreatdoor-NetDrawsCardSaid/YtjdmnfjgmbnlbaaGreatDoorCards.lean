/-
  DERIVED. GIVEN WITH THE SEED: THE CARDS: each row of YtjdmnfjgmbnlbaaGreatDoorRows.lean that lists a variable, with what it lists TIED to the program's text (the seventh form; the later family's looks); each row that meets fmt, with fmt's text TOLD by the authors' own Lean function (tested against real Go, not proved from fmt's source: count such statements apart). THE CARD IS WHAT COUNTS. Prove the row's statement (the work); the ties are given (YtjdmnfjgmbnlbaaGreatDoorTie.lean); close each card by the builder's one call (the guide's Derived/Test/ToyasCard.lean, 'card_holds'). Laid BY PROGRAM, IN A SANDBOX (cutbox-door.mjs). By AI agents, Wed Nov 11 2026. No macro, syntax, notation, axiom, sorry.
-/
import Derived.Test.YtjdmnfjgmbnlbaaGreatDoorRows
import GoSem.ClaimSeven
namespace Go.Proofs.YtjdmnfjgmbnlbaaGreatDoor
namespace Rows

/-- THE TIED CARD OF 'towlinelaw21.NetOwners'. -/
def netOwnersCard : Claim7 := { stood := { row := netOwnersRow, standIns := [], harness := (true, "afb3c45fa8ae2ae8eccb5985a837409474033678232fb758807f9337aeb54ee9"), looks := false }, kinds := [], alts := [], laidByText := true, laidKinds := [.data, .data, .data, .data, .pinned], laidTests := true, laidLooks := .later }
def NetOwnersCardSaid : Prop := Claim7.holds Tryz.pinned (.plain (OpenSpec.ofChange netOwnersSpec)) netOwnersCard

/-- THE TIED CARD OF 'towlinelaw21.NetDraws'. -/
def netDrawsCard : Claim7 := { stood := { row := netDrawsRow, standIns := [], harness := (true, "afb3c45fa8ae2ae8eccb5985a837409474033678232fb758807f9337aeb54ee9"), looks := false }, kinds := [], alts := [], laidByText := true, laidKinds := [.data, .data, .data, .data, .pinned], laidTests := true, laidLooks := .later }
def NetDrawsCardSaid : Prop := Claim7.holds Tryz.pinned (.plain (OpenSpec.ofChange netDrawsSpec)) netDrawsCard

/-- THE TIED CARD OF 'towlinelaw21.NetCopies'. -/
def netCopiesCard : Claim7 := { stood := { row := netCopiesRow, standIns := [], harness := (true, "afb3c45fa8ae2ae8eccb5985a837409474033678232fb758807f9337aeb54ee9"), looks := false }, kinds := [], alts := [], laidByText := true, laidKinds := [.data, .data, .data, .data, .pinned], laidTests := true, laidLooks := .later }
def NetCopiesCardSaid : Prop := Claim7.holds Tryz.pinned (.plain (OpenSpec.ofChange netCopiesSpec)) netCopiesCard

/-- THE SECOND FORM's CARD OF 'towlinelaw21.NetOwners'. -/
def netOwnersUptoCard : Claim7 := { stood := { row := netOwnersUptoRow, standIns := [], harness := (true, "afb3c45fa8ae2ae8eccb5985a837409474033678232fb758807f9337aeb54ee9"), looks := false }, kinds := [], alts := [], laidByText := true, laidKinds := [.data, .data, .data, .data, .pinned], laidTests := true, laidLooks := .later }
def NetOwnersUptoCardSaid : Prop := Claim7.holds Tryz.pinned (.plain (OpenSpec.upto netOwnersSpec)) netOwnersUptoCard

/-- THE SECOND FORM's CARD OF 'towlinelaw21.NetDraws'. -/
def netDrawsUptoCard : Claim7 := { stood := { row := netDrawsUptoRow, standIns := [], harness := (true, "afb3c45fa8ae2ae8eccb5985a837409474033678232fb758807f9337aeb54ee9"), looks := false }, kinds := [], alts := [], laidByText := true, laidKinds := [.data, .data, .data, .data, .pinned], laidTests := true, laidLooks := .later }
def NetDrawsUptoCardSaid : Prop := Claim7.holds Tryz.pinned (.plain (OpenSpec.upto netDrawsSpec)) netDrawsUptoCard

/-- THE SECOND FORM's CARD OF 'towlinelaw21.NetCopies'. -/
def netCopiesUptoCard : Claim7 := { stood := { row := netCopiesUptoRow, standIns := [], harness := (true, "afb3c45fa8ae2ae8eccb5985a837409474033678232fb758807f9337aeb54ee9"), looks := false }, kinds := [], alts := [], laidByText := true, laidKinds := [.data, .data, .data, .data, .pinned], laidTests := true, laidLooks := .later }
def NetCopiesUptoCardSaid : Prop := Claim7.holds Tryz.pinned (.plain (OpenSpec.upto netCopiesSpec)) netCopiesUptoCard
end Rows
end Go.Proofs.YtjdmnfjgmbnlbaaGreatDoor
