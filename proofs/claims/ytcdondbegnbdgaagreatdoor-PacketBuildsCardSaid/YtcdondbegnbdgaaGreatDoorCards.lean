/-
  DERIVED. GIVEN WITH THE SEED: THE CARDS: each row of YtcdondbegnbdgaaGreatDoorRows.lean that lists a variable, with what it lists TIED to the program's text (the seventh form; the later family's looks); each row that meets fmt, with fmt's text TOLD by the authors' own Lean function (tested against real Go, not proved from fmt's source: count such statements apart). THE CARD IS WHAT COUNTS. Prove the row's statement (the work); the ties are given (YtcdondbegnbdgaaGreatDoorTie.lean); close each card by the builder's one call (the guide's Derived/Test/ToyasCard.lean, 'card_holds'). Laid BY PROGRAM, IN A SANDBOX (cutbox-door.mjs). By AI agents, Wed Nov 11 2026. No macro, syntax, notation, axiom, sorry.
-/
import Derived.Test.YtcdondbegnbdgaaGreatDoorRows
import GoSem.ClaimSeven
namespace Go.Proofs.YtcdondbegnbdgaaGreatDoor
namespace Rows

/-- THE TIED CARD OF 'towlinelaw8.PacketParses'. -/
def packetParsesCard : Claim7 := { stood := { row := packetParsesRow, standIns := [], harness := (true, "9116ae5f0df09f51ae7aafe883200c46e1fcc156dc69a8a634c3ab0dc895e6d1"), looks := false }, kinds := [], alts := [], laidByText := true, laidKinds := [.data, .pinned], laidTests := true, laidLooks := .later }
def PacketParsesCardSaid : Prop := Claim7.holds Tryz.pinned (.plain (OpenSpec.ofChange packetParsesSpec)) packetParsesCard

/-- THE TIED CARD OF 'towlinelaw8.PacketBuilds'. -/
def packetBuildsCard : Claim7 := { stood := { row := packetBuildsRow, standIns := [], harness := (true, "9116ae5f0df09f51ae7aafe883200c46e1fcc156dc69a8a634c3ab0dc895e6d1"), looks := false }, kinds := [], alts := [], laidByText := true, laidKinds := [.data, .pinned], laidTests := true, laidLooks := .later }
def PacketBuildsCardSaid : Prop := Claim7.holds Tryz.pinned (.plain (OpenSpec.ofChange packetBuildsSpec)) packetBuildsCard

/-- THE SECOND FORM's CARD OF 'towlinelaw8.PacketParses'. -/
def packetParsesUptoCard : Claim7 := { stood := { row := packetParsesUptoRow, standIns := [], harness := (true, "9116ae5f0df09f51ae7aafe883200c46e1fcc156dc69a8a634c3ab0dc895e6d1"), looks := false }, kinds := [], alts := [], laidByText := true, laidKinds := [.data, .pinned], laidTests := true, laidLooks := .later }
def PacketParsesUptoCardSaid : Prop := Claim7.holds Tryz.pinned (.plain (OpenSpec.upto packetParsesSpec)) packetParsesUptoCard

/-- THE SECOND FORM's CARD OF 'towlinelaw8.PacketBuilds'. -/
def packetBuildsUptoCard : Claim7 := { stood := { row := packetBuildsUptoRow, standIns := [], harness := (true, "9116ae5f0df09f51ae7aafe883200c46e1fcc156dc69a8a634c3ab0dc895e6d1"), looks := false }, kinds := [], alts := [], laidByText := true, laidKinds := [.data, .pinned], laidTests := true, laidLooks := .later }
def PacketBuildsUptoCardSaid : Prop := Claim7.holds Tryz.pinned (.plain (OpenSpec.upto packetBuildsSpec)) packetBuildsUptoCard
end Rows
end Go.Proofs.YtcdondbegnbdgaaGreatDoor
