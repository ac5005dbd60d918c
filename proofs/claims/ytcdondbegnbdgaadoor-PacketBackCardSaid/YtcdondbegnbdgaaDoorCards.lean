/-
  DERIVED. GIVEN WITH THE SEED: THE CARDS: each row of YtcdondbegnbdgaaDoorRows.lean that lists a variable, with what it lists TIED to the program's text (the seventh form; the later family's looks); each row that meets fmt, with fmt's text TOLD by the authors' own Lean function (tested against real Go, not proved from fmt's source: count such statements apart). THE CARD IS WHAT COUNTS. Prove the row's statement (the work); the ties are given (YtcdondbegnbdgaaDoorTie.lean); close each card by the builder's one call (the guide's Derived/Test/ToyasCard.lean, 'card_holds'). Laid BY PROGRAM, IN A SANDBOX (cutbox-door.mjs). By AI agents, Wed Nov 11 2026. No macro, syntax, notation, axiom, sorry.
-/
import Derived.Test.YtcdondbegnbdgaaDoorRows
import GoSem.ClaimSeven
namespace Go.Proofs.YtcdondbegnbdgaaDoor
namespace Rows

/-- THE TIED CARD OF 'towlinelaw8.PacketSorts'. -/
def packetSortsCard : Claim7 := { stood := { row := packetSortsRow, standIns := [], harness := (true, "f8b7ae3624667aff6b28c62dc2d6223ec91d7045984678a7a8a5d8c1f8bec081"), looks := false }, kinds := [], alts := [], laidByText := true, laidKinds := [.data, .pinned], laidTests := true, laidLooks := .later }
def PacketSortsCardSaid : Prop := Claim7.holds Tryd.pinned (.plain (OpenSpec.ofChange packetSortsSpec)) packetSortsCard

/-- THE TIED CARD OF 'towlinelaw8.PacketBack'. -/
def packetBackCard : Claim7 := { stood := { row := packetBackRow, standIns := [], harness := (true, "f8b7ae3624667aff6b28c62dc2d6223ec91d7045984678a7a8a5d8c1f8bec081"), looks := false }, kinds := [], alts := [], laidByText := true, laidKinds := [.data, .pinned], laidTests := true, laidLooks := .later }
def PacketBackCardSaid : Prop := Claim7.holds Tryd.pinned (.plain (OpenSpec.ofChange packetBackSpec)) packetBackCard

/-- THE TIED CARD OF 'towlinelaw8.PacketHeads'. -/
def packetHeadsCard : Claim7 := { stood := { row := packetHeadsRow, standIns := [], harness := (true, "f8b7ae3624667aff6b28c62dc2d6223ec91d7045984678a7a8a5d8c1f8bec081"), looks := false }, kinds := [], alts := [], laidByText := true, laidKinds := [.data, .pinned], laidTests := true, laidLooks := .later }
def PacketHeadsCardSaid : Prop := Claim7.holds Tryd.pinned (.plain (OpenSpec.ofChange packetHeadsSpec)) packetHeadsCard

/-- THE SECOND FORM's CARD OF 'towlinelaw8.PacketSorts'. -/
def packetSortsUptoCard : Claim7 := { stood := { row := packetSortsUptoRow, standIns := [], harness := (true, "f8b7ae3624667aff6b28c62dc2d6223ec91d7045984678a7a8a5d8c1f8bec081"), looks := false }, kinds := [], alts := [], laidByText := true, laidKinds := [.data, .pinned], laidTests := true, laidLooks := .later }
def PacketSortsUptoCardSaid : Prop := Claim7.holds Tryd.pinned (.plain (OpenSpec.upto packetSortsSpec)) packetSortsUptoCard

/-- THE SECOND FORM's CARD OF 'towlinelaw8.PacketBack'. -/
def packetBackUptoCard : Claim7 := { stood := { row := packetBackUptoRow, standIns := [], harness := (true, "f8b7ae3624667aff6b28c62dc2d6223ec91d7045984678a7a8a5d8c1f8bec081"), looks := false }, kinds := [], alts := [], laidByText := true, laidKinds := [.data, .pinned], laidTests := true, laidLooks := .later }
def PacketBackUptoCardSaid : Prop := Claim7.holds Tryd.pinned (.plain (OpenSpec.upto packetBackSpec)) packetBackUptoCard

/-- THE SECOND FORM's CARD OF 'towlinelaw8.PacketHeads'. -/
def packetHeadsUptoCard : Claim7 := { stood := { row := packetHeadsUptoRow, standIns := [], harness := (true, "f8b7ae3624667aff6b28c62dc2d6223ec91d7045984678a7a8a5d8c1f8bec081"), looks := false }, kinds := [], alts := [], laidByText := true, laidKinds := [.data, .pinned], laidTests := true, laidLooks := .later }
def PacketHeadsUptoCardSaid : Prop := Claim7.holds Tryd.pinned (.plain (OpenSpec.upto packetHeadsSpec)) packetHeadsUptoCard
end Rows
end Go.Proofs.YtcdondbegnbdgaaDoor
