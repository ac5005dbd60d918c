/-
  DERIVED. GIVEN WITH THE SEED: THE CARDS: each row of YtbojiemjgiacbaaDoorRows.lean that lists a variable, with what it lists TIED to the program's text (the seventh form; the later family's looks); each row that meets fmt, with fmt's text TOLD by the authors' own Lean function (tested against real Go, not proved from fmt's source: count such statements apart). THE CARD IS WHAT COUNTS. Prove the row's statement (the work); the ties are given (YtbojiemjgiacbaaDoorTie.lean); close each card by the builder's one call (the guide's Derived/Test/ToyasCard.lean, 'card_holds'). Laid BY PROGRAM, IN A SANDBOX (cutbox-door.mjs). By AI agents, Wed Nov 11 2026. No macro, syntax, notation, axiom, sorry.
-/
import Derived.Test.YtbojiemjgiacbaaDoorRows
import GoSem.ClaimSeven
namespace Go.Proofs.YtbojiemjgiacbaaDoor
namespace Rows

/-- THE TIED CARD OF 'towlinelaw7.ChunkAgain'. -/
def chunkAgainCard : Claim7 := { stood := { row := chunkAgainRow, standIns := [], harness := (true, "bf8c1dc904aa6e31b7855bad8851ee988820f66d6329b60e4a233e1be44abc2a"), looks := false }, kinds := [], alts := [], laidByText := true, laidKinds := [.data, .pinned], laidTests := true, laidLooks := .later }
def ChunkAgainCardSaid : Prop := Claim7.holds Tryd.pinned (.plain (OpenSpec.ofChange chunkAgainSpec)) chunkAgainCard

/-- THE TIED CARD OF 'towlinelaw7.ChunkRows'. -/
def chunkRowsCard : Claim7 := { stood := { row := chunkRowsRow, standIns := [], harness := (true, "bf8c1dc904aa6e31b7855bad8851ee988820f66d6329b60e4a233e1be44abc2a"), looks := false }, kinds := [], alts := [], laidByText := true, laidKinds := [.data, .pinned], laidTests := true, laidLooks := .later }
def ChunkRowsCardSaid : Prop := Claim7.holds Tryd.pinned (.plain (OpenSpec.ofChange chunkRowsSpec)) chunkRowsCard

/-- THE TIED CARD OF 'towlinelaw7.ChunkHeads'. -/
def chunkHeadsCard : Claim7 := { stood := { row := chunkHeadsRow, standIns := [], harness := (true, "bf8c1dc904aa6e31b7855bad8851ee988820f66d6329b60e4a233e1be44abc2a"), looks := false }, kinds := [], alts := [], laidByText := true, laidKinds := [.data, .pinned], laidTests := true, laidLooks := .later }
def ChunkHeadsCardSaid : Prop := Claim7.holds Tryd.pinned (.plain (OpenSpec.ofChange chunkHeadsSpec)) chunkHeadsCard

/-- THE TIED CARD OF 'towlinelaw7.ChunkBuilds'. -/
def chunkBuildsCard : Claim7 := { stood := { row := chunkBuildsRow, standIns := [], harness := (true, "bf8c1dc904aa6e31b7855bad8851ee988820f66d6329b60e4a233e1be44abc2a"), looks := false }, kinds := [], alts := [], laidByText := true, laidKinds := [.data, .pinned], laidTests := true, laidLooks := .later }
def ChunkBuildsCardSaid : Prop := Claim7.holds Tryd.pinned (.plain (OpenSpec.ofChange chunkBuildsSpec)) chunkBuildsCard

/-- THE TIED CARD OF 'towlinelaw7.ChunkBack'. -/
def chunkBackCard : Claim7 := { stood := { row := chunkBackRow, standIns := [], harness := (true, "bf8c1dc904aa6e31b7855bad8851ee988820f66d6329b60e4a233e1be44abc2a"), looks := false }, kinds := [], alts := [], laidByText := true, laidKinds := [.data, .pinned], laidTests := true, laidLooks := .later }
def ChunkBackCardSaid : Prop := Claim7.holds Tryd.pinned (.plain (OpenSpec.ofChange chunkBackSpec)) chunkBackCard

/-- THE SECOND FORM's CARD OF 'towlinelaw7.ChunkAgain'. -/
def chunkAgainUptoCard : Claim7 := { stood := { row := chunkAgainUptoRow, standIns := [], harness := (true, "bf8c1dc904aa6e31b7855bad8851ee988820f66d6329b60e4a233e1be44abc2a"), looks := false }, kinds := [], alts := [], laidByText := true, laidKinds := [.data, .pinned], laidTests := true, laidLooks := .later }
def ChunkAgainUptoCardSaid : Prop := Claim7.holds Tryd.pinned (.plain (OpenSpec.upto chunkAgainSpec)) chunkAgainUptoCard

/-- THE SECOND FORM's CARD OF 'towlinelaw7.ChunkRows'. -/
def chunkRowsUptoCard : Claim7 := { stood := { row := chunkRowsUptoRow, standIns := [], harness := (true, "bf8c1dc904aa6e31b7855bad8851ee988820f66d6329b60e4a233e1be44abc2a"), looks := false }, kinds := [], alts := [], laidByText := true, laidKinds := [.data, .pinned], laidTests := true, laidLooks := .later }
def ChunkRowsUptoCardSaid : Prop := Claim7.holds Tryd.pinned (.plain (OpenSpec.upto chunkRowsSpec)) chunkRowsUptoCard

/-- THE SECOND FORM's CARD OF 'towlinelaw7.ChunkHeads'. -/
def chunkHeadsUptoCard : Claim7 := { stood := { row := chunkHeadsUptoRow, standIns := [], harness := (true, "bf8c1dc904aa6e31b7855bad8851ee988820f66d6329b60e4a233e1be44abc2a"), looks := false }, kinds := [], alts := [], laidByText := true, laidKinds := [.data, .pinned], laidTests := true, laidLooks := .later }
def ChunkHeadsUptoCardSaid : Prop := Claim7.holds Tryd.pinned (.plain (OpenSpec.upto chunkHeadsSpec)) chunkHeadsUptoCard

/-- THE SECOND FORM's CARD OF 'towlinelaw7.ChunkBuilds'. -/
def chunkBuildsUptoCard : Claim7 := { stood := { row := chunkBuildsUptoRow, standIns := [], harness := (true, "bf8c1dc904aa6e31b7855bad8851ee988820f66d6329b60e4a233e1be44abc2a"), looks := false }, kinds := [], alts := [], laidByText := true, laidKinds := [.data, .pinned], laidTests := true, laidLooks := .later }
def ChunkBuildsUptoCardSaid : Prop := Claim7.holds Tryd.pinned (.plain (OpenSpec.upto chunkBuildsSpec)) chunkBuildsUptoCard

/-- THE SECOND FORM's CARD OF 'towlinelaw7.ChunkBack'. -/
def chunkBackUptoCard : Claim7 := { stood := { row := chunkBackUptoRow, standIns := [], harness := (true, "bf8c1dc904aa6e31b7855bad8851ee988820f66d6329b60e4a233e1be44abc2a"), looks := false }, kinds := [], alts := [], laidByText := true, laidKinds := [.data, .pinned], laidTests := true, laidLooks := .later }
def ChunkBackUptoCardSaid : Prop := Claim7.holds Tryd.pinned (.plain (OpenSpec.upto chunkBackSpec)) chunkBackUptoCard
end Rows
end Go.Proofs.YtbojiemjgiacbaaDoor
