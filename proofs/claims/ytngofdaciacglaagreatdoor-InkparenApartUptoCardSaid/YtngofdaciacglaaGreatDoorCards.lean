/-
  DERIVED. GIVEN WITH THE SEED: THE CARDS: each row of YtngofdaciacglaaGreatDoorRows.lean that lists a variable, with what it lists TIED to the program's text (the seventh form; the later family's looks); each row that meets fmt, with fmt's text TOLD by the authors' own Lean function (tested against real Go, not proved from fmt's source: count such statements apart). THE CARD IS WHAT COUNTS. Prove the row's statement (the work); the ties are given (YtngofdaciacglaaGreatDoorTie.lean); close each card by the builder's one call (the guide's Derived/Test/ToyasCard.lean, 'card_holds'). Laid BY PROGRAM, IN A SANDBOX (cutbox-door.mjs). By AI agents, Wed Nov 11 2026. No macro, syntax, notation, axiom, sorry.
-/
import Derived.Test.YtngofdaciacglaaGreatDoorRows
import GoSem.ClaimSeven
namespace Go.Proofs.YtngofdaciacglaaGreatDoor
namespace Rows

/-- THE TIED CARD OF 'hexaplalaw17.InkparenPrints'. -/
def inkparenPrintsCard : Claim7 := { stood := { row := inkparenPrintsRow, standIns := [], harness := (true, "265250b109f0020b88c74004bf23345093087b5fbb566d9d595a656708bd9986"), looks := true }, kinds := [], alts := [], laidByText := true, laidKinds := [.data, .data, .data, .data, .sentinel, .sentinel, .pinned, .pinned], laidTests := true, laidLooks := .later }
def InkparenPrintsCardSaid : Prop := Claim7.holds Tryz.pinned (.plain (OpenSpec.ofChange inkparenPrintsSpec)) inkparenPrintsCard

/-- THE TIED CARD OF 'hexaplalaw17.InkparenApart'. -/
def inkparenApartCard : Claim7 := { stood := { row := inkparenApartRow, standIns := [], harness := (true, "265250b109f0020b88c74004bf23345093087b5fbb566d9d595a656708bd9986"), looks := true }, kinds := [], alts := [], laidByText := true, laidKinds := [.data, .data, .data, .data, .sentinel, .sentinel, .pinned, .pinned], laidTests := true, laidLooks := .later }
def InkparenApartCardSaid : Prop := Claim7.holds Tryz.pinned (.plain (OpenSpec.ofChange inkparenApartSpec)) inkparenApartCard

/-- THE TIED CARD OF 'hexaplalaw17.InkparenStays'. -/
def inkparenStaysCard : Claim7 := { stood := { row := inkparenStaysRow, standIns := [], harness := (true, "265250b109f0020b88c74004bf23345093087b5fbb566d9d595a656708bd9986"), looks := true }, kinds := [], alts := [], laidByText := true, laidKinds := [.data, .data, .data, .data, .sentinel, .sentinel, .pinned, .pinned], laidTests := true, laidLooks := .later }
def InkparenStaysCardSaid : Prop := Claim7.holds Tryz.pinned (.plain (OpenSpec.ofChange inkparenStaysSpec)) inkparenStaysCard

/-- THE SECOND FORM's CARD OF 'hexaplalaw17.InkparenPrints'. -/
def inkparenPrintsUptoCard : Claim7 := { stood := { row := inkparenPrintsUptoRow, standIns := [], harness := (true, "265250b109f0020b88c74004bf23345093087b5fbb566d9d595a656708bd9986"), looks := true }, kinds := [], alts := [], laidByText := true, laidKinds := [.data, .data, .data, .data, .sentinel, .sentinel, .pinned, .pinned], laidTests := true, laidLooks := .later }
def InkparenPrintsUptoCardSaid : Prop := Claim7.holds Tryz.pinned (.plain (OpenSpec.upto inkparenPrintsSpec)) inkparenPrintsUptoCard

/-- THE SECOND FORM's CARD OF 'hexaplalaw17.InkparenApart'. -/
def inkparenApartUptoCard : Claim7 := { stood := { row := inkparenApartUptoRow, standIns := [], harness := (true, "265250b109f0020b88c74004bf23345093087b5fbb566d9d595a656708bd9986"), looks := true }, kinds := [], alts := [], laidByText := true, laidKinds := [.data, .data, .data, .data, .sentinel, .sentinel, .pinned, .pinned], laidTests := true, laidLooks := .later }
def InkparenApartUptoCardSaid : Prop := Claim7.holds Tryz.pinned (.plain (OpenSpec.upto inkparenApartSpec)) inkparenApartUptoCard

/-- THE SECOND FORM's CARD OF 'hexaplalaw17.InkparenStays'. -/
def inkparenStaysUptoCard : Claim7 := { stood := { row := inkparenStaysUptoRow, standIns := [], harness := (true, "265250b109f0020b88c74004bf23345093087b5fbb566d9d595a656708bd9986"), looks := true }, kinds := [], alts := [], laidByText := true, laidKinds := [.data, .data, .data, .data, .sentinel, .sentinel, .pinned, .pinned], laidTests := true, laidLooks := .later }
def InkparenStaysUptoCardSaid : Prop := Claim7.holds Tryz.pinned (.plain (OpenSpec.upto inkparenStaysSpec)) inkparenStaysUptoCard
end Rows
end Go.Proofs.YtngofdaciacglaaGreatDoor
