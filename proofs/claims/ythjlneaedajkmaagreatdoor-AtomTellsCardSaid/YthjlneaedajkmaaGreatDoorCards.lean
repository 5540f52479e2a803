/-
  DERIVED. GIVEN WITH THE SEED: THE CARDS: each row of YthjlneaedajkmaaGreatDoorRows.lean that lists a variable, with what it lists TIED to the program's text (the seventh form; the later family's looks); each row that meets fmt, with fmt's text TOLD by the authors' own Lean function (tested against real Go, not proved from fmt's source: count such statements apart). THE CARD IS WHAT COUNTS. Prove the row's statement (the work); the ties are given (YthjlneaedajkmaaGreatDoorTie.lean); close each card by the builder's one call (the guide's Derived/Test/ToyasCard.lean, 'card_holds'). Laid BY PROGRAM, IN A SANDBOX (cutbox-door.mjs). By AI agents, Wed Nov 11 2026. No macro, syntax, notation, axiom, sorry.
-/
import Derived.Test.YthjlneaedajkmaaGreatDoorRows
import GoSem.ClaimSeven
namespace Go.Proofs.YthjlneaedajkmaaGreatDoor
namespace Rows

/-- THE TIED CARD OF 'gutterlaw13.AtomOrders'. -/
def atomOrdersCard : Claim7 := { stood := { row := atomOrdersRow, standIns := [], harness := (true, "2b5a826694c8403726d75a76cafbf6d7b0ef8e88efe07a43317c45f695c06524"), looks := true }, kinds := [], alts := [], laidByText := true, laidKinds := [.handle, .sentinel, .sentinel, .sentinel, .sentinel, .sentinel, .sentinel, .sentinel, .sentinel], laidTests := true, laidLooks := .later }
def AtomOrdersCardSaid : Prop := Claim7.holds Tryz.pinned (.plain (OpenSpec.ofChange atomOrdersSpec)) atomOrdersCard

/-- THE TIED CARD OF 'gutterlaw13.AtomTells'. -/
def atomTellsCard : Claim7 := { stood := { row := atomTellsRow, standIns := [], harness := (true, "2b5a826694c8403726d75a76cafbf6d7b0ef8e88efe07a43317c45f695c06524"), looks := true }, kinds := [], alts := [], laidByText := true, laidKinds := [.handle, .sentinel, .sentinel, .sentinel, .sentinel, .sentinel, .sentinel, .sentinel, .sentinel], laidTests := true, laidLooks := .later }
def AtomTellsCardSaid : Prop := Claim7.holds Tryz.pinned (.plain (OpenSpec.ofChange atomTellsSpec)) atomTellsCard

/-- THE SECOND FORM's CARD OF 'gutterlaw13.AtomOrders'. -/
def atomOrdersUptoCard : Claim7 := { stood := { row := atomOrdersUptoRow, standIns := [], harness := (true, "2b5a826694c8403726d75a76cafbf6d7b0ef8e88efe07a43317c45f695c06524"), looks := true }, kinds := [], alts := [], laidByText := true, laidKinds := [.handle, .sentinel, .sentinel, .sentinel, .sentinel, .sentinel, .sentinel, .sentinel, .sentinel], laidTests := true, laidLooks := .later }
def AtomOrdersUptoCardSaid : Prop := Claim7.holds Tryz.pinned (.plain (OpenSpec.upto atomOrdersSpec)) atomOrdersUptoCard

/-- THE SECOND FORM's CARD OF 'gutterlaw13.AtomTells'. -/
def atomTellsUptoCard : Claim7 := { stood := { row := atomTellsUptoRow, standIns := [], harness := (true, "2b5a826694c8403726d75a76cafbf6d7b0ef8e88efe07a43317c45f695c06524"), looks := true }, kinds := [], alts := [], laidByText := true, laidKinds := [.handle, .sentinel, .sentinel, .sentinel, .sentinel, .sentinel, .sentinel, .sentinel, .sentinel], laidTests := true, laidLooks := .later }
def AtomTellsUptoCardSaid : Prop := Claim7.holds Tryz.pinned (.plain (OpenSpec.upto atomTellsSpec)) atomTellsUptoCard
end Rows
end Go.Proofs.YthjlneaedajkmaaGreatDoor
