/-
  DERIVED. GIVEN WITH THE SEED: THE CARDS: each row of YtkfdhmeipnfhpaaGreatDoorRows.lean that lists a variable, with what it lists TIED to the program's text (the seventh form; the later family's looks); each row that meets fmt, with fmt's text TOLD by the authors' own Lean function (tested against real Go, not proved from fmt's source: count such statements apart). THE CARD IS WHAT COUNTS. Prove the row's statement (the work); the ties are given (YtkfdhmeipnfhpaaGreatDoorTie.lean); close each card by the builder's one call (the guide's Derived/Test/ToyasCard.lean, 'card_holds'). Laid BY PROGRAM, IN A SANDBOX (cutbox-door.mjs). By AI agents, Wed Nov 11 2026. No macro, syntax, notation, axiom, sorry.
-/
import Derived.Test.YtkfdhmeipnfhpaaGreatDoorRows
import GoSem.ClaimSeven
namespace Go.Proofs.YtkfdhmeipnfhpaaGreatDoor
namespace Rows

/-- THE TIED CARD OF 'pangramlaw24.RenderLines'. -/
def renderLinesCard : Claim7 := { stood := { row := renderLinesRow, standIns := [], harness := (true, "82f6830715ab3f8846a0a1d7be643b96d2e7808e1fa8df043f4f94549acbe141"), looks := true }, kinds := [], alts := [], laidByText := true, laidKinds := [.data, .data, .data, .data, .sentinel, .sentinel, .listed, .data, .data, .pinned], laidTests := true, laidLooks := .later }
def RenderLinesCardSaid : Prop := Claim7.holds Tryz.pinned (.plain (OpenSpec.ofChange renderLinesSpec)) renderLinesCard

/-- THE SECOND FORM's CARD OF 'pangramlaw24.RenderLines'. -/
def renderLinesUptoCard : Claim7 := { stood := { row := renderLinesUptoRow, standIns := [], harness := (true, "82f6830715ab3f8846a0a1d7be643b96d2e7808e1fa8df043f4f94549acbe141"), looks := true }, kinds := [], alts := [], laidByText := true, laidKinds := [.data, .data, .data, .data, .sentinel, .sentinel, .listed, .data, .data, .pinned], laidTests := true, laidLooks := .later }
def RenderLinesUptoCardSaid : Prop := Claim7.holds Tryz.pinned (.plain (OpenSpec.upto renderLinesSpec)) renderLinesUptoCard
end Rows
end Go.Proofs.YtkfdhmeipnfhpaaGreatDoor
