/-
  DERIVED. GIVEN WITH THE SEED: THE CARDS: each row of YtmdpjeaiiohbdaaGreatDoorRows.lean that lists a variable, with what it lists TIED to the program's text (the seventh form; the later family's looks); each row that meets fmt, with fmt's text TOLD by the authors' own Lean function (tested against real Go, not proved from fmt's source: count such statements apart). THE CARD IS WHAT COUNTS. Prove the row's statement (the work); the ties are given (YtmdpjeaiiohbdaaGreatDoorTie.lean); close each card by the builder's one call (the guide's Derived/Test/ToyasCard.lean, 'card_holds'). Laid BY PROGRAM, IN A SANDBOX (cutbox-door.mjs). By AI agents, Wed Nov 11 2026. No macro, syntax, notation, axiom, sorry.
-/
import Derived.Test.YtmdpjeaiiohbdaaGreatDoorRows
import GoSem.ClaimSeven
namespace Go.Proofs.YtmdpjeaiiohbdaaGreatDoor
namespace Rows

/-- THE TIED CARD OF 'pangramlaw24.RenderCarets'. -/
def renderCaretsCard : Claim7 := { stood := { row := renderCaretsRow, standIns := [], harness := (true, "5ee60713f91b07cb56eb503d443ca87409fb7a86eaa44b393293c1b690b64a9c"), looks := true }, kinds := [], alts := [], laidByText := true, laidKinds := [.data, .data, .data, .data, .sentinel, .sentinel, .listed, .data, .data, .pinned], laidTests := true, laidLooks := .later }
def RenderCaretsCardSaid : Prop := Claim7.holds Tryz.pinned (.plain (OpenSpec.ofChange renderCaretsSpec)) renderCaretsCard

/-- THE SECOND FORM's CARD OF 'pangramlaw24.RenderCarets'. -/
def renderCaretsUptoCard : Claim7 := { stood := { row := renderCaretsUptoRow, standIns := [], harness := (true, "5ee60713f91b07cb56eb503d443ca87409fb7a86eaa44b393293c1b690b64a9c"), looks := true }, kinds := [], alts := [], laidByText := true, laidKinds := [.data, .data, .data, .data, .sentinel, .sentinel, .listed, .data, .data, .pinned], laidTests := true, laidLooks := .later }
def RenderCaretsUptoCardSaid : Prop := Claim7.holds Tryz.pinned (.plain (OpenSpec.upto renderCaretsSpec)) renderCaretsUptoCard
end Rows
end Go.Proofs.YtmdpjeaiiohbdaaGreatDoor
