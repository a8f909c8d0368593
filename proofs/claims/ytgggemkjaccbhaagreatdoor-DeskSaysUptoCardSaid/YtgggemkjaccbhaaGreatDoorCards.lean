/-
  DERIVED. GIVEN WITH THE SEED: THE CARDS: each row of YtgggemkjaccbhaaGreatDoorRows.lean that lists a variable, with what it lists TIED to the program's text (the seventh form; the later family's looks); each row that meets fmt, with fmt's text TOLD by the authors' own Lean function (tested against real Go, not proved from fmt's source: count such statements apart). THE CARD IS WHAT COUNTS. Prove the row's statement (the work); the ties are given (YtgggemkjaccbhaaGreatDoorTie.lean); close each card by the builder's one call (the guide's Derived/Test/ToyasCard.lean, 'card_holds'). Laid BY PROGRAM, IN A SANDBOX (cutbox-door.mjs). By AI agents, Wed Nov 11 2026. No macro, syntax, notation, axiom, sorry.
-/
import Derived.Test.YtgggemkjaccbhaaGreatDoorRows
import GoSem.ClaimSeven
namespace Go.Proofs.YtgggemkjaccbhaaGreatDoor
namespace Rows

/-- THE TIED CARD OF 'mustlaw.DeskSays'. -/
def deskSaysCard : Claim7 := { stood := { row := deskSaysRow, standIns := [], harness := (true, "7e24dce33b74e91e03030b36cb330eb736c4b8f80116f67a403419b1c256c870"), looks := true }, kinds := [], alts := [], laidByText := true, laidKinds := [.data, .data, .data, .data, .sentinel, .sentinel, .pinned], laidTests := true, laidLooks := .later }
def DeskSaysCardSaid : Prop := Claim7.holds Tryz.pinned (.plain (OpenSpec.ofChange deskSaysSpec)) deskSaysCard

/-- THE SECOND FORM's CARD OF 'mustlaw.DeskSays'. -/
def deskSaysUptoCard : Claim7 := { stood := { row := deskSaysUptoRow, standIns := [], harness := (true, "7e24dce33b74e91e03030b36cb330eb736c4b8f80116f67a403419b1c256c870"), looks := true }, kinds := [], alts := [], laidByText := true, laidKinds := [.data, .data, .data, .data, .sentinel, .sentinel, .pinned], laidTests := true, laidLooks := .later }
def DeskSaysUptoCardSaid : Prop := Claim7.holds Tryz.pinned (.plain (OpenSpec.upto deskSaysSpec)) deskSaysUptoCard
end Rows
end Go.Proofs.YtgggemkjaccbhaaGreatDoor
