/-
  DERIVED. GIVEN WITH THE SEED: THE CARDS: each row of YthlcafpcndagcaaDoorRows.lean that lists a variable, with what it lists TIED to the program's text (the seventh form; the later family's looks); each row that meets fmt, with fmt's text TOLD by the authors' own Lean function (tested against real Go, not proved from fmt's source: count such statements apart). THE CARD IS WHAT COUNTS. Prove the row's statement (the work); the ties are given (YthlcafpcndagcaaDoorTie.lean); close each card by the builder's one call (the guide's Derived/Test/ToyasCard.lean, 'card_holds'). Laid BY PROGRAM, IN A SANDBOX (cutbox-door.mjs). By AI agents, Wed Nov 11 2026. No macro, syntax, notation, axiom, sorry.
-/
import Derived.Test.YthlcafpcndagcaaDoorRows
import GoSem.ClaimSeven
namespace Go.Proofs.YthlcafpcndagcaaDoor
namespace Rows

/-- THE TIED CARD OF 'mustlaw.FieldSays'. -/
def fieldSaysCard : Claim7 := { stood := { row := fieldSaysRow, standIns := [], harness := (true, "29d5dd55b72b1b902b140abc6d79818e67b8582401929ae65f7ae88ba31eff6f"), looks := false }, kinds := [], alts := [], laidByText := true, laidKinds := [.data, .pinned], laidTests := true, laidLooks := .later }
def FieldSaysCardSaid : Prop := Claim7.holds Tryd.pinned (.plain (OpenSpec.ofChange fieldSaysSpec)) fieldSaysCard

/-- THE SECOND FORM's CARD OF 'mustlaw.FieldSays'. -/
def fieldSaysUptoCard : Claim7 := { stood := { row := fieldSaysUptoRow, standIns := [], harness := (true, "29d5dd55b72b1b902b140abc6d79818e67b8582401929ae65f7ae88ba31eff6f"), looks := false }, kinds := [], alts := [], laidByText := true, laidKinds := [.data, .pinned], laidTests := true, laidLooks := .later }
def FieldSaysUptoCardSaid : Prop := Claim7.holds Tryd.pinned (.plain (OpenSpec.upto fieldSaysSpec)) fieldSaysUptoCard
end Rows
end Go.Proofs.YthlcafpcndagcaaDoor
