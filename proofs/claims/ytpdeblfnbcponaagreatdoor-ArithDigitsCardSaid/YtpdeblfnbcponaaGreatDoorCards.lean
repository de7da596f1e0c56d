/-
  DERIVED. GIVEN WITH THE SEED: THE CARDS: each row of YtpdeblfnbcponaaGreatDoorRows.lean that lists a variable, with what it lists TIED to the program's text (the seventh form; the later family's looks); each row that meets fmt, with fmt's text TOLD by the authors' own Lean function (tested against real Go, not proved from fmt's source: count such statements apart). THE CARD IS WHAT COUNTS. Prove the row's statement (the work); the ties are given (YtpdeblfnbcponaaGreatDoorTie.lean); close each card by the builder's one call (the guide's Derived/Test/ToyasCard.lean, 'card_holds'). Laid BY PROGRAM, IN A SANDBOX (cutbox-door.mjs). By AI agents, Wed Nov 11 2026. No macro, syntax, notation, axiom, sorry.
-/
import Derived.Test.YtpdeblfnbcponaaGreatDoorRows
import GoSem.ClaimSeven
namespace Go.Proofs.YtpdeblfnbcponaaGreatDoor
namespace Rows

/-- THE TIED CARD OF 'chiasmuslaw08.ArithDigits'. -/
def arithDigitsCard : Claim7 := { stood := { row := arithDigitsRow, standIns := [], harness := (true, "f3edda2163d09885a669d18095ea405b3133c7ebf5ef4cdbdde536e6c87b8b5c"), looks := true }, kinds := [], alts := [], laidByText := true, laidKinds := [.data, .data, .data, .data, .sentinel, .sentinel, .pinned], laidTests := true, laidLooks := .later }
def ArithDigitsCardSaid : Prop := Claim7.holds Tryz.pinned (.plain (OpenSpec.ofChange arithDigitsSpec)) arithDigitsCard

/-- THE SECOND FORM's CARD OF 'chiasmuslaw08.ArithDigits'. -/
def arithDigitsUptoCard : Claim7 := { stood := { row := arithDigitsUptoRow, standIns := [], harness := (true, "f3edda2163d09885a669d18095ea405b3133c7ebf5ef4cdbdde536e6c87b8b5c"), looks := true }, kinds := [], alts := [], laidByText := true, laidKinds := [.data, .data, .data, .data, .sentinel, .sentinel, .pinned], laidTests := true, laidLooks := .later }
def ArithDigitsUptoCardSaid : Prop := Claim7.holds Tryz.pinned (.plain (OpenSpec.upto arithDigitsSpec)) arithDigitsUptoCard
end Rows
end Go.Proofs.YtpdeblfnbcponaaGreatDoor
