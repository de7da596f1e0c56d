/-
  DERIVED. GIVEN WITH THE SEED: THE CARDS: each row of YtpibnnopnhmijaaGreatDoorRows.lean that lists a variable, with what it lists TIED to the program's text (the seventh form; the later family's looks); each row that meets fmt, with fmt's text TOLD by the authors' own Lean function (tested against real Go, not proved from fmt's source: count such statements apart). THE CARD IS WHAT COUNTS. Prove the row's statement (the work); the ties are given (YtpibnnopnhmijaaGreatDoorTie.lean); close each card by the builder's one call (the guide's Derived/Test/ToyasCard.lean, 'card_holds'). Laid BY PROGRAM, IN A SANDBOX (cutbox-door.mjs). By AI agents, Wed Nov 11 2026. No macro, syntax, notation, axiom, sorry.
-/
import Derived.Test.YtpibnnopnhmijaaGreatDoorRows
import GoSem.ClaimSeven
namespace Go.Proofs.YtpibnnopnhmijaaGreatDoor
namespace Rows

/-- THE TIED CARD OF 'chiasmuslaw07.ApplyUses'. -/
def applyUsesCard : Claim7 := { stood := { row := applyUsesRow, standIns := [], harness := (true, "c90fb33369425541134b780089989d5ce05c3eefc667a3eb9621a98fac4d68fb"), looks := true }, kinds := [], alts := [], laidByText := true, laidKinds := [.data, .data, .data], laidTests := true, laidLooks := .later }
def ApplyUsesCardSaid : Prop := Claim7.holds Tryz.pinned (.plain (OpenSpec.ofChange applyUsesSpec)) applyUsesCard

/-- THE TIED CARD OF 'chiasmuslaw07.ApplyComposes'. -/
def applyComposesCard : Claim7 := { stood := { row := applyComposesRow, standIns := [], harness := (true, "c90fb33369425541134b780089989d5ce05c3eefc667a3eb9621a98fac4d68fb"), looks := true }, kinds := [], alts := [], laidByText := true, laidKinds := [.data, .data, .data], laidTests := true, laidLooks := .later }
def ApplyComposesCardSaid : Prop := Claim7.holds Tryz.pinned (.plain (OpenSpec.ofChange applyComposesSpec)) applyComposesCard

/-- THE TIED CARD OF 'chiasmuslaw07.ApplyNames'. -/
def applyNamesCard : Claim7 := { stood := { row := applyNamesRow, standIns := [], harness := (true, "c90fb33369425541134b780089989d5ce05c3eefc667a3eb9621a98fac4d68fb"), looks := true }, kinds := [], alts := [], laidByText := true, laidKinds := [.data, .data, .data, .sentinel, .sentinel], laidTests := true, laidLooks := .later }
def ApplyNamesCardSaid : Prop := Claim7.holds Tryz.pinned (.plain (OpenSpec.ofChange applyNamesSpec)) applyNamesCard

/-- THE SECOND FORM's CARD OF 'chiasmuslaw07.ApplyUses'. -/
def applyUsesUptoCard : Claim7 := { stood := { row := applyUsesUptoRow, standIns := [], harness := (true, "c90fb33369425541134b780089989d5ce05c3eefc667a3eb9621a98fac4d68fb"), looks := true }, kinds := [], alts := [], laidByText := true, laidKinds := [.data, .data, .data], laidTests := true, laidLooks := .later }
def ApplyUsesUptoCardSaid : Prop := Claim7.holds Tryz.pinned (.plain (OpenSpec.upto applyUsesSpec)) applyUsesUptoCard

/-- THE SECOND FORM's CARD OF 'chiasmuslaw07.ApplyComposes'. -/
def applyComposesUptoCard : Claim7 := { stood := { row := applyComposesUptoRow, standIns := [], harness := (true, "c90fb33369425541134b780089989d5ce05c3eefc667a3eb9621a98fac4d68fb"), looks := true }, kinds := [], alts := [], laidByText := true, laidKinds := [.data, .data, .data], laidTests := true, laidLooks := .later }
def ApplyComposesUptoCardSaid : Prop := Claim7.holds Tryz.pinned (.plain (OpenSpec.upto applyComposesSpec)) applyComposesUptoCard

/-- THE SECOND FORM's CARD OF 'chiasmuslaw07.ApplyNames'. -/
def applyNamesUptoCard : Claim7 := { stood := { row := applyNamesUptoRow, standIns := [], harness := (true, "c90fb33369425541134b780089989d5ce05c3eefc667a3eb9621a98fac4d68fb"), looks := true }, kinds := [], alts := [], laidByText := true, laidKinds := [.data, .data, .data, .sentinel, .sentinel], laidTests := true, laidLooks := .later }
def ApplyNamesUptoCardSaid : Prop := Claim7.holds Tryz.pinned (.plain (OpenSpec.upto applyNamesSpec)) applyNamesUptoCard
end Rows
end Go.Proofs.YtpibnnopnhmijaaGreatDoor
