/-
  DERIVED. GIVEN WITH THE SEED: THE CARDS: each row of YtpdeblfnbcponaaDoorRows.lean that lists a variable, with what it lists TIED to the program's text (the seventh form; the later family's looks); each row that meets fmt, with fmt's text TOLD by the authors' own Lean function (tested against real Go, not proved from fmt's source: count such statements apart). THE CARD IS WHAT COUNTS. Prove the row's statement (the work); the ties are given (YtpdeblfnbcponaaDoorTie.lean); close each card by the builder's one call (the guide's Derived/Test/ToyasCard.lean, 'card_holds'). Laid BY PROGRAM, IN A SANDBOX (cutbox-door.mjs). By AI agents, Wed Nov 11 2026. No macro, syntax, notation, axiom, sorry.
-/
import Derived.Test.YtpdeblfnbcponaaDoorRows
import GoSem.ClaimSeven
namespace Go.Proofs.YtpdeblfnbcponaaDoor
namespace Rows

/-- THE TIED CARD OF 'chiasmuslaw08.ArithProducts'. -/
def arithProductsCard : Claim7 := { stood := { row := arithProductsRow, standIns := [], harness := (true, "ad136f2c97ae57dcd46442733de335cfde22b2f9f43e02447a3ac036910438eb"), looks := true }, kinds := [], alts := [], laidByText := true, laidKinds := [.data, .pinned], laidTests := true, laidLooks := .later }
def ArithProductsCardSaid : Prop := Claim7.holds Tryd.pinned (.plain (OpenSpec.ofChange arithProductsSpec)) arithProductsCard

/-- THE TIED CARD OF 'chiasmuslaw08.ArithPowers'. -/
def arithPowersCard : Claim7 := { stood := { row := arithPowersRow, standIns := [], harness := (true, "ad136f2c97ae57dcd46442733de335cfde22b2f9f43e02447a3ac036910438eb"), looks := true }, kinds := [], alts := [], laidByText := true, laidKinds := [.data, .pinned], laidTests := true, laidLooks := .later }
def ArithPowersCardSaid : Prop := Claim7.holds Tryd.pinned (.plain (OpenSpec.ofChange arithPowersSpec)) arithPowersCard

/-- THE TIED CARD OF 'chiasmuslaw08.ArithRing'. -/
def arithRingCard : Claim7 := { stood := { row := arithRingRow, standIns := [], harness := (true, "ad136f2c97ae57dcd46442733de335cfde22b2f9f43e02447a3ac036910438eb"), looks := true }, kinds := [], alts := [], laidByText := true, laidKinds := [.data, .pinned], laidTests := true, laidLooks := .later }
def ArithRingCardSaid : Prop := Claim7.holds Tryd.pinned (.plain (OpenSpec.ofChange arithRingSpec)) arithRingCard

/-- THE TIED CARD OF 'chiasmuslaw08.ArithSums'. -/
def arithSumsCard : Claim7 := { stood := { row := arithSumsRow, standIns := [], harness := (true, "ad136f2c97ae57dcd46442733de335cfde22b2f9f43e02447a3ac036910438eb"), looks := true }, kinds := [], alts := [], laidByText := true, laidKinds := [.data, .pinned], laidTests := true, laidLooks := .later }
def ArithSumsCardSaid : Prop := Claim7.holds Tryd.pinned (.plain (OpenSpec.ofChange arithSumsSpec)) arithSumsCard

/-- THE TIED CARD OF 'chiasmuslaw08.ArithDivision'. -/
def arithDivisionCard : Claim7 := { stood := { row := arithDivisionRow, standIns := [], harness := (true, "ad136f2c97ae57dcd46442733de335cfde22b2f9f43e02447a3ac036910438eb"), looks := true }, kinds := [], alts := [], laidByText := true, laidKinds := [.data, .pinned], laidTests := true, laidLooks := .later }
def ArithDivisionCardSaid : Prop := Claim7.holds Tryd.pinned (.plain (OpenSpec.ofChange arithDivisionSpec)) arithDivisionCard

/-- THE TIED CARD OF 'chiasmuslaw08.ArithRoots'. -/
def arithRootsCard : Claim7 := { stood := { row := arithRootsRow, standIns := [], harness := (true, "ad136f2c97ae57dcd46442733de335cfde22b2f9f43e02447a3ac036910438eb"), looks := true }, kinds := [], alts := [], laidByText := true, laidKinds := [.data, .data, .data, .data, .sentinel, .sentinel, .pinned], laidTests := true, laidLooks := .later }
def ArithRootsCardSaid : Prop := Claim7.holds Tryd.pinned (.plain (OpenSpec.ofChange arithRootsSpec)) arithRootsCard

/-- THE SECOND FORM's CARD OF 'chiasmuslaw08.ArithProducts'. -/
def arithProductsUptoCard : Claim7 := { stood := { row := arithProductsUptoRow, standIns := [], harness := (true, "ad136f2c97ae57dcd46442733de335cfde22b2f9f43e02447a3ac036910438eb"), looks := true }, kinds := [], alts := [], laidByText := true, laidKinds := [.data, .pinned], laidTests := true, laidLooks := .later }
def ArithProductsUptoCardSaid : Prop := Claim7.holds Tryd.pinned (.plain (OpenSpec.upto arithProductsSpec)) arithProductsUptoCard

/-- THE SECOND FORM's CARD OF 'chiasmuslaw08.ArithPowers'. -/
def arithPowersUptoCard : Claim7 := { stood := { row := arithPowersUptoRow, standIns := [], harness := (true, "ad136f2c97ae57dcd46442733de335cfde22b2f9f43e02447a3ac036910438eb"), looks := true }, kinds := [], alts := [], laidByText := true, laidKinds := [.data, .pinned], laidTests := true, laidLooks := .later }
def ArithPowersUptoCardSaid : Prop := Claim7.holds Tryd.pinned (.plain (OpenSpec.upto arithPowersSpec)) arithPowersUptoCard

/-- THE SECOND FORM's CARD OF 'chiasmuslaw08.ArithRing'. -/
def arithRingUptoCard : Claim7 := { stood := { row := arithRingUptoRow, standIns := [], harness := (true, "ad136f2c97ae57dcd46442733de335cfde22b2f9f43e02447a3ac036910438eb"), looks := true }, kinds := [], alts := [], laidByText := true, laidKinds := [.data, .pinned], laidTests := true, laidLooks := .later }
def ArithRingUptoCardSaid : Prop := Claim7.holds Tryd.pinned (.plain (OpenSpec.upto arithRingSpec)) arithRingUptoCard

/-- THE SECOND FORM's CARD OF 'chiasmuslaw08.ArithSums'. -/
def arithSumsUptoCard : Claim7 := { stood := { row := arithSumsUptoRow, standIns := [], harness := (true, "ad136f2c97ae57dcd46442733de335cfde22b2f9f43e02447a3ac036910438eb"), looks := true }, kinds := [], alts := [], laidByText := true, laidKinds := [.data, .pinned], laidTests := true, laidLooks := .later }
def ArithSumsUptoCardSaid : Prop := Claim7.holds Tryd.pinned (.plain (OpenSpec.upto arithSumsSpec)) arithSumsUptoCard

/-- THE SECOND FORM's CARD OF 'chiasmuslaw08.ArithDivision'. -/
def arithDivisionUptoCard : Claim7 := { stood := { row := arithDivisionUptoRow, standIns := [], harness := (true, "ad136f2c97ae57dcd46442733de335cfde22b2f9f43e02447a3ac036910438eb"), looks := true }, kinds := [], alts := [], laidByText := true, laidKinds := [.data, .pinned], laidTests := true, laidLooks := .later }
def ArithDivisionUptoCardSaid : Prop := Claim7.holds Tryd.pinned (.plain (OpenSpec.upto arithDivisionSpec)) arithDivisionUptoCard

/-- THE SECOND FORM's CARD OF 'chiasmuslaw08.ArithRoots'. -/
def arithRootsUptoCard : Claim7 := { stood := { row := arithRootsUptoRow, standIns := [], harness := (true, "ad136f2c97ae57dcd46442733de335cfde22b2f9f43e02447a3ac036910438eb"), looks := true }, kinds := [], alts := [], laidByText := true, laidKinds := [.data, .data, .data, .data, .sentinel, .sentinel, .pinned], laidTests := true, laidLooks := .later }
def ArithRootsUptoCardSaid : Prop := Claim7.holds Tryd.pinned (.plain (OpenSpec.upto arithRootsSpec)) arithRootsUptoCard
end Rows
end Go.Proofs.YtpdeblfnbcponaaDoor
