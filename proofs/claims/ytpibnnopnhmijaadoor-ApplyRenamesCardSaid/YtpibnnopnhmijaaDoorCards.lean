/-
  DERIVED. GIVEN WITH THE SEED: THE CARDS: each row of YtpibnnopnhmijaaDoorRows.lean that lists a variable, with what it lists TIED to the program's text (the seventh form; the later family's looks); each row that meets fmt, with fmt's text TOLD by the authors' own Lean function (tested against real Go, not proved from fmt's source: count such statements apart). THE CARD IS WHAT COUNTS. Prove the row's statement (the work); the ties are given (YtpibnnopnhmijaaDoorTie.lean); close each card by the builder's one call (the guide's Derived/Test/ToyasCard.lean, 'card_holds'). Laid BY PROGRAM, IN A SANDBOX (cutbox-door.mjs). By AI agents, Wed Nov 11 2026. No macro, syntax, notation, axiom, sorry.
-/
import Derived.Test.YtpibnnopnhmijaaDoorRows
import GoSem.ClaimSeven
namespace Go.Proofs.YtpibnnopnhmijaaDoor
namespace Rows

/-- THE TIED CARD OF 'chiasmuslaw07.ApplyTo'. -/
def applyToCard : Claim7 := { stood := { row := applyToRow, standIns := [], harness := (true, "7e6b4a86c3aeeafa32462a5b947941f61c7575f76911507e27be7f8bd6b6fafa"), looks := false }, kinds := [], alts := [], laidByText := true, laidKinds := [.data, .data, .data], laidTests := true, laidLooks := .later }
def ApplyToCardSaid : Prop := Claim7.holds Tryd.pinned (.plain (OpenSpec.ofChange applyToSpec)) applyToCard

/-- THE TIED CARD OF 'chiasmuslaw07.ApplyParts'. -/
def applyPartsCard : Claim7 := { stood := { row := applyPartsRow, standIns := [], harness := (true, "7e6b4a86c3aeeafa32462a5b947941f61c7575f76911507e27be7f8bd6b6fafa"), looks := false }, kinds := [], alts := [], laidByText := true, laidKinds := [.data, .data, .data], laidTests := true, laidLooks := .later }
def ApplyPartsCardSaid : Prop := Claim7.holds Tryd.pinned (.plain (OpenSpec.ofChange applyPartsSpec)) applyPartsCard

/-- THE TIED CARD OF 'chiasmuslaw07.ApplyRenames'. -/
def applyRenamesCard : Claim7 := { stood := { row := applyRenamesRow, standIns := [], harness := (true, "7e6b4a86c3aeeafa32462a5b947941f61c7575f76911507e27be7f8bd6b6fafa"), looks := false }, kinds := [], alts := [], laidByText := true, laidKinds := [.data, .data, .data], laidTests := true, laidLooks := .later }
def ApplyRenamesCardSaid : Prop := Claim7.holds Tryd.pinned (.plain (OpenSpec.ofChange applyRenamesSpec)) applyRenamesCard

/-- THE TIED CARD OF 'chiasmuslaw07.ApplyTwice'. -/
def applyTwiceCard : Claim7 := { stood := { row := applyTwiceRow, standIns := [], harness := (true, "7e6b4a86c3aeeafa32462a5b947941f61c7575f76911507e27be7f8bd6b6fafa"), looks := false }, kinds := [], alts := [], laidByText := true, laidKinds := [.data, .data, .data], laidTests := true, laidLooks := .later }
def ApplyTwiceCardSaid : Prop := Claim7.holds Tryd.pinned (.plain (OpenSpec.ofChange applyTwiceSpec)) applyTwiceCard

/-- THE TIED CARD OF 'chiasmuslaw07.ApplyMatches'. -/
def applyMatchesCard : Claim7 := { stood := { row := applyMatchesRow, standIns := [], harness := (true, "7e6b4a86c3aeeafa32462a5b947941f61c7575f76911507e27be7f8bd6b6fafa"), looks := false }, kinds := [], alts := [], laidByText := true, laidKinds := [.data, .data, .data], laidTests := true, laidLooks := .later }
def ApplyMatchesCardSaid : Prop := Claim7.holds Tryd.pinned (.plain (OpenSpec.ofChange applyMatchesSpec)) applyMatchesCard

/-- THE SECOND FORM's CARD OF 'chiasmuslaw07.ApplyTo'. -/
def applyToUptoCard : Claim7 := { stood := { row := applyToUptoRow, standIns := [], harness := (true, "7e6b4a86c3aeeafa32462a5b947941f61c7575f76911507e27be7f8bd6b6fafa"), looks := false }, kinds := [], alts := [], laidByText := true, laidKinds := [.data, .data, .data], laidTests := true, laidLooks := .later }
def ApplyToUptoCardSaid : Prop := Claim7.holds Tryd.pinned (.plain (OpenSpec.upto applyToSpec)) applyToUptoCard

/-- THE SECOND FORM's CARD OF 'chiasmuslaw07.ApplyParts'. -/
def applyPartsUptoCard : Claim7 := { stood := { row := applyPartsUptoRow, standIns := [], harness := (true, "7e6b4a86c3aeeafa32462a5b947941f61c7575f76911507e27be7f8bd6b6fafa"), looks := false }, kinds := [], alts := [], laidByText := true, laidKinds := [.data, .data, .data], laidTests := true, laidLooks := .later }
def ApplyPartsUptoCardSaid : Prop := Claim7.holds Tryd.pinned (.plain (OpenSpec.upto applyPartsSpec)) applyPartsUptoCard

/-- THE SECOND FORM's CARD OF 'chiasmuslaw07.ApplyRenames'. -/
def applyRenamesUptoCard : Claim7 := { stood := { row := applyRenamesUptoRow, standIns := [], harness := (true, "7e6b4a86c3aeeafa32462a5b947941f61c7575f76911507e27be7f8bd6b6fafa"), looks := false }, kinds := [], alts := [], laidByText := true, laidKinds := [.data, .data, .data], laidTests := true, laidLooks := .later }
def ApplyRenamesUptoCardSaid : Prop := Claim7.holds Tryd.pinned (.plain (OpenSpec.upto applyRenamesSpec)) applyRenamesUptoCard

/-- THE SECOND FORM's CARD OF 'chiasmuslaw07.ApplyTwice'. -/
def applyTwiceUptoCard : Claim7 := { stood := { row := applyTwiceUptoRow, standIns := [], harness := (true, "7e6b4a86c3aeeafa32462a5b947941f61c7575f76911507e27be7f8bd6b6fafa"), looks := false }, kinds := [], alts := [], laidByText := true, laidKinds := [.data, .data, .data], laidTests := true, laidLooks := .later }
def ApplyTwiceUptoCardSaid : Prop := Claim7.holds Tryd.pinned (.plain (OpenSpec.upto applyTwiceSpec)) applyTwiceUptoCard

/-- THE SECOND FORM's CARD OF 'chiasmuslaw07.ApplyMatches'. -/
def applyMatchesUptoCard : Claim7 := { stood := { row := applyMatchesUptoRow, standIns := [], harness := (true, "7e6b4a86c3aeeafa32462a5b947941f61c7575f76911507e27be7f8bd6b6fafa"), looks := false }, kinds := [], alts := [], laidByText := true, laidKinds := [.data, .data, .data], laidTests := true, laidLooks := .later }
def ApplyMatchesUptoCardSaid : Prop := Claim7.holds Tryd.pinned (.plain (OpenSpec.upto applyMatchesSpec)) applyMatchesUptoCard
end Rows
end Go.Proofs.YtpibnnopnhmijaaDoor
