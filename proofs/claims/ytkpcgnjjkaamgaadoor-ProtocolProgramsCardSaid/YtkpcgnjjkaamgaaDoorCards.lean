/-
  DERIVED. GIVEN WITH THE SEED: THE CARDS: each row of YtkpcgnjjkaamgaaDoorRows.lean that lists a variable, with what it lists TIED to the program's text (the seventh form; the later family's looks); each row that meets fmt, with fmt's text TOLD by the authors' own Lean function (tested against real Go, not proved from fmt's source: count such statements apart). THE CARD IS WHAT COUNTS. Prove the row's statement (the work); the ties are given (YtkpcgnjjkaamgaaDoorTie.lean); close each card by the builder's one call (the guide's Derived/Test/ToyasCard.lean, 'card_holds'). Laid BY PROGRAM, IN A SANDBOX (cutbox-door.mjs). By AI agents, Wed Nov 11 2026. No macro, syntax, notation, axiom, sorry.
-/
import Derived.Test.YtkpcgnjjkaamgaaDoorRows
import GoSem.ClaimSeven
namespace Go.Proofs.YtkpcgnjjkaamgaaDoor
namespace Rows

/-- THE TIED CARD OF 'chiasmuslaw34.ProtocolPrograms'. -/
def protocolProgramsCard : Claim7 := { stood := { row := protocolProgramsRow, standIns := [], harness := (true, "3134d2dbb70c2c9c4f4de6fb3bfdaf3c6ecef8f78fd2c3b35869f0c256e5ef0b"), looks := false }, kinds := [], alts := [], laidByText := true, laidKinds := [.data, .data, .data], laidTests := true, laidLooks := .later }
def ProtocolProgramsCardSaid : Prop := Claim7.holds Tryd.pinned (.plain (OpenSpec.ofChange protocolProgramsSpec)) protocolProgramsCard

/-- THE SECOND FORM's CARD OF 'chiasmuslaw34.ProtocolPrograms'. -/
def protocolProgramsUptoCard : Claim7 := { stood := { row := protocolProgramsUptoRow, standIns := [], harness := (true, "3134d2dbb70c2c9c4f4de6fb3bfdaf3c6ecef8f78fd2c3b35869f0c256e5ef0b"), looks := false }, kinds := [], alts := [], laidByText := true, laidKinds := [.data, .data, .data], laidTests := true, laidLooks := .later }
def ProtocolProgramsUptoCardSaid : Prop := Claim7.holds Tryd.pinned (.plain (OpenSpec.upto protocolProgramsSpec)) protocolProgramsUptoCard
end Rows
end Go.Proofs.YtkpcgnjjkaamgaaDoor
