/-
  No cell of these rows narrows 'for every input' (looked for: loops, veiled, ifaces, maps, wideKeys, modest, calm, conditions, laid).
  DERIVED. THE GIVEN ROWS OF THIS SEAT. 3 by the template 'for every input the law returns true; each argument reads behind the call as it read before'; 0 by the template 'total and deterministic' (their statements: YtkpcgnjjkaamgaaTotals.lean).
  GIVEN WITH THE SEED: the statements are not yours to turn. If you find one false, say at which input.
  Laid BY PROGRAM, IN A SANDBOX (cutbox-rows.mjs): the forced cells as the released guide's own fill.sh prints them over the translation 9a27dcf38cf67ed1… (all of the seat's roots in one cut). By AI agents, Wed Nov 11 2026. No macro, syntax, notation, axiom, sorry.
-/
import Derived.Test.YtkpcgnjjkaamgaaChecked
import GoSem.Claim
import GoSem.ClaimJoined
import GoSem.ClaimMapViews
import Derived.JoinedTies
import Derived.KernelRfl
namespace Go.Proofs.Ytkpcgnjjkaamgaa
/- THE CELL 'sum', in the pinned program and in every row, IS THE sha256 OF THE DUMP (.gsa) THAT YtkpcgnjjkaamgaaProg.lean LOADS. Nothing in Lean hashes anything: it is a label: what it is worth is what the hold of that sum in a sandbox is worth. -/
noncomputable def Try.pinned : Pinned := { name := "ytkpcgnjjkaamgaa", sum := "9a27dcf38cf67ed12486a5714e3968ec11bbf2db69b9f6a50edb037e3c49c287", checked := Try.checked }
namespace Rows
def none {H : Type} : Left H := { results := [], args := [] }

/-- 'chiasmuslaw34.ProtocolSearches': WHATEVER THE INPUT: true; the input reads as it did. -/
def protocolSearchesSpec : ChangeSpec := { name := "protocolSearches", fn := fun _ => fun
  | [d1, d2, d3] => { results := [.lit (.bool true)], args := [d1, d2, d3] }
  | _ => none }
def protocolSearchesRow : OpenClaim := { program := "ytkpcgnjjkaamgaa", sum := "9a27dcf38cf67ed12486a5714e3968ec11bbf2db69b9f6a50edb037e3c49c287", func := "chiasmus/chiasmuslaw34.ProtocolSearches", spec := "protocolSearches", unfollowed := true, recurses := true, plainKeys := false, apart := false }
def ProtocolSearchesSaid : Prop := protocolSearchesRow.holds Try.pinned (OpenSpec.ofChange protocolSearchesSpec)

/-- ITS FALSE NEIGHBOUR: 'it returns false'. Refute it at one input. -/
def protocolSearchesWrong : ChangeSpec := { name := "protocolSearches", fn := fun _ => fun
  | [d1, d2, d3] => { results := [.lit (.bool false)], args := [d1, d2, d3] }
  | _ => none }
def ProtocolSearchesWrongFalsely : Prop := protocolSearchesRow.holds Try.pinned (OpenSpec.ofChange protocolSearchesWrong)

/-- 'chiasmuslaw34.ProtocolSteps': WHATEVER THE INPUT: true; the input reads as it did. -/
def protocolStepsSpec : ChangeSpec := { name := "protocolSteps", fn := fun _ => fun
  | [d1, d2, d3, d4] => { results := [.lit (.bool true)], args := [d1, d2, d3, d4] }
  | _ => none }
def protocolStepsRow : OpenClaim := { program := "ytkpcgnjjkaamgaa", sum := "9a27dcf38cf67ed12486a5714e3968ec11bbf2db69b9f6a50edb037e3c49c287", func := "chiasmus/chiasmuslaw34.ProtocolSteps", spec := "protocolSteps", unfollowed := true, recurses := true, plainKeys := false, apart := false }
def ProtocolStepsSaid : Prop := protocolStepsRow.holds Try.pinned (OpenSpec.ofChange protocolStepsSpec)

/-- ITS FALSE NEIGHBOUR: 'it returns false'. Refute it at one input. -/
def protocolStepsWrong : ChangeSpec := { name := "protocolSteps", fn := fun _ => fun
  | [d1, d2, d3, d4] => { results := [.lit (.bool false)], args := [d1, d2, d3, d4] }
  | _ => none }
def ProtocolStepsWrongFalsely : Prop := protocolStepsRow.holds Try.pinned (OpenSpec.ofChange protocolStepsWrong)

/-- 'chiasmuslaw34.ProtocolFinds': WHATEVER THE INPUT: true; the input reads as it did. -/
def protocolFindsSpec : ChangeSpec := { name := "protocolFinds", fn := fun _ => fun
  | [d1, d2, d3, d4] => { results := [.lit (.bool true)], args := [d1, d2, d3, d4] }
  | _ => none }
def protocolFindsRow : OpenClaim := { program := "ytkpcgnjjkaamgaa", sum := "9a27dcf38cf67ed12486a5714e3968ec11bbf2db69b9f6a50edb037e3c49c287", func := "chiasmus/chiasmuslaw34.ProtocolFinds", spec := "protocolFinds", unfollowed := true, recurses := true, plainKeys := false, apart := false }
def ProtocolFindsSaid : Prop := protocolFindsRow.holds Try.pinned (OpenSpec.ofChange protocolFindsSpec)

/-- ITS FALSE NEIGHBOUR: 'it returns false'. Refute it at one input. -/
def protocolFindsWrong : ChangeSpec := { name := "protocolFinds", fn := fun _ => fun
  | [d1, d2, d3, d4] => { results := [.lit (.bool false)], args := [d1, d2, d3, d4] }
  | _ => none }
def ProtocolFindsWrongFalsely : Prop := protocolFindsRow.holds Try.pinned (OpenSpec.ofChange protocolFindsWrong)

/- THE SECOND FORM. 'bulk': how many values and letters a reading holds, each counted each time it is reached (what is shared counts as often as it is met; a slice's spare places count too). A statement '..UptoSaid' is the law's where the arguments, and the package variables that the reading takes, are together of bulk at most 1048576: NARROWER than '..Said'. Prove '..Said' where nothing that the law and all that it calls make is longer than what came in: it says more and counts as full. Else prove '..UptoSaid'. A law counts once. -/
mutual
def uptoBulk {H : Type} : DataW H → Nat
  | .lit (.string bytes) => bytes.length + 1
  | .lit _ => 1
  | .nil => 1
  | .ptr d => uptoBulk d + 1
  | .slice elems spare => uptoBulkAll elems + uptoBulkAll spare + 1
  | .agg parts => uptoBulkAll parts + 1
  | .iface _ d => uptoBulk d + 1
  | .map entries => uptoBulkEntries entries + 1
  | .held _ => 1
def uptoBulkAll {H : Type} : List (DataW H) → Nat
  | [] => 0
  | d :: r => uptoBulk d + uptoBulkAll r
def uptoBulkEntries {H : Type} : List (Lit × DataW H) → Nat
  | [] => 0
  | x :: r => uptoBulkEntry x + uptoBulkEntries r
def uptoBulkEntry {H : Type} : Lit × DataW H → Nat
  | (.string bytes, d) => bytes.length + uptoBulk d + 1
  | (_, d) => uptoBulk d + 1
 end
def uptoSmall : (H : Type) → List (DataW H) → Bool := fun _ ds => decide (uptoBulkAll ds ≤ 1048576)
def OpenSpec.upto (s : _root_.Go.ChangeSpec) : _root_.Go.OpenSpec := { _root_.Go.OpenSpec.ofChange s with cond := some uptoSmall }

/-- 'chiasmuslaw34.ProtocolSearches', WHERE WHAT IT READS IS OF BULK AT MOST 1048576: true; the input reads as it did. -/
def protocolSearchesUptoRow : OpenClaim := { program := "ytkpcgnjjkaamgaa", sum := "9a27dcf38cf67ed12486a5714e3968ec11bbf2db69b9f6a50edb037e3c49c287", func := "chiasmus/chiasmuslaw34.ProtocolSearches", spec := "protocolSearches", unfollowed := true, recurses := true, plainKeys := false, apart := false, narrowed := true }
def ProtocolSearchesUptoSaid : Prop := protocolSearchesUptoRow.holds Try.pinned (OpenSpec.upto protocolSearchesSpec)

/-- 'chiasmuslaw34.ProtocolSteps', WHERE WHAT IT READS IS OF BULK AT MOST 1048576: true; the input reads as it did. -/
def protocolStepsUptoRow : OpenClaim := { program := "ytkpcgnjjkaamgaa", sum := "9a27dcf38cf67ed12486a5714e3968ec11bbf2db69b9f6a50edb037e3c49c287", func := "chiasmus/chiasmuslaw34.ProtocolSteps", spec := "protocolSteps", unfollowed := true, recurses := true, plainKeys := false, apart := false, narrowed := true }
def ProtocolStepsUptoSaid : Prop := protocolStepsUptoRow.holds Try.pinned (OpenSpec.upto protocolStepsSpec)

/-- 'chiasmuslaw34.ProtocolFinds', WHERE WHAT IT READS IS OF BULK AT MOST 1048576: true; the input reads as it did. -/
def protocolFindsUptoRow : OpenClaim := { program := "ytkpcgnjjkaamgaa", sum := "9a27dcf38cf67ed12486a5714e3968ec11bbf2db69b9f6a50edb037e3c49c287", func := "chiasmus/chiasmuslaw34.ProtocolFinds", spec := "protocolFinds", unfollowed := true, recurses := true, plainKeys := false, apart := false, narrowed := true }
def ProtocolFindsUptoSaid : Prop := protocolFindsUptoRow.holds Try.pinned (OpenSpec.upto protocolFindsSpec)

end Rows
end Go.Proofs.Ytkpcgnjjkaamgaa
