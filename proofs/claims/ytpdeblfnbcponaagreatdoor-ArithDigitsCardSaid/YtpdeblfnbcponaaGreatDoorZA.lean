/-
  Walk of chiasmuslaw08.ArithRing and its closures.
-/
import Derived.Test.YtpdeblfnbcponaaGreatDoorYG
set_option linter.unusedSimpArgs false
set_option linter.unusedVariables false
set_option maxRecDepth 100000
set_option maxHeartbeats 1000000
namespace Go.Vi
open Go Go.Proofs

end Go.Vi
set_option maxRecDepth 100000
set_option maxHeartbeats 2000000
namespace Go.Vi
open Go Go.Proofs

end Go.Vi
