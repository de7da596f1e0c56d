/-
  Walks of the reference's power and Power.
-/
import Derived.Test.YtpdeblfnbcponaaGreatDoorZC
set_option linter.unusedSimpArgs false
set_option linter.unusedVariables false
set_option maxRecDepth 100000
set_option maxHeartbeats 1000000
set_option exponentiation.threshold 256
namespace Go.Vi
open Go Go.Proofs

theorem lm500 (r : Nat) : (lm 10 r).length ≤ 500 ↔ r < 10 ^ 500 := lm_len_le b10 r 500
end Go.Vi
set_option maxRecDepth 100000
set_option maxHeartbeats 1000000
set_option exponentiation.threshold 256
namespace Go.Vi
open Go Go.Proofs

end Go.Vi
set_option maxRecDepth 100000
set_option maxHeartbeats 1000000
set_option exponentiation.threshold 256
namespace Go.Vi
open Go Go.Proofs

end Go.Vi
