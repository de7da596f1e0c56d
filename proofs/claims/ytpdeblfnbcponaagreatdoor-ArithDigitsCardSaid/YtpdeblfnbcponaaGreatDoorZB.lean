/-
  Walk of arith.power with any bound on limbs.
-/
import Derived.Test.YtpdeblfnbcponaaGreatDoorZA
set_option linter.unusedSimpArgs false
set_option linter.unusedVariables false
set_option maxRecDepth 100000
set_option maxHeartbeats 1000000
set_option exponentiation.threshold 256
namespace Go.Vi
open Go Go.Proofs

theorem few_m {n m : Nat} (hm : m ≤ 140) (h : n < 10000 ^ m) : few n := by
  have := (lm_len_le b2 n m).2 h
  show (lm 10000 n).length ≤ 100000
  omega
end Go.Vi
set_option maxRecDepth 100000
set_option maxHeartbeats 1000000
set_option exponentiation.threshold 256
namespace Go.Vi
open Go Go.Proofs

/-! ### Root's closure -/
end Go.Vi
