/-
  Walk of ref.times.
-/
import Derived.Test.YtpdeblfnbcponaaDoorYE
set_option linter.unusedSimpArgs false
set_option linter.unusedVariables false
set_option maxRecDepth 100000
set_option maxHeartbeats 1000000
set_option exponentiation.threshold 256
namespace Go.Vi
open Go Go.Proofs

end Go.Vi
set_option maxRecDepth 100000
set_option maxHeartbeats 1000000
set_option exponentiation.threshold 256
namespace Go.Vi
open Go Go.Proofs

end Go.Vi
set_option maxRecDepth 100000
set_option maxHeartbeats 1000000
namespace Go.Vi
open Go Go.Proofs

end Go.Vi
set_option maxRecDepth 100000
set_option maxHeartbeats 1000000
namespace Go.Vi
open Go Go.Proofs

end Go.Vi
set_option maxRecDepth 100000
set_option maxHeartbeats 1000000
namespace Go.Vi
open Go Go.Proofs

noncomputable def F11 : List V → Option V := hF (α := List UInt8 × List UInt8) (fun a => [.str a.1, .str a.2]) (fun _ => True) (fun a => with2 (fun x y => x * y) a.1 a.2)
theorem F11_eq (a b : List UInt8) : F11 [.str a, .str b] = some (with2 (fun x y => x * y) a b) := hF_eq (a := (a, b)) two_Str (by simp only [cans, canStr]) trivial
end Go.Vi
