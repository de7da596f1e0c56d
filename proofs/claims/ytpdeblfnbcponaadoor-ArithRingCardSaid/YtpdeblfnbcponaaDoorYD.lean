/-
  Walks of ref.sum, Add, Sub, Neg, Compare (written by mkYi.py).
-/
import Derived.Test.YtpdeblfnbcponaaDoorYC
set_option linter.unusedSimpArgs false
set_option linter.unusedVariables false
set_option maxRecDepth 100000
set_option maxHeartbeats 1000000
set_option exponentiation.threshold 256
namespace Go.Vi
open Go Go.Proofs

end Go.Vi
set_option maxRecDepth 100000
set_option maxHeartbeats 1000000
set_option exponentiation.threshold 256
namespace Go.Vi
open Go Go.Proofs

noncomputable def F24 : List V → Option V := hF (α := List UInt8 × List UInt8) (fun a => [.str a.1, .str a.2]) (fun _ => True) (fun a => with2 (fun x y => x + y) a.1 a.2)
theorem F24_eq (a b : List UInt8) : F24 [.str a, .str b] = some (with2 (fun x y => x + y) a b) := hF_eq (a := (a, b)) two_Str (by simp only [cans, canStr]) trivial
noncomputable def F27 : List V → Option V := hF (α := List UInt8 × List UInt8) (fun a => [.str a.1, .str a.2]) (fun _ => True) (fun a => with2 (fun x y => x - y) a.1 a.2)
theorem F27_eq (a b : List UInt8) : F27 [.str a, .str b] = some (with2 (fun x y => x - y) a b) := hF_eq (a := (a, b)) two_Str (by simp only [cans, canStr]) trivial
noncomputable def F26 : List V → Option V := hF (α := List UInt8) (fun a => [.str a]) (fun _ => True) (fun a => with2 (fun x y => -x) a [48])
theorem F26_eq (a : List UInt8) : F26 [.str a] = some (with2 (fun x y => -x) a [48]) := hF_eq (a := a) (one_inj' fun _ _ => Str_inj) (by simp only [cans, canStr]) trivial
end Go.Vi
set_option maxRecDepth 100000
set_option maxHeartbeats 1000000
set_option exponentiation.threshold 256
namespace Go.Vi
open Go Go.Proofs

end Go.Vi
