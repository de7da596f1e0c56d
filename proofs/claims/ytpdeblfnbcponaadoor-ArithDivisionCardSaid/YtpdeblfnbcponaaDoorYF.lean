/-
  Walk of ref.times.
-/
import Derived.Test.YtpdeblfnbcponaaDoorYE
set_option linter.unusedSimpArgs false
set_option linter.unusedVariables false
set_option maxRecDepth 100000
set_option maxHeartbeats 1000000
set_option exponentiation.threshold 256
namespace Go.Vi
open Go Go.Proofs

end Go.Vi
set_option maxRecDepth 100000
set_option maxHeartbeats 1000000
set_option exponentiation.threshold 256
namespace Go.Vi
open Go Go.Proofs

end Go.Vi
set_option maxRecDepth 100000
set_option maxHeartbeats 1000000
namespace Go.Vi
open Go Go.Proofs

theorem ival_zero {b : List UInt8} (h : validB b = true) : (b == [48]) = decide (ival b = 0) := by
  by_cases e : b = [48]
  · subst e; rfl
  · have h1 : (b == [48]) = false := by simpa using e
    rw [h1]
    have hv := h
    unfold validB at h
    rw [h1, Bool.false_or] at h
    unfold validT at h
    simp only [Bool.and_eq_true, Bool.not_eq_true', decide_eq_false_iff_not, beq_eq_false_iff_ne, ne_eq] at h
    have hp := dval_pos _ h.2 h.1.1.1 (by simpa using h.1.2)
    symm
    rw [decide_eq_false_iff_not]
    unfold ival
    split <;> omega
end Go.Vi
set_option maxRecDepth 100000
set_option maxHeartbeats 1000000
namespace Go.Vi
open Go Go.Proofs

theorem gcd_small {x y : Int} (hx : small x) (hy : small y) : Nat.gcd x.natAbs y.natAbs < 10 ^ 500 := by
  by_cases h : x = 0
  · subst h
    rw [show Nat.gcd (Int.natAbs 0) y.natAbs = y.natAbs from Nat.gcd_zero_left _]
    exact hy
  · exact Nat.lt_of_le_of_lt (Nat.gcd_le_left _ (by omega)) hx
end Go.Vi
set_option maxRecDepth 100000
set_option maxHeartbeats 1000000
namespace Go.Vi
open Go Go.Proofs

noncomputable def F11 : List V → Option V := hF (α := List UInt8 × List UInt8) (fun a => [.str a.1, .str a.2]) (fun _ => True) (fun a => with2 (fun x y => x * y) a.1 a.2)
theorem F11_eq (a b : List UInt8) : F11 [.str a, .str b] = some (with2 (fun x y => x * y) a b) := hF_eq (a := (a, b)) two_Str (by simp only [cans, canStr]) trivial
noncomputable def F15 : List V → Option V := hF (α := List UInt8 × List UInt8) (fun a => [.str a.1, .str a.2]) (fun _ => True) (fun a => with2 (fun x y => ((Int.gcd x y : Nat) : Int)) a.1 a.2)
theorem F15_eq (a b : List UInt8) : F15 [.str a, .str b] = some (with2 (fun x y => ((Int.gcd x y : Nat) : Int)) a b) := hF_eq (a := (a, b)) two_Str (by simp only [cans, canStr]) trivial
end Go.Vi
