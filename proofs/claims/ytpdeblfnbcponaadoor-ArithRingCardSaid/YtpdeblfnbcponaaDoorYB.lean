/-
  Walks of package ref: of.
-/
import Derived.Test.YtpdeblfnbcponaaDoorYA
set_option linter.unusedSimpArgs false
set_option linter.unusedVariables false
set_option maxRecDepth 100000
set_option maxHeartbeats 1000000
set_option exponentiation.threshold 256
namespace Go.Vi
open Go Go.Proofs

end Go.Vi
set_option maxRecDepth 100000
set_option maxHeartbeats 1000000
set_option exponentiation.threshold 256
namespace Go.Vi
open Go Go.Proofs

theorem dval_one (u : UInt8) : dval [u] = dg u := by
  show dacc 0 [u] = dg u
  rw [dacc_cons]
  show 10 * 0 + dg u = dg u
  omega
theorem dval_digit {t : List UInt8} (h : t.all isDig = true) (j : Nat) (hj : j < t.length) {u : UInt8} (hu : t[t.length - 1 - j]? = some u) : dval t / 10 ^ j % 10 = dg u := by
  have h1 := dval_take h (t.length - 1 - j + 1)
  rw [show t.length - (t.length - 1 - j + 1) = j by omega] at h1
  rw [← h1, List.take_add_one, hu]
  show dval (t.take (t.length - 1 - j) ++ [u]) % 10 = dg u
  rw [dval_append, dval_one]
  have hd : isDig u = true := List.all_eq_true.1 h u (List.mem_of_getElem? hu)
  simp only [isDig, Bool.and_eq_true, decide_eq_true_eq] at hd
  have : dg u ≤ 9 := by unfold dg; omega
  simp only [List.length_cons, List.length_nil]
  omega
end Go.Vi
set_option maxRecDepth 100000
set_option maxHeartbeats 1000000
set_option exponentiation.threshold 256
namespace Go.Vi
open Go Go.Proofs

end Go.Vi
