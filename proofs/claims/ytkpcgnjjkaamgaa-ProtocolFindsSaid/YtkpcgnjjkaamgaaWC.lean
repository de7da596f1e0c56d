/-
  Walks of package chiasmusref34: tokens, right, Check, state.
-/
import Derived.Test.YtkpcgnjjkaamgaaWB
set_option linter.unusedSimpArgs false
set_option linter.unusedVariables false
set_option maxRecDepth 100000
set_option maxHeartbeats 4000000
namespace Go.Vi
open Go Go.Proofs

/-! ### tokens -/
/-! ### state -/
end Go.Vi
set_option maxRecDepth 100000
set_option maxHeartbeats 4000000
namespace Go.Vi
open Go Go.Proofs

end Go.Vi
set_option maxRecDepth 100000
set_option maxHeartbeats 4000000
namespace Go.Vi
open Go Go.Proofs

theorem mem_of {α : Type} {l : List α} {i : Nat} {x : α} (hg : l[i]? = some x) : x ∈ l := by
  rw [List.getElem?_eq_some_iff] at hg; obtain ⟨_, hg⟩ := hg; rw [← hg]; exact List.getElem_mem _

/-! ### Check -/
/-! ### bad -/
end Go.Vi
