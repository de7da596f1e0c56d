/-
  'chiasmuslaw34.ProtocolSearches' returns true for every input, and its arguments read behind the call as they did; no condition.
-/
import Derived.Test.YtkpcgnjjkaamgaaWH
import Derived.Test.YtkpcgnjjkaamgaaVC
import Derived.WalkKit
import Derived.ProofKit
import Derived.Test.YtkpcgnjjkaamgaaRows
set_option linter.unusedSimpArgs false
set_option linter.unusedVariables false
set_option maxRecDepth 100000
namespace Go.Vi
open Go Go.Proofs Go.ChangeShapes Go.WideShapes Go.ChangeAt Go.RowKit

theorem own0 : ownKnob Try.prog.godebug = none := by kernel_rfl
theorem kids0 : Kids Try.prog (· < Try.prog.types.size) := kids_rows (by kernel_rfl) (by kernel_rfl)
theorem full0 : ∀ t e, t < Try.prog.types.size → Try.prog.underlying t = some (.slice e) → 0 < Try.prog.cellsOf e := slices_full_of Try.prog (by kernel_rfl)
theorem oI : Opens Try.prog 3 I := opens_int Try.underlying3 (by kernel_rfl)
theorem oIs : Opens Try.prog 22 Is := opens_slice Try.underlying22 (by kernel_rfl) oI (by decide +kernel)
theorem oIss : Opens Try.prog 24 Iss := opens_slice Try.underlying24 (by kernel_rfl) oIs (by decide +kernel)
theorem oRule : Opens Try.prog 54 Rule.v :=
  (opens_struct Try.underlying54 (openF_cons rfl oIs (openF_cons (by kernel_rfl) oIs (openF_cons (by kernel_rfl) oIs (openF_cons (by kernel_rfl) oI openF_nil)))) (by intro b; exact (by kernel_rfl : (4:Nat) = Try.prog.cellsOf 54)) (by kernel_rfl)).map (fun a => ⟨a.1, a.2.1, a.2.2.1, a.2.2.2.1⟩) (fun _ => rfl) (fun _ => (by kernel_rfl : (4:Nat) = Try.prog.cellsOf 54))
theorem oRules : Opens Try.prog 23 Rules := opens_slice Try.underlying23 (by kernel_rfl) oRule (by decide +kernel)
theorem oProt : Opens Try.prog 26 (fun b : List Int × Int × List Rule × List (List Int) × Unit => V.agg (cellsV (Is b.1) ++ (cellsV (I b.2.1) ++ (cellsV (Rules b.2.2.1) ++ (cellsV (Iss b.2.2.2.1) ++ []))))) :=
  opens_struct Try.underlying26 (openF_cons rfl oIs (openF_cons (by kernel_rfl) oI (openF_cons (by kernel_rfl) oRules (openF_cons (by kernel_rfl) oIss openF_nil)))) (by intro b; exact (by kernel_rfl : (4:Nat) = Try.prog.cellsOf 26)) (by kernel_rfl)
theorem argProt {H : Type} {enc : TypeId × Value → H} {w : World} {base : Nat} {v : Value} {d : DataW H} {p : List MemPlace} (hv : Value.okWide Try.prog w .any base 26 v) (h : DataW.Trod enc Try.prog w 0 (fun _ => true) true 26 v d p) : ∃ x : Prot, PC w (oldB w) x.v v := by
  obtain ⟨b, hb⟩ := arg_struct Try.underlying26 oProt hv h
  exact ⟨⟨b.1, b.2.1, b.2.2.1, b.2.2.2.1⟩, hb⟩

set_option maxRecDepth 100000 in
theorem lifted3 (os : Os) (started : os.Started) (H : Type) (enc : TypeId × Value → H) :
    ReturnsInHanded {} Try.checked os 3 .any (Ytkpcgnjjkaamgaa.Rows.protocolSearchesSpec.pre6 enc Try.prog Try.f3 Ytkpcgnjjkaamgaa.Rows.protocolSearchesRow.domain false) (Ytkpcgnjjkaamgaa.Rows.protocolSearchesSpec.post enc Try.prog Try.f3 false true false false) := by
  refine returnsInHanded_of_change (C := Try.checked) own0 started (by kernel_rfl) Try.func3
    (ChangeSpec.witness6 (enc := enc) (C := Try.checked) false ⟨#[], #[.agg #[.slice none 0 0, .int .i64 0, .slice none 0 0, .slice none 0 0], .int .i64 0, .int .i64 0], []⟩ 6 (by kernel_rfl) (by kernel_rfl) (by kernel_rfl) (by kernel_rfl)) ?_
  intro W base args ds gs before hval0 hW hcnd _
  have hval : ∀ (j : Nat) t v, Try.f3.params[j]? = some t → args[j]? = some v → Value.okWide Try.prog W .any base t v := hval0
  have hW' := hW
  obtain ⟨p, q, hA0, hV, rfl, hfz, hnd⟩ := hW
  have hA : DataW.TrodAll enc Try.prog W 0 (fun _ => true) true Try.f3.params.toList args.toList ds p := hA0
  rw [Try.params3] at hA hval
  obtain ⟨v0, v1, v2, d0, d1, d2, p0, p1, p2, rfl, rfl, rfl, h0, h1, h2⟩ := trodAll_three hA
  obtain ⟨rfl, rfl⟩ := trodVars_none hV
  obtain ⟨x, hx⟩ := argProt (hval 0 26 v0 rfl rfl) h0
  obtain ⟨r, hr⟩ := arg_int Try.underlying3 (hval 1 3 v1 rfl rfl) h1
  obtain ⟨m, hm⟩ := arg_int Try.underlying3 (hval 2 3 v2 rfl rfl) h2
  refine (w3 x r m W (oldB W) #[v0, v1, v2] (fun _ h => h) ?_).mono fun e W' he => ?_
  · simp only [PCs]
    exact ⟨_, _, rfl, hx, _, _, rfl, hr, _, _, rfl, hm, rfl⟩
  · exact law_post kids0 full0 (by rw [Try.params3]; decide +kernel) rfl (by kernel_rfl) Try.underlying4 hW' rfl he
end Go.Vi
namespace Go.Proofs.Ytkpcgnjjkaamgaa
open Go.Vi
theorem protocolSearches_holds : Rows.ProtocolSearchesSaid :=
  OpenClaim.holds_of_wide 3 Try.f3 rfl rfl rfl rfl rfl rfl rfl ⟨rfl, rfl, rfl, rfl, rfl⟩ rfl rfl rfl rfl rfl (by kernel_rfl) Try.func3 (by kernel_rfl)
    (of_decide_eq_true (by kernel_rfl)) (by unfold Func.isWrapper; first | (rw [if_pos (by decide +kernel)]; kernel_rfl) | (rw [if_neg (by decide +kernel)]; exact ⟨rfl, rfl⟩))
    (fun os started H enc _ => lifted3 os started H enc)
#print axioms protocolSearches_holds
end Go.Proofs.Ytkpcgnjjkaamgaa
