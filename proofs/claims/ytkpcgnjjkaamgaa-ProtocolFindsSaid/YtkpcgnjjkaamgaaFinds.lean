/-
  'chiasmuslaw34.ProtocolFinds' returns true for every input, and its arguments read behind the call as they did; no condition.
-/
import Derived.Test.YtkpcgnjjkaamgaaWI
import Derived.Test.YtkpcgnjjkaamgaaVC
import Derived.SizedLaws
import Derived.WalkKit
import Derived.ProofKit
import Derived.Test.YtkpcgnjjkaamgaaRows
set_option linter.unusedSimpArgs false
set_option linter.unusedVariables false
set_option maxRecDepth 100000
namespace Go.Vi
open Go Go.Proofs Go.ChangeShapes Go.WideShapes Go.ChangeAt Go.RowKit

theorem own0 : ownKnob Try.prog.godebug = none := by kernel_rfl
theorem kids0 : Kids Try.prog (· < Try.prog.types.size) := kids_rows (by kernel_rfl) (by kernel_rfl)
theorem full0 : ∀ t e, t < Try.prog.types.size → Try.prog.underlying t = some (.slice e) → 0 < Try.prog.cellsOf e := slices_full_of Try.prog (by kernel_rfl)
theorem oI : Opens Try.prog 3 I := opens_int Try.underlying3 (by kernel_rfl)
theorem oIs : Opens Try.prog 22 Is := opens_slice Try.underlying22 (by kernel_rfl) oI (by decide +kernel)
theorem oIss : Opens Try.prog 24 Iss := opens_slice Try.underlying24 (by kernel_rfl) oIs (by decide +kernel)
theorem oRule : Opens Try.prog 54 Rule.v :=
  (opens_struct Try.underlying54 (openF_cons rfl oIs (openF_cons (by kernel_rfl) oIs (openF_cons (by kernel_rfl) oIs (openF_cons (by kernel_rfl) oI openF_nil)))) (by intro b; exact (by kernel_rfl : (4:Nat) = Try.prog.cellsOf 54)) (by kernel_rfl)).map (fun a => ⟨a.1, a.2.1, a.2.2.1, a.2.2.2.1⟩) (fun _ => rfl) (fun _ => (by kernel_rfl : (4:Nat) = Try.prog.cellsOf 54))
theorem oRules : Opens Try.prog 23 Rules := opens_slice Try.underlying23 (by kernel_rfl) oRule (by decide +kernel)
theorem oProt : Opens Try.prog 26 (fun b : List Int × Int × List Rule × List (List Int) × Unit => V.agg (cellsV (Is b.1) ++ (cellsV (I b.2.1) ++ (cellsV (Rules b.2.2.1) ++ (cellsV (Iss b.2.2.2.1) ++ []))))) :=
  opens_struct Try.underlying26 (openF_cons rfl oIs (openF_cons (by kernel_rfl) oI (openF_cons (by kernel_rfl) oRules (openF_cons (by kernel_rfl) oIss openF_nil)))) (by intro b; exact (by kernel_rfl : (4:Nat) = Try.prog.cellsOf 26)) (by kernel_rfl)
theorem argProt {H : Type} {enc : TypeId × Value → H} {w : World} {base : Nat} {v : Value} {d : DataW H} {p : List MemPlace} (hv : Value.okWide Try.prog w .any base 26 v) (h : DataW.Trod enc Try.prog w 0 (fun _ => true) true 26 v d p) : ∃ x : Prot, PC w (oldB w) x.v v := by
  obtain ⟨b, hb⟩ := arg_struct Try.underlying26 oProt hv h
  exact ⟨⟨b.1, b.2.1, b.2.2.1, b.2.2.2.1⟩, hb⟩
theorem bytes54 : Try.prog.bytesOf 54 = 80 := by kernel_rfl
theorem cells23 : Try.prog.cellsOf 23 = 1 := by kernel_rfl
/-- What the form's own reach gives: the protocol's rules take less than all addresses. -/
theorem argProt_sized {H : Type} {enc : TypeId × Value → H} {w : World} {x : Prot} {v : Value} {d : DataW H} {p : List MemPlace} (h : DataW.Trod enc Try.prog w 0 (fun _ => true) true 26 v d p) (hx : PC w (oldB w) x.v v) (hz : ∀ n ∈ d.weights Try.prog 26, n ≤ reachBytes) : x.rules.length * 80 ≤ 140737488355328 := by
  obtain ⟨fuel, h⟩ := h
  simp only [PC, PCs] at hx
  obtain ⟨cs, rfl, c0, d0, e0, _, c1, d1, e1, _, c2, d2, e2, h2, _⟩ := hx
  subst e1
  subst e2
  obtain ⟨xs, n, _, e, _, hxl, hxs⟩ := DataW.trod_struct Try.underlying26 h
  obtain ⟨F, hF, ho, ht⟩ : ∃ F, (match Try.prog.underlying 26 with | some (.struct fs) => fs[2]? | _ => none) = some F ∧ F.offset = 2 ∧ F.type = 23 := by
    rw [Try.underlying26]; exact ⟨_, rfl, rfl, rfl⟩
  rw [Try.underlying26] at hF
  have h3 := hxs 2 F hF
  rw [ho, ht, cells23] at h3
  have hcs : (((Value.agg cs).cells.toList.drop 2).take 1) = [c2] := by simp [Value.cells, e0]
  rw [hcs] at h3
  have hlt : 2 < xs.length := by rw [hxl]; exact (by decide : 2 < 4)
  rw [List.getElem?_eq_getElem hlt] at h3
  obtain ⟨a, cap, rfl, _, _, _⟩ := h2
  have hd : d = .agg (xs.map (·.1)) := congrArg Prod.fst e
  subst hd
  have hw : ∀ m ∈ (xs[2]).1.weights Try.prog 23, m ≤ reachBytes := fun m hm => hz m (by
    have : ∃ fs : Array Field, Try.prog.underlying 26 = some (.struct fs) ∧ (fs.toList.map (·.type))[2]? = some 23 := ⟨_, Try.underlying26, rfl⟩
    obtain ⟨fs, hfs, ht2⟩ := this
    simp only [DataW.weights, hfs]
    exact DataW.weights_mem_each ht2 (by rw [List.getElem?_map, List.getElem?_eq_getElem hlt]; rfl) m hm)
  rcases DataW.trod_slice Try.underlying23 h3 with ⟨e4, _⟩ | ⟨a', len, cap', elems, rest, n', _, e4, e5, _, _, _, hlen, _⟩
  · injection e4 with e4
    injection e4 with _ e4 _
    simp only [List.length_map] at e4
    omega
  · injection e4 with e4
    injection e4 with _ e4 _
    simp only [List.length_map] at e4
    have e6 : (xs[2]).1 = .slice (elems.map (·.1)) (rest.map (·.1)) := congrArg Prod.fst e5
    rw [e6] at hw
    have := hw ((elems.length + rest.length) * 80) (by simp [DataW.weights, Try.underlying23, bytes54])
    simp only [reachBytes] at this
    omega
set_option maxRecDepth 100000 in
theorem lifted5 (os : Os) (started : os.Started) (H : Type) (enc : TypeId × Value → H) :
    ReturnsInHanded {} Try.checked os 5 .any (Ytkpcgnjjkaamgaa.Rows.protocolFindsSpec.pre6 enc Try.prog Try.f5 Ytkpcgnjjkaamgaa.Rows.protocolFindsRow.domain false) (Ytkpcgnjjkaamgaa.Rows.protocolFindsSpec.post enc Try.prog Try.f5 false true false false) := by
  refine returnsInHanded_of_change_sized (C := Try.checked) own0 started (by kernel_rfl) Try.func5
    (ChangeSpec.witness6 (enc := enc) (C := Try.checked) false ⟨#[], #[.agg #[.slice none 0 0, .int .i64 0, .slice none 0 0, .slice none 0 0], .int .u8 0, .int .u8 0, .slice none 0 0], []⟩ 6 (by kernel_rfl) (by kernel_rfl) (by kernel_rfl) (by kernel_rfl)) ?_
  intro W base args ds gs before hval0 hW hcnd hsz0 _
  have hval : ∀ (j : Nat) t v, Try.f5.params[j]? = some t → args[j]? = some v → Value.okWide Try.prog W .any base t v := hval0
  have hsz : (DataW.weightsEach Try.prog (Try.f5.params.toList ++ Ytkpcgnjjkaamgaa.Rows.protocolFindsSpec.plain.varTypes Try.prog) (ds ++ gs)).all (· ≤ reachBytes) = true := hsz0
  have hW' := hW
  obtain ⟨p, q, hA0, hV, rfl, hfz, hnd⟩ := hW
  have hA : DataW.TrodAll enc Try.prog W 0 (fun _ => true) true Try.f5.params.toList args.toList ds p := hA0
  rw [Try.params5] at hA hval hsz
  obtain ⟨v0, vs0, d0, ds0, p0, q0, e0, rfl, rfl, h0, hA⟩ := trodAll_cons hA
  obtain ⟨v1, vs1, d1, ds1, p1, q1, rfl, rfl, rfl, h1, hA⟩ := trodAll_cons hA
  obtain ⟨v2, vs2, d2, ds2, p2, q2, rfl, rfl, rfl, h2, hA⟩ := trodAll_cons hA
  obtain ⟨v3, vs3, d3, ds3, p3, q3, rfl, rfl, rfl, h3, hA⟩ := trodAll_cons hA
  obtain ⟨rfl, rfl, rfl⟩ := trodAll_nil hA
  obtain rfl : args = #[v0, v1, v2, v3] := by cases args; simp_all
  obtain ⟨rfl, rfl⟩ := trodVars_none hV
  obtain ⟨x, hx⟩ := argProt (hval 0 26 v0 rfl rfl) h0
  have hr := argProt_sized h0 hx (fun m hm => by
    have := List.all_eq_true.1 hsz m (DataW.weights_mem_each (j := 0) rfl rfl m hm)
    simpa using this)
  obtain ⟨r, hr1⟩ := arg_int Try.underlying5 (hval 1 5 v1 rfl rfl) h1
  obtain ⟨m, hm⟩ := arg_int Try.underlying5 (hval 2 5 v2 rfl rfl) h2
  obtain ⟨st, hst⟩ := arg_slice Try.underlying22 oIs (hval 3 22 v3 rfl rfl) h3
  refine (w5 x hr r m st W (oldB W) #[v0, v1, v2, v3] (fun _ h => h) ?_).mono fun e W' he => ?_
  · simp only [PCs]
    exact ⟨_, _, rfl, hx, _, _, rfl, hr1, _, _, rfl, hm, _, _, rfl, hst, rfl⟩
  · exact law_post kids0 full0 (by rw [Try.params5]; decide +kernel) rfl (by kernel_rfl) Try.underlying4 hW' rfl he
end Go.Vi
namespace Go.Proofs.Ytkpcgnjjkaamgaa
open Go.Vi
theorem protocolFinds_holds : Rows.ProtocolFindsSaid :=
  OpenClaim.holds_of_wide 5 Try.f5 rfl rfl rfl rfl rfl rfl rfl ⟨rfl, rfl, rfl, rfl, rfl⟩ rfl rfl rfl rfl rfl (by kernel_rfl) Try.func5 (by kernel_rfl)
    (of_decide_eq_true (by kernel_rfl)) (by unfold Func.isWrapper; first | (rw [if_pos (by decide +kernel)]; kernel_rfl) | (rw [if_neg (by decide +kernel)]; exact ⟨rfl, rfl⟩))
    (fun os started H enc _ => lifted5 os started H enc)
#print axioms protocolFinds_holds
end Go.Proofs.Ytkpcgnjjkaamgaa
