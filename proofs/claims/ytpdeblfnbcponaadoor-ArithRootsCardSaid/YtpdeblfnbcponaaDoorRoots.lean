/-
  'chiasmuslaw08.ArithRoots' returns true for every input, and its arguments read behind the call as they did: the row, and its tied card.
-/
import Derived.Test.YtpdeblfnbcponaaDoorZI
import Derived.Test.YtpdeblfnbcponaaDoorVC
import Derived.Test.YtpdeblfnbcponaaDoorCards
import Derived.Test.YtpdeblfnbcponaaDoorTie
import Derived.WalkKit
import Derived.ProofKit
import Derived.OpenShut
import Derived.Deep.DeepHandedRow
import Derived.Lib.LaidTab
set_option linter.unusedSimpArgs false
set_option linter.unusedVariables false
set_option maxRecDepth 100000
namespace Go.Vi
open Go Go.Proofs Go.ChangeShapes Go.WideShapes Go.ChangeAt Go.RowKit

theorem own0 : ownKnob Tryd.prog.godebug = none := by kernel_rfl
theorem kids0 : Kids Tryd.prog (· < Tryd.prog.types.size) := kids_rows (by kernel_rfl) (by kernel_rfl)
theorem full0 : ∀ t e, t < Tryd.prog.types.size → Tryd.prog.underlying t = some (.slice e) → 0 < Tryd.prog.cellsOf e := slices_full_of Tryd.prog (by kernel_rfl)
theorem arg_int2 {H : Type} {enc : TypeId × Value → H} {P : Program} {t : TypeId} {k : IntKind} {w : World} {base : Nat} {v : Value} {d : DataW H} {p : List MemPlace} (ht : P.underlying t = some (.int k)) (hv : Value.okWide P w .any base t v) (h : DataW.Trod enc P w 0 (fun _ => true) true t v d p) :
    ∃ n, PC w (oldB w) (.int k n) v ∧ k.min ≤ n ∧ n ≤ k.max := by
  obtain ⟨n, rfl, _, _, hw⟩ := open_int ht hv h
  simp only [Lit.wf, Bool.and_eq_true, decide_eq_true_eq] at hw
  exact ⟨n, by simp [PC], hw.1, hw.2⟩
theorem tab_of_vars {P : Program} {W : World} {name : String} {k : IntKind} {zs : List Int} {rest : List (String × DataW Unit)} {ps : List MemPlace} {g : Nat} {t e : TypeId} {n : Nat}
    (hg : P.globalNamed name = some g) (hty : (P.globals[g]?).map (·.type) = some t) (ht : P.underlying t = some (.array n e)) (he : P.underlying e = some (.int k)) (hce : P.cellsOf e = 1) (hct : P.cellsOf t = n)
    (h : DataW.LaidVars P W ((name, Lib.tabData k zs) :: rest) ps) : Lib.TabIs P W name k zs := by
  obtain ⟨g', t', cs, fuel, p, q, hg', ht', hvar, hd, _, _⟩ := h
  obtain rfl := Option.some.inj (hg.symm.trans hg')
  obtain rfl := Option.some.inj (hty.symm.trans ht')
  unfold Lib.TabIs
  rw [hvar, ← Lib.cells_of_tab ht he hce hct hd]
theorem vars_tail {P : Program} {W : World} {x : String × DataW Unit} {rest : List (String × DataW Unit)} {ps : List MemPlace} (h : DataW.LaidVars P W (x :: rest) ps) : ∃ q, DataW.LaidVars P W rest q := by
  obtain ⟨n, d⟩ := x
  obtain ⟨g', t', cs, fuel, p, q, hg', ht', hvar, hd, hq, _⟩ := h
  exact ⟨q, hq⟩
theorem JA_of {W : World} (h : laidMet Tryd.prog YtpdeblfnbcponaaDoor.Rows.arithRootsRow.laid W) : JA W (oldB W) := by
  obtain ⟨ps, hv, _⟩ := h
  obtain ⟨ps, hv⟩ := vars_tail hv
  obtain ⟨ps, hv⟩ := vars_tail hv
  have ht := tab_of_vars (t := 151) (g := 4) (zs := Lib.pow10Tab) (k := .u64) (e := 126) (n := 20) global4 (by kernel_rfl) (by kernel_rfl) (by kernel_rfl) (by kernel_rfl) (by kernel_rfl) hv
  unfold Lib.TabIs World.var? at ht
  rw [global4] at ht
  simp only [Option.bind_some] at ht
  split at ht
  · rename_i cs t f hc
    injection ht with ht
    subst ht
    intro q hq
    obtain rfl : q = _ := List.mem_singleton.1 hq
    refine ⟨?_, _, _, _, hc, rfl⟩
    exact (Array.getElem?_eq_some_iff.1 hc).1
  · cases ht
theorem contract8 (H : Type) (enc : TypeId × Value → H) (W : World) (base : Nat) (args : Array Value) (ds gs : List (DataW H)) (before : List MemPlace)
    (hval : ∀ (j : Nat) t v, Tryd.f8.params[j]? = some t → args[j]? = some v → Value.okWide Tryd.prog W .any base t v)
    (hW : DataW.Whole enc Tryd.prog Tryd.f8.params.toList YtpdeblfnbcponaaDoor.Rows.arithRootsSpec.vars false W args.toList ds gs before) (hL : laidMet Tryd.prog YtpdeblfnbcponaaDoor.Rows.arithRootsRow.laid W) :
    Calls Tryd.prog 8 args W fun e W' => ∃ v, e = .returned v ∧ YtpdeblfnbcponaaDoor.Rows.arithRootsSpec.post enc Tryd.prog Tryd.f8 false true false false W args v W' := by
  have hW' := hW
  obtain ⟨p, q, hA0, hV, rfl, hfz, hnd⟩ := hW
  have hA : DataW.TrodAll enc Tryd.prog W 0 (fun _ => true) true Tryd.f8.params.toList args.toList ds p := hA0
  rw [Tryd.params8] at hA hval
  obtain ⟨v0, vs0, d0, ds0, p0, q0, e0, rfl, rfl, h0, hA⟩ := trodAll_cons hA
  obtain ⟨v1, vs1, d1, ds1, p1, q1, rfl, rfl, rfl, h1, hA⟩ := trodAll_cons hA
  obtain ⟨v2, vs2, d2, ds2, p2, q2, rfl, rfl, rfl, h2, hA⟩ := trodAll_cons hA
  obtain ⟨v3, vs3, d3, ds3, p3, q3, rfl, rfl, rfl, h3, hA⟩ := trodAll_cons hA
  obtain ⟨v4, vs4, d4, ds4, p4, q4, rfl, rfl, rfl, h4, hA⟩ := trodAll_cons hA
  obtain ⟨rfl, rfl, rfl⟩ := trodAll_nil hA
  obtain rfl : args = #[v0, v1, v2, v3, v4] := by cases args; simp_all
  obtain ⟨rfl, rfl⟩ := trodVars_none hV
  obtain ⟨x0, hx0⟩ := arg_str Tryd.underlying9 (hval 0 9 v0 rfl rfl) h0
  obtain ⟨x1, hx1, ha1, hb1⟩ := arg_int2 Tryd.underlying5 (hval 1 5 v1 rfl rfl) h1
  obtain ⟨x2, hx2, ha2, hb2⟩ := arg_int2 Tryd.underlying5 (hval 2 5 v2 rfl rfl) h2
  obtain ⟨x3, hx3, ha3, hb3⟩ := arg_int2 Tryd.underlying40 (hval 3 40 v3 rfl rfl) h3
  obtain ⟨x4, hx4, ha4, hb4⟩ := arg_int2 Tryd.underlying3 (hval 4 3 v4 rfl rfl) h4
  have k1 : IntKind.u8.min = 0 ∧ IntKind.u8.max = 255 := by decide
  have k2 : IntKind.u16.min = 0 ∧ IntKind.u16.max = 65535 := by decide
  have k3 : IntKind.i64.min = -9223372036854775808 ∧ IntKind.i64.max = 9223372036854775807 := by decide
  obtain ⟨n1, rfl⟩ : ∃ n : Nat, x1 = n := ⟨x1.toNat, by omega⟩
  obtain ⟨n2, rfl⟩ : ∃ n : Nat, x2 = n := ⟨x2.toNat, by omega⟩
  obtain ⟨n3, rfl⟩ : ∃ n : Nat, x3 = n := ⟨x3.toNat, by omega⟩
  refine (w8 x0 n1 n2 n3 x4 (by omega) (by omega) (by omega) (by omega) W (oldB W) #[v0, v1, v2, v3, v4] (JA_of hL) (fun _ h => h) ?_).mono fun e W' he => ?_
  · simp only [PCs]
    exact ⟨_, _, rfl, hx0, _, _, rfl, hx1, _, _, rfl, hx2, _, _, rfl, hx3, _, _, rfl, hx4, rfl⟩
  · exact law_post kids0 full0 (by rw [Tryd.params8]; decide +kernel) rfl (by kernel_rfl) Tryd.underlying4 hW' rfl he
def lit1 : DataW Unit → List Value
  | .lit (.int k n) => [.int k n]
  | _ => []
def lit2 : DataW Unit → List Value
  | .agg es => es.flatMap lit1
  | d => lit1 d
def lits : DataW Unit → Array Value
  | .agg ds => (ds.flatMap lit2).toArray
  | _ => #[]
def setCells (cs : Array Value) : Go.Obj → Go.Obj
  | .cells _ t frozen => .cells cs t frozen
  | o => o
def strLit : DataW Unit → Array Value
  | .iface _ (.ptr (.agg [.lit (.string s)])) => #[.string ⟨s.toArray⟩]
  | _ => #[]
noncomputable def heap0 (os : Os) : Array Go.Obj := (World.holding Tryd.prog os ⟨#[], #[], []⟩).heap
noncomputable def laidWorld (os : Os) : World :=
  { World.holding Tryd.prog os ⟨#[], #[], []⟩ with
    heap := (((((((((heap0 os).modify 3 (setCells (lits YtpdeblfnbcponaaDoor.Rows.laid_unicode_utf8_acceptRanges))).modify 2 (setCells (lits YtpdeblfnbcponaaDoor.Rows.laid_unicode_utf8_first))).modify 4 (setCells (lits YtpdeblfnbcponaaDoor.Rows.laid_internal_strconv_uint64pow10))).modify 6 (setCells (lits YtpdeblfnbcponaaDoor.Rows.laid_math_bits_deBruijn32tab))).modify 7 (setCells (lits YtpdeblfnbcponaaDoor.Rows.laid_math_bits_deBruijn64tab))).modify 1 (setCells #[.iface 147 (.pointer (some ⟨(heap0 os).size, 0, none⟩))])).modify 0 (setCells #[.iface 147 (.pointer (some ⟨(heap0 os).size + 1, 0, none⟩))])).push (.cells (strLit YtpdeblfnbcponaaDoor.Rows.laid_strconv_ErrRange) 149 (0, 0))).push (.cells (strLit YtpdeblfnbcponaaDoor.Rows.laid_strconv_ErrSyntax) 149 (0, 0)) }
theorem laid_met (os : Os) : laidMet Tryd.prog YtpdeblfnbcponaaDoor.Rows.arithRootsRow.laid ((laidWorld os).forCall (fun _ _ => 0) ⟨#[], #[.string ⟨#[]⟩, .int .u8 0, .int .u8 0, .int .u16 0, .int .i64 0], []⟩).memory :=
  laidMet_of_run' 8 (by kernel_rfl) (by kernel_rfl)
theorem reads (os : Os) {H : Type} (enc : TypeId × Value → H) : ∃ places, DataW.whole enc Tryd.prog ((laidWorld os).forCall (fun _ _ => 0) ⟨#[], #[.string ⟨#[]⟩, .int .u8 0, .int .u8 0, .int .u16 0, .int .i64 0], []⟩).memory Tryd.f8.params.toList YtpdeblfnbcponaaDoor.Rows.arithRootsSpec.vars false #[Value.string ⟨#[]⟩, Value.int .u8 0, Value.int .u8 0, Value.int .u16 0, Value.int .i64 0].toList 8 = some ([.lit (.string []), .lit (.int .u8 0), .lit (.int .u8 0), .lit (.int .u16 0), .lit (.int .i64 0)], [], places) :=
  ⟨[], by kernel_rfl⟩
set_option maxRecDepth 100000 in
theorem lifted8 (os : Os) (started : os.Started) (H : Type) (enc : TypeId × Value → H) (F : Stop.Interp) :
    ReturnsInHanded {} Tryd.checked os 8 .any ((OpenSpec.ofChange YtpdeblfnbcponaaDoor.Rows.arithRootsSpec).preRow enc Tryd.prog Tryd.f8 YtpdeblfnbcponaaDoor.Rows.arithRootsRow.domain false YtpdeblfnbcponaaDoor.Rows.arithRootsRow.laid) (((OpenSpec.ofChange YtpdeblfnbcponaaDoor.Rows.arithRootsSpec).at F).post enc Tryd.prog Tryd.f8 false true false false) := by
  obtain ⟨places, hx⟩ := reads os enc
  refine returnsInHanded_of_row (C := Tryd.checked) (s := OpenSpec.ofChange YtpdeblfnbcponaaDoor.Rows.arithRootsSpec) own0 started (by kernel_rfl) Tryd.func8
    (witness_row_at (enc := enc) (C := Tryd.checked) false (laidWorld os) #[.string ⟨#[]⟩, .int .u8 0, .int .u8 0, .int .u16 0, .int .i64 0] rfl (by kernel_rfl) (by kernel_rfl) (by kernel_rfl)
      (OpenSpec.preRow_of_cond 8 hx (by kernel_rfl) (fun k hk => by cases hk) (by kernel_rfl) (laid_met os))) ?_
  intro W base args ds gs before hval hW _ _ _ hL _ _
  exact contract8 H enc W base args ds gs before hval hW hL
end Go.Vi
namespace Go.Proofs.YtpdeblfnbcponaaDoor
open Go.Vi
theorem said8 : Rows.ArithRootsSaid :=
  OpenClaim.holds_of_cond 8 Tryd.f8 rfl rfl rfl rfl rfl rfl rfl ⟨rfl, rfl, rfl, rfl, rfl⟩ rfl rfl rfl rfl rfl (by kernel_rfl) Tryd.func8 (by kernel_rfl)
    (of_decide_eq_true (by kernel_rfl)) (by unfold Func.isWrapper; first | (rw [if_pos (by decide +kernel)]; kernel_rfl) | (rw [if_neg (by decide +kernel)]; exact ⟨rfl, rfl⟩))
    (fun os started H enc _ F => by rw [OpenClaim.pre_eq_preRow]; exact lifted8 os started H enc F)
theorem plain8 (f : FuncId) (fn : Func) (hf : Tryd.pinned.checked.prog.funcNamed "chiasmus/chiasmuslaw08.ArithRoots" = some f) (hfn : Tryd.pinned.checked.prog.funcs[f]? = some fn) :
    true = Tryd.pinned.checked.prog.looks [] ∧ ∀ (j : Nat) t, fn.params[j]? = some t → Tryd.pinned.checked.prog.wantsStandIn t = false := by
  obtain rfl : f = 8 := Option.some.inj ((show Tryd.prog.funcNamed "chiasmus/chiasmuslaw08.ArithRoots" = some 8 by kernel_rfl).symm.trans hf) |>.symm
  obtain rfl : fn = Tryd.f8 := (Option.some.inj (Tryd.func8.symm.trans hfn)).symm
  refine ⟨by kernel_rfl, fun j t ht => ?_⟩
  rw [Tryd.params8] at ht
  have hm : t = 9 ∨ t = 5 ∨ t = 40 ∨ t = 3 := by
    have := Array.mem_of_getElem? ht
    simp at this
    omega
  rcases hm with rfl | rfl | rfl | rfl
  · exact (show Tryd.prog.wantsStandIn 9 = false by kernel_rfl)
  · exact (show Tryd.prog.wantsStandIn 5 = false by kernel_rfl)
  · exact (show Tryd.prog.wantsStandIn 40 = false by kernel_rfl)
  · exact (show Tryd.prog.wantsStandIn 3 = false by kernel_rfl)
theorem arithRoots_holds : Rows.ArithRootsCardSaid :=
  Claim7.holds_tied_plain_at .later [] _ _ _ _ said8 (fun _ h => by cases h) (by kernel_rfl) (fun _ h => by cases h) arithRoots_row_tie rfl ⟨rfl, rfl⟩ (by kernel_rfl) rfl plain8 (by kernel_rfl)
#print axioms arithRoots_holds
end Go.Proofs.YtpdeblfnbcponaaDoor
