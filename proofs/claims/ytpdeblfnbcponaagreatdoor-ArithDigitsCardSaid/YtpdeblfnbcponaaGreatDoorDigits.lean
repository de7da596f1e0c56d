/-
  'chiasmuslaw08.ArithDigits' returns true for every input, and its arguments read behind the call as they did: the row, and its tied card.
-/
import Derived.Test.YtpdeblfnbcponaaGreatDoorQB
import Derived.Test.YtpdeblfnbcponaaGreatDoorVC
import Derived.Test.YtpdeblfnbcponaaGreatDoorCards
import Derived.Test.YtpdeblfnbcponaaGreatDoorTie
import Derived.WalkKit
import Derived.ProofKit
import Derived.OpenShut
import Derived.Deep.DeepHandedRow
import Derived.Lib.LaidTab
set_option linter.unusedSimpArgs false
set_option linter.unusedVariables false
set_option maxRecDepth 100000
namespace Go.Vi
open Go Go.Proofs Go.ChangeShapes Go.WideShapes Go.ChangeAt Go.RowKit

theorem own0 : ownKnob Tryz.prog.godebug = none := by kernel_rfl
theorem kids0 : Kids Tryz.prog (· < Tryz.prog.types.size) := kids_rows (by kernel_rfl) (by kernel_rfl)
theorem full0 : ∀ t e, t < Tryz.prog.types.size → Tryz.prog.underlying t = some (.slice e) → 0 < Tryz.prog.cellsOf e := slices_full_of Tryz.prog (by kernel_rfl)
theorem oI : Opens Tryz.prog 3 I := opens_int Tryz.underlying3 (by kernel_rfl)
theorem oIs : Opens Tryz.prog 22 Is := opens_slice Tryz.underlying22 (by kernel_rfl) oI (by decide +kernel)
theorem arg_int2 {H : Type} {enc : TypeId × Value → H} {P : Program} {t : TypeId} {k : IntKind} {w : World} {base : Nat} {v : Value} {d : DataW H} {p : List MemPlace} (ht : P.underlying t = some (.int k)) (hv : Value.okWide P w .any base t v) (h : DataW.Trod enc P w 0 (fun _ => true) true t v d p) :
    ∃ n, PC w (oldB w) (.int k n) v ∧ k.min ≤ n ∧ n ≤ k.max := by
  obtain ⟨n, rfl, _, _, hw⟩ := open_int ht hv h
  simp only [Lit.wf, Bool.and_eq_true, decide_eq_true_eq] at hw
  exact ⟨n, by simp [PC], hw.1, hw.2⟩
theorem tab_of_vars {P : Program} {W : World} {name : String} {k : IntKind} {zs : List Int} {rest : List (String × DataW Unit)} {ps : List MemPlace} {g : Nat} {t e : TypeId} {n : Nat}
    (hg : P.globalNamed name = some g) (hty : (P.globals[g]?).map (·.type) = some t) (ht : P.underlying t = some (.array n e)) (he : P.underlying e = some (.int k)) (hce : P.cellsOf e = 1) (hct : P.cellsOf t = n)
    (h : DataW.LaidVars P W ((name, Lib.tabData k zs) :: rest) ps) : Lib.TabIs P W name k zs := by
  obtain ⟨g', t', cs, fuel, p, q, hg', ht', hvar, hd, _, _⟩ := h
  obtain rfl := Option.some.inj (hg.symm.trans hg')
  obtain rfl := Option.some.inj (hty.symm.trans ht')
  unfold Lib.TabIs
  rw [hvar, ← Lib.cells_of_tab ht he hce hct hd]
theorem vars_tail {P : Program} {W : World} {x : String × DataW Unit} {rest : List (String × DataW Unit)} {ps : List MemPlace} (h : DataW.LaidVars P W (x :: rest) ps) : ∃ q, DataW.LaidVars P W rest q := by
  obtain ⟨n, d⟩ := x
  obtain ⟨g', t', cs, fuel, p, q, hg', ht', hvar, hd, hq, _⟩ := h
  exact ⟨q, hq⟩
theorem cells_of_iface {H : Type} {enc : TypeId × Value → H} {P : Program} {w : World} {base : Nat} {sp : Nat → Bool} {fuel : Nat} {t : TypeId} {ms} {cs : List Value} {nm : String} {d : DataW H} {p : List MemPlace}
    (ht : P.underlying t = some (.interface ms)) (h : DataW.trod enc P w base sp false fuel t cs = some (.iface nm d, p)) : ∃ u v, cs = [.iface u v] := by
  cases fuel with
  | zero => simp [DataW.trod] at h
  | succ fuel =>
    unfold DataW.trod at h
    rw [ht] at h
    split at h <;> first | (simp_all; done) | exact ⟨_, _, rfl⟩
theorem sent_of_vars {P : Program} {W : World} {name nm : String} {d : DataW Unit} {rest : List (String × DataW Unit)} {ps : List MemPlace} {g : Nat} {t : TypeId} {ms}
    (hg : P.globalNamed name = some g) (hty : (P.globals[g]?).map (·.type) = some t) (ht : P.underlying t = some (.interface ms))
    (h : DataW.LaidVars P W ((name, .iface nm d) :: rest) ps) : ∃ u v, W.var? P name = some #[.iface u v] := by
  obtain ⟨g', t', cs, fuel, p, q, hg', ht', hvar, hd, _, _⟩ := h
  obtain rfl := Option.some.inj (hg.symm.trans hg')
  obtain rfl := Option.some.inj (hty.symm.trans ht')
  obtain ⟨u, v, hc⟩ := cells_of_iface ht hd
  refine ⟨u, v, ?_⟩
  rw [hvar]
  congr 1
  cases cs
  simp at hc
  rw [hc]
theorem global1 : Tryz.prog.globalNamed "strconv.ErrRange" = some 1 := by kernel_rfl
theorem cells_at {P : Program} {W : World} {name : String} {g : Nat} {cs : Array Value} (hg : P.globalNamed name = some g) (h : W.var? P name = some cs) : g < W.heap.size ∧ ∃ t f, W.heap[g]? = some (.cells cs t f) := by
  unfold World.var? at h
  rw [hg] at h
  simp only [Option.bind_some] at h
  split at h
  · rename_i cs' t f hc
    injection h with h
    subst h
    exact ⟨(Array.getElem?_eq_some_iff.1 hc).1, t, f, hc⟩
  · cases h
theorem JA_of {W : World} (h : laidMet Tryz.prog YtpdeblfnbcponaaGreatDoor.Rows.arithDigitsRow.laid W) : JA W (oldB W) := by
  obtain ⟨ps, hv, _⟩ := h
  obtain ⟨ps, hv⟩ := vars_tail hv
  obtain ⟨ps, hv⟩ := vars_tail hv
  have ht := tab_of_vars (t := 131) (g := 2) (zs := Lib.pow10Tab) (k := .u64) (e := 111) (n := 20) global4 (by kernel_rfl) (by kernel_rfl) (by kernel_rfl) (by kernel_rfl) (by kernel_rfl) hv
  obtain ⟨ps, hv⟩ := vars_tail hv
  obtain ⟨ps, hv⟩ := vars_tail hv
  obtain ⟨u, v, hs⟩ := sent_of_vars (t := 67) global1 (by kernel_rfl) Tryz.underlying67 hv
  obtain ⟨a1, t1, f1, c1⟩ := cells_at global4 ht
  obtain ⟨a2, t2, f2, c2⟩ := cells_at global1 hs
  intro q hq
  unfold JL at hq
  rcases List.mem_cons.1 hq with rfl | hq
  · exact ⟨a1, _, _, _, c1, rfl⟩
  · obtain rfl := List.mem_singleton.1 hq
    exact ⟨a2, _, _, _, c2, u, v, rfl⟩
theorem contract3 (H : Type) (enc : TypeId × Value → H) (W : World) (base : Nat) (args : Array Value) (ds gs : List (DataW H)) (before : List MemPlace)
    (hval : ∀ (j : Nat) t v, Tryz.f3.params[j]? = some t → args[j]? = some v → Value.okWide Tryz.prog W .any base t v)
    (hW : DataW.Whole enc Tryz.prog Tryz.f3.params.toList YtpdeblfnbcponaaGreatDoor.Rows.arithDigitsSpec.vars false W args.toList ds gs before) (hL : laidMet Tryz.prog YtpdeblfnbcponaaGreatDoor.Rows.arithDigitsRow.laid W) :
    Calls Tryz.prog 3 args W fun e W' => ∃ v, e = .returned v ∧ YtpdeblfnbcponaaGreatDoor.Rows.arithDigitsSpec.post enc Tryz.prog Tryz.f3 false true false false W args v W' := by
  have hW' := hW
  obtain ⟨p, q, hA0, hV, rfl, hfz, hnd⟩ := hW
  have hA : DataW.TrodAll enc Tryz.prog W 0 (fun _ => true) true Tryz.f3.params.toList args.toList ds p := hA0
  rw [Tryz.params3] at hA hval
  obtain ⟨v0, vs0, d0, ds0, p0, q0, e0, rfl, rfl, h0, hA⟩ := trodAll_cons hA
  obtain ⟨v1, vs1, d1, ds1, p1, q1, rfl, rfl, rfl, h1, hA⟩ := trodAll_cons hA
  obtain ⟨v2, vs2, d2, ds2, p2, q2, rfl, rfl, rfl, h2, hA⟩ := trodAll_cons hA
  obtain ⟨rfl, rfl, rfl⟩ := trodAll_nil hA
  obtain rfl : args = #[v0, v1, v2] := by cases args; simp_all
  obtain ⟨rfl, rfl⟩ := trodVars_none hV
  obtain ⟨x0, hx0⟩ := arg_str Tryz.underlying9 (hval 0 9 v0 rfl rfl) h0
  obtain ⟨x1, hx1⟩ := arg_slice Tryz.underlying22 oIs (hval 1 22 v1 rfl rfl) h1
  obtain ⟨x2, hx2, ha2, hb2⟩ := arg_int2 Tryz.underlying3 (hval 2 3 v2 rfl rfl) h2
  have k3 : IntKind.i64.min = -9223372036854775808 ∧ IntKind.i64.max = 9223372036854775807 := by decide
  refine (w303 x0 x1 x2 (by omega) W (oldB W) #[v0, v1, v2] (JA_of hL) (fun _ h => h) ?_).mono fun e W' he => ?_
  · simp only [PCs]
    exact ⟨_, _, rfl, hx0, _, _, rfl, hx1, _, _, rfl, hx2, rfl⟩
  · exact law_post kids0 full0 (by rw [Tryz.params3]; decide +kernel) rfl (by kernel_rfl) Tryz.underlying4 hW' rfl he
def lit1 : DataW Unit → List Value
  | .lit (.int k n) => [.int k n]
  | _ => []
def lit2 : DataW Unit → List Value
  | .agg es => es.flatMap lit1
  | d => lit1 d
def lits : DataW Unit → Array Value
  | .agg ds => (ds.flatMap lit2).toArray
  | _ => #[]
def setCells (cs : Array Value) : Go.Obj → Go.Obj
  | .cells _ t frozen => .cells cs t frozen
  | o => o
def strLit : DataW Unit → Array Value
  | .iface _ (.ptr (.agg [.lit (.string s)])) => #[.string ⟨s.toArray⟩]
  | _ => #[]
noncomputable def heap0 (os : Os) : Array Go.Obj := (World.holding Tryz.prog os ⟨#[], #[], []⟩).heap
noncomputable def laidWorld (os : Os) : World :=
  { World.holding Tryz.prog os ⟨#[], #[], []⟩ with
    heap := (((((((((heap0 os).modify 4 (setCells (lits YtpdeblfnbcponaaGreatDoor.Rows.laid_unicode_utf8_acceptRanges))).modify 3 (setCells (lits YtpdeblfnbcponaaGreatDoor.Rows.laid_unicode_utf8_first))).modify 2 (setCells (lits YtpdeblfnbcponaaGreatDoor.Rows.laid_internal_strconv_uint64pow10))).modify 6 (setCells (lits YtpdeblfnbcponaaGreatDoor.Rows.laid_math_bits_deBruijn32tab))).modify 7 (setCells (lits YtpdeblfnbcponaaGreatDoor.Rows.laid_math_bits_deBruijn64tab))).modify 1 (setCells #[.iface 127 (.pointer (some ⟨(heap0 os).size, 0, none⟩))])).modify 0 (setCells #[.iface 127 (.pointer (some ⟨(heap0 os).size + 1, 0, none⟩))])).push (.cells (strLit YtpdeblfnbcponaaGreatDoor.Rows.laid_strconv_ErrRange) 129 (0, 0))).push (.cells (strLit YtpdeblfnbcponaaGreatDoor.Rows.laid_strconv_ErrSyntax) 129 (0, 0)) }
theorem laid_met (os : Os) : laidMet Tryz.prog YtpdeblfnbcponaaGreatDoor.Rows.arithDigitsRow.laid ((laidWorld os).forCall (fun _ _ => 0) ⟨#[], #[.string ⟨#[]⟩, .slice none 0 0, .int .i64 0], []⟩).memory :=
  laidMet_of_run' 8 (by kernel_rfl) (by kernel_rfl)
theorem reads (os : Os) {H : Type} (enc : TypeId × Value → H) : ∃ places, DataW.whole enc Tryz.prog ((laidWorld os).forCall (fun _ _ => 0) ⟨#[], #[.string ⟨#[]⟩, .slice none 0 0, .int .i64 0], []⟩).memory Tryz.f3.params.toList YtpdeblfnbcponaaGreatDoor.Rows.arithDigitsSpec.vars false #[Value.string ⟨#[]⟩, Value.slice none 0 0, Value.int .i64 0].toList 8 = some ([.lit (.string []), .nil, .lit (.int .i64 0)], [], places) :=
  ⟨[], by kernel_rfl⟩
set_option maxRecDepth 100000 in
theorem lifted3 (os : Os) (started : os.Started) (H : Type) (enc : TypeId × Value → H) (F : Stop.Interp) :
    ReturnsInHanded {} Tryz.checked os 3 .any ((OpenSpec.ofChange YtpdeblfnbcponaaGreatDoor.Rows.arithDigitsSpec).preRow enc Tryz.prog Tryz.f3 YtpdeblfnbcponaaGreatDoor.Rows.arithDigitsRow.domain false YtpdeblfnbcponaaGreatDoor.Rows.arithDigitsRow.laid) (((OpenSpec.ofChange YtpdeblfnbcponaaGreatDoor.Rows.arithDigitsSpec).at F).post enc Tryz.prog Tryz.f3 false true false false) := by
  obtain ⟨places, hx⟩ := reads os enc
  refine returnsInHanded_of_row (C := Tryz.checked) (s := OpenSpec.ofChange YtpdeblfnbcponaaGreatDoor.Rows.arithDigitsSpec) own0 started (by kernel_rfl) Tryz.func3
    (witness_row_at (enc := enc) (C := Tryz.checked) false (laidWorld os) #[.string ⟨#[]⟩, .slice none 0 0, .int .i64 0] rfl (by kernel_rfl) (by kernel_rfl) (by kernel_rfl)
      (OpenSpec.preRow_of_cond 8 hx (by kernel_rfl) (fun k hk => by cases hk) (by kernel_rfl) (laid_met os))) ?_
  intro W base args ds gs before hval hW _ _ _ hL _ _
  exact contract3 H enc W base args ds gs before hval hW hL
end Go.Vi
namespace Go.Proofs.YtpdeblfnbcponaaGreatDoor
open Go.Vi
theorem said3 : Rows.ArithDigitsSaid :=
  OpenClaim.holds_of_cond 3 Tryz.f3 rfl rfl rfl rfl rfl rfl rfl ⟨rfl, rfl, rfl, rfl, rfl⟩ rfl rfl rfl rfl rfl (by kernel_rfl) Tryz.func3 (by kernel_rfl)
    (of_decide_eq_true (by kernel_rfl)) (by unfold Func.isWrapper; first | (rw [if_pos (by decide +kernel)]; kernel_rfl) | (rw [if_neg (by decide +kernel)]; exact ⟨rfl, rfl⟩))
    (fun os started H enc _ F => by rw [OpenClaim.pre_eq_preRow]; exact lifted3 os started H enc F)
theorem plain3 (f : FuncId) (fn : Func) (hf : Tryz.pinned.checked.prog.funcNamed "chiasmus/chiasmuslaw08.ArithDigits" = some f) (hfn : Tryz.pinned.checked.prog.funcs[f]? = some fn) :
    true = Tryz.pinned.checked.prog.looks [] ∧ ∀ (j : Nat) t, fn.params[j]? = some t → Tryz.pinned.checked.prog.wantsStandIn t = false := by
  obtain rfl : f = 3 := Option.some.inj ((show Tryz.prog.funcNamed "chiasmus/chiasmuslaw08.ArithDigits" = some 3 by kernel_rfl).symm.trans hf) |>.symm
  obtain rfl : fn = Tryz.f3 := (Option.some.inj (Tryz.func3.symm.trans hfn)).symm
  refine ⟨by kernel_rfl, fun j t ht => ?_⟩
  rw [Tryz.params3] at ht
  have hm : t = 9 ∨ t = 22 ∨ t = 3 := by
    have := Array.mem_of_getElem? ht
    simp at this
    omega
  rcases hm with rfl | rfl | rfl
  · exact (show Tryz.prog.wantsStandIn 9 = false by kernel_rfl)
  · exact (show Tryz.prog.wantsStandIn 22 = false by kernel_rfl)
  · exact (show Tryz.prog.wantsStandIn 3 = false by kernel_rfl)
theorem arithDigits_holds : Rows.ArithDigitsCardSaid :=
  Claim7.holds_tied_plain_at .later [] _ _ _ _ said3 (fun _ h => by cases h) (by kernel_rfl) (fun _ h => by cases h) arithDigits_row_tie rfl ⟨rfl, rfl⟩ (by kernel_rfl) rfl plain3 (by kernel_rfl)
#print axioms arithDigits_holds
end Go.Proofs.YtpdeblfnbcponaaGreatDoor
