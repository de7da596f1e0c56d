/-
  Walk of Variables.
-/
import Derived.Test.YtpibnnopnhmijaaGreatDoorRB
import Derived.Test.YtpibnnopnhmijaaGreatDoorRC
import Derived.Test.YtpibnnopnhmijaaGreatDoorRD
import Derived.Test.YtpibnnopnhmijaaGreatDoorS1
import Derived.Test.YtpibnnopnhmijaaGreatDoorRA
import Derived.Test.YtpibnnopnhmijaaGreatDoorVD
import Derived.WalkKit
import Derived.ProofKit
import Derived.Test.YtpibnnopnhmijaaGreatDoorCards
import Derived.Test.YtpibnnopnhmijaaGreatDoorTie
import Derived.OpenShut
import Derived.Deep.DeepHandedRow
import Derived.Lib.LaidTab
set_option linter.unusedSimpArgs false
set_option linter.unusedVariables false
set_option maxRecDepth 100000
set_option maxHeartbeats 1000000
namespace Go.Vi
open Go Go.Proofs

end Go.Vi
set_option maxRecDepth 100000
set_option maxHeartbeats 1000000
namespace Go.Vi
open Go Go.Proofs

end Go.Vi
set_option maxRecDepth 100000
set_option maxHeartbeats 1000000
namespace Go.Vi
open Go Go.Proofs

end Go.Vi
set_option maxRecDepth 100000
namespace Go.Vi
open Go Go.Proofs

theorem global1 : Tryz.prog.globalNamed "internal/strconv.uint64pow10" = some 3 := by kernel_rfl
end Go.Vi
set_option maxRecDepth 100000
namespace Go.Vi
open Go Go.Proofs Go.ChangeShapes Go.WideShapes Go.ChangeAt Go.RowKit

theorem own0 : ownKnob Tryz.prog.godebug = none := by kernel_rfl
theorem kids0 : Kids Tryz.prog (· < Tryz.prog.types.size) := kids_rows (by kernel_rfl) (by kernel_rfl)
theorem full0 : ∀ t e, t < Tryz.prog.types.size → Tryz.prog.underlying t = some (.slice e) → 0 < Tryz.prog.cellsOf e := slices_full_of Tryz.prog (by kernel_rfl)
theorem reach15 {n : Nat} (h : n ≤ reachBytes) : n ≤ 1000000000000000 := by unfold reachBytes at h; omega
theorem OpS.map {α β : Type} {P : Program} {t : TypeId} {f : α → V} {ok : α → Prop} {m : Nat} (h : OpS P t f ok m) (g : α → β) {f' : β → V} {ok' : β → Prop} (e : ∀ a, f' (g a) = f a) (o : ∀ a, ok a → ok' (g a)) : OpS P t f' ok' m := fun hx hz =>
  let ⟨a, ha, hao⟩ := h hx hz
  ⟨g a, by rw [e]; exact ha, o a hao⟩
theorem cells35 : Tryz.prog.cellsOf 52 = 3 := by kernel_rfl
theorem cells59 : Tryz.prog.cellsOf 57 = 2 := by kernel_rfl
theorem len_tv (t : Tm) : (cellsV (tv t)).length = Tryz.prog.cellsOf 52 := by cases t; rw [tv_mk, cells35]; rfl
theorem len_bn (b : Bn) : (cellsV b.v).length = Tryz.prog.cellsOf 57 := by rw [cells59]; rfl
theorem opT : ∀ m, OpS Tryz.prog 52 tv txt1 m ∧ OpS Tryz.prog 22 (fun l : List Tm => V.lst (l.map tv)) txs m := by
  intro m
  induction m using Nat.strongRecOn with
  | ind m IH =>
  refine ⟨?_, ?_⟩
  · refine OpS.map (opS_struct Tryz.underlying52 (fun n hn => opSF_cons rfl (opS_int Tryz.underlying3) (opSF_cons (by kernel_rfl) (opS_str Tryz.underlying9) (opSF_cons (by kernel_rfl) (IH n hn).2 opSF_nil))) (by kernel_rfl)) (fun b => Tm.mk b.1 b.2.1 b.2.2.1) (fun b => ?_) (fun b h => ?_)
    · rw [tv_mk]; rfl
    · exact ⟨reach15 h.2.1, h.2.2.1⟩
  · exact OpS.map (opS_slice Tryz.underlying22 (fun n hn => (IH n hn).1) len_tv (by rw [cells35]; decide)) id (fun _ => rfl) (fun l h => txs_of h)
theorem opB (m : Nat) : OpS Tryz.prog 40 (fun l : List Bn => V.lst (l.map Bn.v)) argB m := by
  have hb : ∀ m, OpS Tryz.prog 57 Bn.v (fun b => b.x.length ≤ 1000000000000000 ∧ txs b.e) m := fun m => by
    refine OpS.map (opS_struct Tryz.underlying57 (fun n hn => opSF_cons rfl (opS_str Tryz.underlying9) (opSF_cons (by kernel_rfl) (opT n).2 opSF_nil)) (by kernel_rfl)) (fun b => Bn.mk b.1 b.2.1) (fun b => rfl) (fun b h => ?_)
    exact ⟨reach15 h.1, h.2.1⟩
  intro H enc w cs x hx hz
  exact opS_slice Tryz.underlying40 (fun n hn => hb n) len_bn (by rw [cells59]; decide) hx hz
theorem argBs {H : Type} {enc : TypeId × Value → H} {w : World} {base : Nat} {v : Value} {d : DataW H} {p : List MemPlace} (hv : Value.okWide Tryz.prog w .any base 40 v) (h : DataW.Trod enc Tryz.prog w 0 (fun _ => true) true 40 v d p) (hz : ∀ n ∈ d.weights Tryz.prog 40, n ≤ reachBytes) : ∃ l : List Bn, PC w (oldB w) (Bs l) v ∧ argB l :=
  argS_slice Tryz.underlying40 opB hv h hz
theorem sized_at {H : Type} {ts : List TypeId} {ds : List (DataW H)} (h : (DataW.weightsEach Tryz.prog ts ds).all (· ≤ reachBytes) = true) {j : Nat} {t : TypeId} {d : DataW H} (ht : ts[j]? = some t) (hd : ds[j]? = some d) : ∀ n ∈ d.weights Tryz.prog t, n ≤ reachBytes := fun n hn => by
  have := List.all_eq_true.1 h n (DataW.weights_mem_each ht hd n hn)
  simpa using this
end Go.Vi
set_option maxRecDepth 100000
namespace Go.Vi
open Go Go.Proofs Go.ChangeShapes Go.WideShapes Go.ChangeAt Go.RowKit

theorem tab_of_vars {P : Program} {W : World} {name : String} {k : IntKind} {zs : List Int} {rest : List (String × DataW Unit)} {ps : List MemPlace} {g : Nat} {t e : TypeId} {n : Nat}
    (hg : P.globalNamed name = some g) (hty : (P.globals[g]?).map (·.type) = some t) (ht : P.underlying t = some (.array n e)) (he : P.underlying e = some (.int k)) (hce : P.cellsOf e = 1) (hct : P.cellsOf t = n)
    (h : DataW.LaidVars P W ((name, Lib.tabData k zs) :: rest) ps) : Lib.TabIs P W name k zs := by
  obtain ⟨g', t', cs, fuel, p, q, hg', ht', hvar, hd, _, _⟩ := h
  obtain rfl := Option.some.inj (hg.symm.trans hg')
  obtain rfl := Option.some.inj (hty.symm.trans ht')
  unfold Lib.TabIs
  rw [hvar, ← Lib.cells_of_tab ht he hce hct hd]
theorem vars_tail {P : Program} {W : World} {x : String × DataW Unit} {rest : List (String × DataW Unit)} {ps : List MemPlace} (h : DataW.LaidVars P W (x :: rest) ps) : ∃ q, DataW.LaidVars P W rest q := by
  obtain ⟨n, d⟩ := x
  obtain ⟨g', t', cs, fuel, p, q, hg', ht', hvar, hd, hq, _⟩ := h
  exact ⟨q, hq⟩
theorem JA_of {W : World} (h : laidMet Tryz.prog YtpibnnopnhmijaaGreatDoor.Rows.applyComposesRow.laid W) : JA W (oldB W) := by
  obtain ⟨ps, hv, _⟩ := h
  obtain ⟨ps, hv⟩ := vars_tail hv
  obtain ⟨ps, hv⟩ := vars_tail hv
  have ht := tab_of_vars (t := 152) (g := 3) (zs := Lib.pow10Tab) (k := .u64) (e := 135) (n := 20) global1 (by kernel_rfl) (by kernel_rfl) (by kernel_rfl) (by kernel_rfl) (by kernel_rfl) hv
  unfold Lib.TabIs World.var? at ht
  rw [global1] at ht
  simp only [Option.bind_some] at ht
  split at ht
  · rename_i cs t f hc
    injection ht with ht
    subst ht
    intro q hq
    obtain rfl : q = _ := List.mem_singleton.1 hq
    refine ⟨?_, _, _, _, hc, rfl⟩
    exact (Array.getElem?_eq_some_iff.1 hc).1
  · cases ht
theorem contract4 (H : Type) (enc : TypeId × Value → H) (W : World) (base : Nat) (args : Array Value) (ds gs : List (DataW H)) (before : List MemPlace)
    (hval : ∀ (j : Nat) t v, Tryz.f4.params[j]? = some t → args[j]? = some v → Value.okWide Tryz.prog W .any base t v)
    (hW : DataW.Whole enc Tryz.prog Tryz.f4.params.toList YtpibnnopnhmijaaGreatDoor.Rows.applyComposesSpec.vars false W args.toList ds gs before)
    (hsz : (DataW.weightsEach Tryz.prog (Tryz.f4.params.toList ++ (OpenSpec.ofChange YtpibnnopnhmijaaGreatDoor.Rows.applyComposesSpec).bare.plain.varTypes Tryz.prog) (ds ++ gs)).all (· ≤ reachBytes) = true) (hL : laidMet Tryz.prog YtpibnnopnhmijaaGreatDoor.Rows.applyComposesRow.laid W) :
    Calls Tryz.prog 4 args W fun e W' => ∃ v, e = .returned v ∧ YtpibnnopnhmijaaGreatDoor.Rows.applyComposesSpec.post enc Tryz.prog Tryz.f4 false true false false W args v W' := by
  have hW' := hW
  obtain ⟨p, q, hA0, hV, rfl, hfz, hnd⟩ := hW
  have hA : DataW.TrodAll enc Tryz.prog W 0 (fun _ => true) true Tryz.f4.params.toList args.toList ds p := hA0
  rw [Tryz.params4] at hA hval hsz
  obtain ⟨v0, vs0, d0, ds0, p0, q0, e0, rfl, rfl, h0, hA⟩ := trodAll_cons hA
  obtain ⟨v1, vs1, d1, ds1, p1, q1, rfl, rfl, rfl, h1, hA⟩ := trodAll_cons hA
  obtain ⟨rfl, rfl, rfl⟩ := trodAll_nil hA
  obtain rfl : args = #[v0, v1] := by cases args; simp_all
  obtain ⟨rfl, rfl⟩ := trodVars_none hV
  obtain ⟨x, hx, hxo⟩ := argBs (hval 0 40 v0 rfl rfl) h0 (sized_at hsz (j := 0) rfl rfl)
  obtain ⟨y, hy, hyo⟩ := argBs (hval 1 40 v1 rfl rfl) h1 (sized_at hsz (j := 1) rfl rfl)
  refine (w1004 x y hxo hyo W (oldB W) #[v0, v1] (JA_of hL) (fun _ h => h) ?_).mono fun e W' he => ?_
  · simp only [PCs]
    exact ⟨_, _, rfl, hx, _, _, rfl, hy, rfl⟩
  · exact law_post kids0 full0 (by rw [Tryz.params4]; decide +kernel) rfl (by kernel_rfl) Tryz.underlying4 hW' rfl he
def lit1 : DataW Unit → List Value
  | .lit (.int k n) => [.int k n]
  | _ => []
def lits : DataW Unit → Array Value
  | .agg ds => (ds.flatMap lit1).toArray
  | _ => #[]
def setCells (cs : Array Value) : Go.Obj → Go.Obj
  | .cells _ t frozen => .cells cs t frozen
  | o => o
noncomputable def heap0 (os : Os) : Array Go.Obj := (World.holding Tryz.prog os ⟨#[], #[], []⟩).heap
noncomputable def laidWorld (os : Os) : World :=
  { World.holding Tryz.prog os ⟨#[], #[], []⟩ with
    heap := (((heap0 os).modify 3 (setCells (lits YtpibnnopnhmijaaGreatDoor.Rows.laid_internal_strconv_uint64pow10))).modify 4 (setCells (lits YtpibnnopnhmijaaGreatDoor.Rows.laid_math_bits_deBruijn32tab))).modify 5 (setCells (lits YtpibnnopnhmijaaGreatDoor.Rows.laid_math_bits_deBruijn64tab)) }
theorem laid_met (os : Os) : laidMet Tryz.prog YtpibnnopnhmijaaGreatDoor.Rows.applyComposesRow.laid ((laidWorld os).forCall (fun _ _ => 0) ⟨#[], #[.slice none 0 0, .slice none 0 0], []⟩).memory :=
  laidMet_of_run' 8 (by kernel_rfl) (by kernel_rfl)
theorem reads (os : Os) {H : Type} (enc : TypeId × Value → H) : ∃ places, DataW.whole enc Tryz.prog ((laidWorld os).forCall (fun _ _ => 0) ⟨#[], #[.slice none 0 0, .slice none 0 0], []⟩).memory Tryz.f4.params.toList YtpibnnopnhmijaaGreatDoor.Rows.applyComposesSpec.vars false #[Value.slice none 0 0, Value.slice none 0 0].toList 8 = some ([.nil, .nil], [], places) :=
  ⟨[], by kernel_rfl⟩
set_option maxRecDepth 100000 in
theorem lifted4 (os : Os) (started : os.Started) (H : Type) (enc : TypeId × Value → H) (F : Stop.Interp) :
    ReturnsInHanded {} Tryz.checked os 4 .any ((OpenSpec.ofChange YtpibnnopnhmijaaGreatDoor.Rows.applyComposesSpec).preRow enc Tryz.prog Tryz.f4 YtpibnnopnhmijaaGreatDoor.Rows.applyComposesRow.domain false YtpibnnopnhmijaaGreatDoor.Rows.applyComposesRow.laid) (((OpenSpec.ofChange YtpibnnopnhmijaaGreatDoor.Rows.applyComposesSpec).at F).post enc Tryz.prog Tryz.f4 false true false false) := by
  obtain ⟨places, hx⟩ := reads os enc
  refine returnsInHanded_of_row (C := Tryz.checked) (s := OpenSpec.ofChange YtpibnnopnhmijaaGreatDoor.Rows.applyComposesSpec) own0 started (by kernel_rfl) Tryz.func4
    (witness_row_at (enc := enc) (C := Tryz.checked) false (laidWorld os) #[.slice none 0 0, .slice none 0 0] rfl (by kernel_rfl) (by kernel_rfl) (by kernel_rfl)
      (OpenSpec.preRow_of_cond 8 hx (by kernel_rfl) (fun k hk => by cases hk) (by kernel_rfl) (laid_met os))) ?_
  intro W base args ds gs before hval hW _ _ hsz hL _ _
  exact contract4 H enc W base args ds gs before hval hW hsz hL
end Go.Vi
namespace Go.Proofs.YtpibnnopnhmijaaGreatDoor
open Go.Vi
theorem said4 : Rows.ApplyComposesSaid :=
  OpenClaim.holds_of_cond 4 Tryz.f4 rfl rfl rfl rfl rfl rfl rfl ⟨rfl, rfl, rfl, rfl, rfl⟩ rfl rfl rfl rfl rfl (by kernel_rfl) Tryz.func4 (by kernel_rfl)
    (of_decide_eq_true (by kernel_rfl)) (by unfold Func.isWrapper; first | (rw [if_pos (by decide +kernel)]; kernel_rfl) | (rw [if_neg (by decide +kernel)]; exact ⟨rfl, rfl⟩))
    (fun os started H enc _ F => by rw [OpenClaim.pre_eq_preRow]; exact lifted4 os started H enc F)
theorem plain4 (f : FuncId) (fn : Func) (hf : Tryz.pinned.checked.prog.funcNamed "chiasmus/chiasmuslaw07.ApplyComposes" = some f) (hfn : Tryz.pinned.checked.prog.funcs[f]? = some fn) :
    true = Tryz.pinned.checked.prog.looks [] ∧ ∀ (j : Nat) t, fn.params[j]? = some t → Tryz.pinned.checked.prog.wantsStandIn t = false := by
  obtain rfl : f = 4 := Option.some.inj ((show Tryz.prog.funcNamed "chiasmus/chiasmuslaw07.ApplyComposes" = some 4 by kernel_rfl).symm.trans hf) |>.symm
  obtain rfl : fn = Tryz.f4 := (Option.some.inj (Tryz.func4.symm.trans hfn)).symm
  refine ⟨by kernel_rfl, fun j t ht => ?_⟩
  rw [Tryz.params4] at ht
  have hm : t = 40 := by
    have := Array.mem_of_getElem? ht
    simpa using this
  subst hm
  exact (show Tryz.prog.wantsStandIn 40 = false by kernel_rfl)
theorem applyComposes_holds : Rows.ApplyComposesCardSaid :=
  Claim7.holds_tied_plain_at .later [] _ _ _ _ said4 (fun _ h => by cases h) (by kernel_rfl) (fun _ h => by cases h) applyComposes_row_tie rfl ⟨rfl, rfl⟩ (by kernel_rfl) rfl plain4 (by kernel_rfl)
#print axioms applyComposes_holds
end Go.Proofs.YtpibnnopnhmijaaGreatDoor
