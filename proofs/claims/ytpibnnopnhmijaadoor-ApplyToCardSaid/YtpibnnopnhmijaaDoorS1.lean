/-
  The law ApplyTo.
-/
import Derived.Test.YtpibnnopnhmijaaDoorRE
import Derived.Test.YtpibnnopnhmijaaDoorVD
import Derived.WalkKit
import Derived.ProofKit
import Derived.Test.YtpibnnopnhmijaaDoorCards
import Derived.Test.YtpibnnopnhmijaaDoorTie
import Derived.OpenShut
import Derived.Deep.DeepHandedRow
import Derived.Lib.LaidTab
set_option linter.unusedSimpArgs false
set_option linter.unusedVariables false
set_option maxRecDepth 100000
set_option maxHeartbeats 1000000
namespace Go.Vi
open Go Go.Proofs

mutual
theorem lmT_sz : ∀ (t : Tm) (most n : Int), 0 ≤ n → n + 1 ≤ most → lmT most n t ≤ most → lmT most n t = n + szt t
  | .mk k s c, most, n, h0, h1, h => by
    simp only [lmT] at h ⊢
    have := lmL_sz c (most - (n + 1)) 0 (by omega) (by omega) (by omega)
    rw [this]
    simp only [szt]
    omega
theorem lmL_sz : ∀ (l : List Tm) (most n : Int), 0 ≤ most → 0 ≤ n → lmL most n l ≤ most → lmL most n l = n + szs l
  | [], most, n, h0, h1, h => by simp only [lmL, szs]; omega
  | t :: r, most, n, h0, h1, h => by
    simp only [lmL] at h ⊢
    by_cases q : n + 1 > most
    · rw [if_pos q] at h; omega
    · rw [if_neg q] at h ⊢
      obtain ⟨b1, b2⟩ := szT_le t most n h1 (by omega)
      obtain ⟨b3, b4⟩ := szL_le r most (lmT most n t) h0 (by omega)
      rw [lmL_sz r most _ h0 (by omega) h, lmT_sz t most n h1 (by omega) (by omega)]
      simp only [szs]
      omega
end
theorem few_sz : ∀ (l : List Bn) (most n : Int), 0 ≤ most → 0 ≤ n → fewL most n l ≤ most → n ≤ fewL most n l ∧ ∀ b ∈ l, (szs b.e : Int) ≤ most
  | [], most, n, h0, h1, h => ⟨Int.le_refl _, fun b hb => (by cases hb)⟩
  | b :: r, most, n, h0, h1, h => by
    simp only [fewL] at h ⊢
    by_cases q : n > most
    · rw [if_pos q] at h; omega
    · rw [if_neg q] at h ⊢
      obtain ⟨b1, b2⟩ := szL_le b.e (most - n) 0 (by omega) (by omega)
      obtain ⟨h2, h3⟩ := few_sz r most (n + lmL (most - n) 0 b.e) h0 (by omega) h
      refine ⟨by omega, fun c hc => ?_⟩
      rcases List.mem_cons.1 hc with rfl | hc
      · have := lmL_sz c.e (most - n) 0 (by omega) (by omega) (by omega)
        omega
      · exact h3 c hc
/-- No text of the arguments is longer than memory. -/
def argB (l : List Bn) : Prop := ∀ b ∈ l, b.x.length ≤ 1000000000000000 ∧ txs b.e
theorem bns_of {l : List Bn} {most : Int} (ha : argB l) (hm : 0 ≤ most) (hM : most ≤ 1000) (h : fewL most l.length l ≤ most) : bnsOk l := by
  obtain ⟨h1, h2⟩ := few_sz l most l.length hm (by omega) h
  exact ⟨by omega, fun b hb => ⟨(ha b hb).1, by have := h2 b hb; omega, (ha b hb).2⟩⟩
theorem toB_sz (e : List Tm) (l : List Bn) : szs (toB e l).1 ≤ 4000 := by
  unfold toB toL
  split
  · simp [szs]
  · split
    · simp [szs]
    · split
      · simp [szs]
      · exact nd_sz (by omega)
noncomputable abbrev T703 : List (FuncId × (List V → Option V)) := [(8, F8), (9, F9), (10, F10), (11, Fto), (12, Fto), (13, F312), (14, Fchk), (15, Fchk)]
theorem h703 : SoundHand Tryd.prog (hand T703) := sound_cons F8_sound <| sound_cons F9_sound <| sound_cons F10_sound <| sound_cons F11_sound <| sound_cons F12_sound <| sound_cons F312_sound <| sound_cons F14_sound <| sound_cons F15_sound sound_nil
theorem w3 (e : List Tm) (l : List Bn) (ho : txs e) (hl : argB l) : SoundPure Tryd.prog 3 [Ts e, Bs l] (.ret (.bool true)) := by
  refine s703 h703 1 (by simp) rfl ?_
  simp only [c703, Tryd.f3, gets, sub]
  have e1 := F8_eq (a := e) (k := 201) (by omega) (by omega)
  have e2 := F9_eq (a := l) (k := 400) (by omega) (by omega)
  have e3 := F10_eq
  by_cases q1 : lmL 201 0 e > 200
  · have q1' := eq_true q1
    simp only [vmr, vmw, vmp, vza, ↓reduceIte, Nat.reduceBEq, Nat.reduceLT, Nat.reduceAdd, Nat.reduceEqDiff, reduceCtorEq, vmt, vzb, vzc, vlen, vleaf, velems, oks, vst, vmd, ty, Nat.reduceLeDiff, Nat.reduceMul, Nat.reduceSub, vzr, m703, e1, e3, q1']
  · have q1' := eq_false q1
    by_cases q2 : fewL 400 l.length l ≤ 400
    · rw [decide_eq_true q2] at e2
      have he := lmL_sz e 201 0 (by omega) (by omega) (by omega)
      have hb := bns_of hl (by omega) (by omega) q2
      have e4 := Fto_eq (e := e) (l := l) (by omega) ho hb
      have e5 := F312_eq (a := (toB e l).1) (b := (toB e l).1) (by have := toB_sz e l; omega)
      have e6 := Fchk_eq hb
      rw [eqB_self] at e5
      simp only [vmr, vmw, vmp, vza, ↓reduceIte, Nat.reduceBEq, Nat.reduceLT, Nat.reduceAdd, Nat.reduceEqDiff, reduceCtorEq, vmt, vzb, vzc, vlen, vleaf, velems, oks, vst, vmd, ty, Nat.reduceLeDiff, Nat.reduceMul, Nat.reduceSub, vzr, m703, e1, e2, e3, q1', e4, e5, e6]
    · rw [decide_eq_false q2] at e2
      simp only [vmr, vmw, vmp, vza, ↓reduceIte, Nat.reduceBEq, Nat.reduceLT, Nat.reduceAdd, Nat.reduceEqDiff, reduceCtorEq, vmt, vzb, vzc, vlen, vleaf, velems, oks, vst, vmd, ty, Nat.reduceLeDiff, Nat.reduceMul, Nat.reduceSub, vzr, m703, e1, e2, e3, q1']
end Go.Vi
set_option maxRecDepth 100000
namespace Go.Vi
open Go Go.Proofs Go.ChangeShapes Go.WideShapes Go.ChangeAt Go.RowKit

theorem own0 : ownKnob Tryd.prog.godebug = none := by kernel_rfl
theorem kids0 : Kids Tryd.prog (· < Tryd.prog.types.size) := kids_rows (by kernel_rfl) (by kernel_rfl)
theorem full0 : ∀ t e, t < Tryd.prog.types.size → Tryd.prog.underlying t = some (.slice e) → 0 < Tryd.prog.cellsOf e := slices_full_of Tryd.prog (by kernel_rfl)
theorem reach15 {n : Nat} (h : n ≤ reachBytes) : n ≤ 1000000000000000 := by unfold reachBytes at h; omega
theorem OpS.map {α β : Type} {P : Program} {t : TypeId} {f : α → V} {ok : α → Prop} {m : Nat} (h : OpS P t f ok m) (g : α → β) {f' : β → V} {ok' : β → Prop} (e : ∀ a, f' (g a) = f a) (o : ∀ a, ok a → ok' (g a)) : OpS P t f' ok' m := fun hx hz =>
  let ⟨a, ha, hao⟩ := h hx hz
  ⟨g a, by rw [e]; exact ha, o a hao⟩
theorem cells35 : Tryd.prog.cellsOf 35 = 3 := by kernel_rfl
theorem cells59 : Tryd.prog.cellsOf 59 = 2 := by kernel_rfl
theorem len_tv (t : Tm) : (cellsV (tv t)).length = Tryd.prog.cellsOf 35 := by cases t; rw [tv_mk, cells35]; rfl
theorem len_bn (b : Bn) : (cellsV b.v).length = Tryd.prog.cellsOf 59 := by rw [cells59]; rfl
theorem opT : ∀ m, OpS Tryd.prog 35 tv txt1 m ∧ OpS Tryd.prog 22 (fun l : List Tm => V.lst (l.map tv)) txs m := by
  intro m
  induction m using Nat.strongRecOn with
  | ind m IH =>
  refine ⟨?_, ?_⟩
  · refine OpS.map (opS_struct Tryd.underlying35 (fun n hn => opSF_cons rfl (opS_int Tryd.underlying3) (opSF_cons (by kernel_rfl) (opS_str Tryd.underlying9) (opSF_cons (by kernel_rfl) (IH n hn).2 opSF_nil))) (by kernel_rfl)) (fun b => Tm.mk b.1 b.2.1 b.2.2.1) (fun b => ?_) (fun b h => ?_)
    · rw [tv_mk]; rfl
    · exact ⟨reach15 h.2.1, h.2.2.1⟩
  · exact OpS.map (opS_slice Tryd.underlying22 (fun n hn => (IH n hn).1) len_tv (by rw [cells35]; decide)) id (fun _ => rfl) (fun l h => txs_of h)
theorem opB (m : Nat) : OpS Tryd.prog 23 (fun l : List Bn => V.lst (l.map Bn.v)) argB m := by
  have hb : ∀ m, OpS Tryd.prog 59 Bn.v (fun b => b.x.length ≤ 1000000000000000 ∧ txs b.e) m := fun m => by
    refine OpS.map (opS_struct Tryd.underlying59 (fun n hn => opSF_cons rfl (opS_str Tryd.underlying9) (opSF_cons (by kernel_rfl) (opT n).2 opSF_nil)) (by kernel_rfl)) (fun b => Bn.mk b.1 b.2.1) (fun b => rfl) (fun b h => ?_)
    exact ⟨reach15 h.1, h.2.1⟩
  intro H enc w cs x hx hz
  exact opS_slice Tryd.underlying23 (fun n hn => hb n) len_bn (by rw [cells59]; decide) hx hz
theorem argT {H : Type} {enc : TypeId × Value → H} {w : World} {base : Nat} {v : Value} {d : DataW H} {p : List MemPlace} (hv : Value.okWide Tryd.prog w .any base 22 v) (h : DataW.Trod enc Tryd.prog w 0 (fun _ => true) true 22 v d p) (hz : ∀ n ∈ d.weights Tryd.prog 22, n ≤ reachBytes) : ∃ l : List Tm, PC w (oldB w) (Ts l) v ∧ txs l :=
  argS_slice Tryd.underlying22 (fun m => (opT m).2) hv h hz
theorem argBs {H : Type} {enc : TypeId × Value → H} {w : World} {base : Nat} {v : Value} {d : DataW H} {p : List MemPlace} (hv : Value.okWide Tryd.prog w .any base 23 v) (h : DataW.Trod enc Tryd.prog w 0 (fun _ => true) true 23 v d p) (hz : ∀ n ∈ d.weights Tryd.prog 23, n ≤ reachBytes) : ∃ l : List Bn, PC w (oldB w) (Bs l) v ∧ argB l :=
  argS_slice Tryd.underlying23 opB hv h hz
theorem sized_at {H : Type} {ts : List TypeId} {ds : List (DataW H)} (h : (DataW.weightsEach Tryd.prog ts ds).all (· ≤ reachBytes) = true) {j : Nat} {t : TypeId} {d : DataW H} (ht : ts[j]? = some t) (hd : ds[j]? = some d) : ∀ n ∈ d.weights Tryd.prog t, n ≤ reachBytes := fun n hn => by
  have := List.all_eq_true.1 h n (DataW.weights_mem_each ht hd n hn)
  simpa using this
end Go.Vi
set_option maxRecDepth 100000
namespace Go.Vi
open Go Go.Proofs Go.ChangeShapes Go.WideShapes Go.ChangeAt Go.RowKit

theorem contract3 (H : Type) (enc : TypeId × Value → H) (W : World) (base : Nat) (args : Array Value) (ds gs : List (DataW H)) (before : List MemPlace)
    (hval : ∀ (j : Nat) t v, Tryd.f3.params[j]? = some t → args[j]? = some v → Value.okWide Tryd.prog W .any base t v)
    (hW : DataW.Whole enc Tryd.prog Tryd.f3.params.toList YtpibnnopnhmijaaDoor.Rows.applyToSpec.vars false W args.toList ds gs before)
    (hsz : (DataW.weightsEach Tryd.prog (Tryd.f3.params.toList ++ (OpenSpec.ofChange YtpibnnopnhmijaaDoor.Rows.applyToSpec).bare.plain.varTypes Tryd.prog) (ds ++ gs)).all (· ≤ reachBytes) = true) :
    Calls Tryd.prog 3 args W fun e W' => ∃ v, e = .returned v ∧ YtpibnnopnhmijaaDoor.Rows.applyToSpec.post enc Tryd.prog Tryd.f3 false true false false W args v W' := by
  have hW' := hW
  obtain ⟨p, q, hA0, hV, rfl, hfz, hnd⟩ := hW
  have hA : DataW.TrodAll enc Tryd.prog W 0 (fun _ => true) true Tryd.f3.params.toList args.toList ds p := hA0
  rw [Tryd.params3] at hA hval hsz
  obtain ⟨v0, vs0, d0, ds0, p0, q0, e0, rfl, rfl, h0, hA⟩ := trodAll_cons hA
  obtain ⟨v1, vs1, d1, ds1, p1, q1, rfl, rfl, rfl, h1, hA⟩ := trodAll_cons hA
  obtain ⟨rfl, rfl, rfl⟩ := trodAll_nil hA
  obtain rfl : args = #[v0, v1] := by cases args; simp_all
  obtain ⟨rfl, rfl⟩ := trodVars_none hV
  obtain ⟨x, hx, hxo⟩ := argT (hval 0 22 v0 rfl rfl) h0 (sized_at hsz (j := 0) rfl rfl)
  obtain ⟨y, hy, hyo⟩ := argBs (hval 1 23 v1 rfl rfl) h1 (sized_at hsz (j := 1) rfl rfl)
  refine (w3 x y hxo hyo W (oldB W) #[v0, v1] (fun q hq => by cases hq) (fun _ h => h) ?_).mono fun e W' he => ?_
  · simp only [PCs]
    exact ⟨_, _, rfl, hx, _, _, rfl, hy, rfl⟩
  · exact law_post kids0 full0 (by rw [Tryd.params3]; decide +kernel) rfl (by kernel_rfl) Tryd.underlying4 hW' rfl he
def lit1 : DataW Unit → List Value
  | .lit (.int k n) => [.int k n]
  | _ => []
def lits : DataW Unit → Array Value
  | .agg ds => (ds.flatMap lit1).toArray
  | _ => #[]
def setCells (cs : Array Value) : Go.Obj → Go.Obj
  | .cells _ t frozen => .cells cs t frozen
  | o => o
noncomputable def heap0 (os : Os) : Array Go.Obj := (World.holding Tryd.prog os ⟨#[], #[], []⟩).heap
noncomputable def laidWorld (os : Os) : World :=
  { World.holding Tryd.prog os ⟨#[], #[], []⟩ with
    heap := (((heap0 os).modify 1 (setCells (lits YtpibnnopnhmijaaDoor.Rows.laid_internal_strconv_uint64pow10))).modify 2 (setCells (lits YtpibnnopnhmijaaDoor.Rows.laid_math_bits_deBruijn32tab))).modify 3 (setCells (lits YtpibnnopnhmijaaDoor.Rows.laid_math_bits_deBruijn64tab)) }
theorem laid_met (os : Os) : laidMet Tryd.prog YtpibnnopnhmijaaDoor.Rows.applyToRow.laid ((laidWorld os).forCall (fun _ _ => 0) ⟨#[], #[.slice none 0 0, .slice none 0 0], []⟩).memory :=
  laidMet_of_run' 8 (by kernel_rfl) (by kernel_rfl)
theorem reads (os : Os) {H : Type} (enc : TypeId × Value → H) : ∃ places, DataW.whole enc Tryd.prog ((laidWorld os).forCall (fun _ _ => 0) ⟨#[], #[.slice none 0 0, .slice none 0 0], []⟩).memory Tryd.f3.params.toList YtpibnnopnhmijaaDoor.Rows.applyToSpec.vars false #[Value.slice none 0 0, Value.slice none 0 0].toList 8 = some ([.nil, .nil], [], places) :=
  ⟨[], by kernel_rfl⟩
set_option maxRecDepth 100000 in
theorem lifted3 (os : Os) (started : os.Started) (H : Type) (enc : TypeId × Value → H) (F : Stop.Interp) :
    ReturnsInHanded {} Tryd.checked os 3 .any ((OpenSpec.ofChange YtpibnnopnhmijaaDoor.Rows.applyToSpec).preRow enc Tryd.prog Tryd.f3 YtpibnnopnhmijaaDoor.Rows.applyToRow.domain false YtpibnnopnhmijaaDoor.Rows.applyToRow.laid) (((OpenSpec.ofChange YtpibnnopnhmijaaDoor.Rows.applyToSpec).at F).post enc Tryd.prog Tryd.f3 false true false false) := by
  obtain ⟨places, hx⟩ := reads os enc
  refine returnsInHanded_of_row (C := Tryd.checked) (s := OpenSpec.ofChange YtpibnnopnhmijaaDoor.Rows.applyToSpec) own0 started (by kernel_rfl) Tryd.func3
    (witness_row_at (enc := enc) (C := Tryd.checked) false (laidWorld os) #[.slice none 0 0, .slice none 0 0] rfl (by kernel_rfl) (by kernel_rfl) (by kernel_rfl)
      (OpenSpec.preRow_of_cond 8 hx (by kernel_rfl) (fun k hk => by cases hk) (by kernel_rfl) (laid_met os))) ?_
  intro W base args ds gs before hval hW _ _ hsz hL _ _
  exact contract3 H enc W base args ds gs before hval hW hsz
end Go.Vi
namespace Go.Proofs.YtpibnnopnhmijaaDoor
open Go.Vi
theorem said3 : Rows.ApplyToSaid :=
  OpenClaim.holds_of_cond 3 Tryd.f3 rfl rfl rfl rfl rfl rfl rfl ⟨rfl, rfl, rfl, rfl, rfl⟩ rfl rfl rfl rfl rfl (by kernel_rfl) Tryd.func3 (by kernel_rfl)
    (of_decide_eq_true (by kernel_rfl)) (by unfold Func.isWrapper; first | (rw [if_pos (by decide +kernel)]; kernel_rfl) | (rw [if_neg (by decide +kernel)]; exact ⟨rfl, rfl⟩))
    (fun os started H enc _ F => by rw [OpenClaim.pre_eq_preRow]; exact lifted3 os started H enc F)
theorem plain3 (f : FuncId) (fn : Func) (hf : Tryd.pinned.checked.prog.funcNamed "chiasmus/chiasmuslaw07.ApplyTo" = some f) (hfn : Tryd.pinned.checked.prog.funcs[f]? = some fn) :
    false = Tryd.pinned.checked.prog.looks [] ∧ ∀ (j : Nat) t, fn.params[j]? = some t → Tryd.pinned.checked.prog.wantsStandIn t = false := by
  obtain rfl : f = 3 := Option.some.inj ((show Tryd.prog.funcNamed "chiasmus/chiasmuslaw07.ApplyTo" = some 3 by kernel_rfl).symm.trans hf) |>.symm
  obtain rfl : fn = Tryd.f3 := (Option.some.inj (Tryd.func3.symm.trans hfn)).symm
  refine ⟨by kernel_rfl, fun j t ht => ?_⟩
  rw [Tryd.params3] at ht
  have hm : t = 22 ∨ t = 23 := by
    have := Array.mem_of_getElem? ht
    simp at this
    omega
  rcases hm with rfl | rfl
  · exact (show Tryd.prog.wantsStandIn 22 = false by kernel_rfl)
  · exact (show Tryd.prog.wantsStandIn 23 = false by kernel_rfl)
theorem applyTo_holds : Rows.ApplyToCardSaid :=
  Claim7.holds_tied_plain_at .later [] _ _ _ _ said3 (fun _ h => by cases h) (by kernel_rfl) (fun _ h => by cases h) applyTo_row_tie rfl ⟨rfl, rfl⟩ (by kernel_rfl) rfl plain3 (by kernel_rfl)
#print axioms applyTo_holds
end Go.Proofs.YtpibnnopnhmijaaDoor
