/-
  Walks of package protocol: keyOf, states.
-/
import Derived.Test.YtkpcgnjjkaamgaaWF
import Derived.Test.YtkpcgnjjkaamgaaVC
set_option linter.unusedSimpArgs false
set_option linter.unusedVariables false
set_option maxRecDepth 100000
set_option maxHeartbeats 1000000
namespace Go.Vi
open Go Go.Proofs

def padS (st : List Int) : List Int := st ++ List.replicate (8 - st.length) 0
abbrev keyV (st : List Int) : V := .agg ((padS st).map I)
theorem allleafI (l : List Int) : (l.map I).all leafV = true := by simp [leafV]
theorem pureLI (l : List Int) : pureRL (l.map I) = true := by
  induction l with
  | nil => rfl
  | cons x r ih => simp only [List.map_cons, pureRL, pureR, ih, Bool.and_self]
theorem padS_len {st : List Int} (h : st.length ≤ 8) : (padS st).length = 8 := by simp [padS]; omega
theorem pad_eq (st : List Int) : st.map I ++ [I 0, I 0, I 0, I 0, I 0, I 0, I 0, I 0].drop st.length = (padS st).map I := by
  have : [I 0, I 0, I 0, I 0, I 0, I 0, I 0, I 0] = List.replicate 8 (I 0) := rfl
  rw [this, List.drop_replicate, padS, List.map_append, List.map_replicate]
theorem onone {α β : Type} (f : α → β) : Option.map f none = none := rfl
theorem take8 {l : List Int} (h : l.length = 8) : (l.map I).take 8 = l.map I := by rw [← h]; exact take_len I l
theorem settle_I {E : Env} {lv sl : Nat} : ∀ (xs : List Int) (j : Nat) (s : St), settleL E lv sl j (xs.map I) s = (xs.map I, s)
  | [], _, _ => rfl
  | x :: r, j, s => by simp only [List.map_cons, settleL, settle1, settle_I r]
theorem refsI : ∀ xs : List Int, refsL (xs.map I) = []
  | [] => rfl
  | x :: r => by simp only [List.map_cons, refsL, refs, refsI r, List.append_nil]
theorem export_I {E : Env} {s : St} : ∀ xs : List Int, exportL E s (xs.map I) = some (xs.map I)
  | [] => rfl
  | x :: r => by simp only [List.map_cons, exportL, export1, refs, List.all_nil, frz, export_I r, if_true]
theorem w38 (st : List Int) (h1 : 1 ≤ st.length) (h8 : st.length ≤ 8) : SoundPure Try.prog 38 [Is st] (.ret (keyV st)) := by
  refine s38 sound_nil 1 (by simp) (by simp only [pureR]; exact pureLI _) ?_
  simp only [c38, Try.f38, gets]
  have g1 : ¬ st.length = 0 := by omega
  have g2 : min st.length 8 = st.length := by omega
  have g3 := take_len I st
  have g4 := padS_len h8
  have g5 := take8 g4
  have g6 : List.drop 8 ((padS st).map I) = [] := List.drop_eq_nil_of_le (by simp [g4])
  have hp := pad_eq st
  simp only [vmr, vmw, vmp, ↓reduceIte, Nat.reduceBEq, Nat.reduceLT, Nat.reduceAdd, Nat.reduceEqDiff, reduceCtorEq, decide_true, decide_false, evalO, evalOs, ofValue, ofLeaf, params, tget, sub, aok, builtinV, overwrite, vlen, assignTo, settle1, settleL, newVarV, newArr, cellsAt, readT, storeAt, writeE, cellsV, vleaf, frz, frzs, refs, refsL, fitsE, binV, intOp, boolOp, nilOp, isNilS, unV, fillE, velems, callV_s, CR_some, CD, importV, import1, importL, importT, imm, immL, pureR, pureRL, shapeR, flatR, shares, sharesL, hand_cons, hand_nil, oks, vst, vmd, ty, List.all_cons, List.all_nil, List.length_cons, List.length_nil, List.drop_succ_cons, List.drop_zero, List.drop_nil, List.head?_cons, List.head?_nil, List.cons_append, List.nil_append, List.append_nil, List.getElem?_cons_zero, List.getElem?_cons_succ, List.take_succ_cons, List.take_zero, List.set_cons_zero, List.set_cons_succ, List.length_map, Bool.and_true, Bool.true_and, Bool.and_false, Bool.false_and, Bool.and_self, Bool.not_true, Bool.not_false, and_true, true_and, and_self, ne_eq, not_true_eq_false, not_false_eq_true, beq_self_eq_true, Option.isSome_none, Int.toNat_natCast, nat_nonneg, Nat.zero_add, Nat.add_zero, Nat.succ_ne_self, Nat.reduceLeDiff, Nat.reduceEqDiff, Nat.reduceMul, Nat.reduceSub, Nat.le_refl, Nat.zero_le, List.getElem?_map, List.map_nil, fillS, zipP, evalPs, List.replicate_zero, List.replicate_succ, appendV, List.isEmpty_cons, Nat.mul_zero, Nat.zero_mul, true_or, or_true, or_false, false_or, List.take_length, ite_self, z0, z1, bq1, bq2, Int.toNat_zero, z00, Nat.le_add_right, Fin_ret, Fin_nrm, Fin_pan, X_top, resV, exports, nodupK, exportT, exportA, exportL, export1, tupV, List.contains_nil, m38, sliceA, copyV, allleafI, g1, g2, g3, g4, g5, g6, hp, onone, settle_I, refsI, export_I]
theorem w21 (p : Prot) (more most : Int) : SoundPure Try.prog 21 [p.v, I more, I most] (.ret (.fn (.func 37) [] [.iptr p.cs, .iptr [I more], .iptr [I most]])) := by
  refine s21 sound_nil 1 (by simp) rfl ?_
  simp only [c21, Try.f21, gets]
  simp only [vmr, vmw, vmp, ↓reduceIte, Nat.reduceBEq, Nat.reduceLT, Nat.reduceAdd, Nat.reduceEqDiff, reduceCtorEq, decide_true, decide_false, evalO, evalOs, ofValue, ofLeaf, params, tget, sub, aok, builtinV, overwrite, vlen, assignTo, settle1, settleL, newVarV, newArr, cellsAt, readT, storeAt, writeE, cellsV, vleaf, frz, frzs, refs, refsL, fitsE, binV, intOp, boolOp, nilOp, isNilS, unV, fillE, velems, callV_s, CR_some, CD, importV, import1, importL, importT, imm, immL, pureR, pureRL, shapeR, flatR, shares, sharesL, hand_cons, hand_nil, oks, vst, vmd, ty, List.all_cons, List.all_nil, List.length_cons, List.length_nil, List.drop_succ_cons, List.drop_zero, List.drop_nil, List.head?_cons, List.head?_nil, List.cons_append, List.nil_append, List.append_nil, List.getElem?_cons_zero, List.getElem?_cons_succ, List.take_succ_cons, List.take_zero, List.set_cons_zero, List.set_cons_succ, List.length_map, Bool.and_true, Bool.true_and, Bool.and_false, Bool.false_and, Bool.and_self, Bool.not_true, Bool.not_false, and_true, true_and, and_self, ne_eq, not_true_eq_false, not_false_eq_true, beq_self_eq_true, Option.isSome_none, Int.toNat_natCast, nat_nonneg, Nat.zero_add, Nat.add_zero, Nat.succ_ne_self, Nat.reduceLeDiff, Nat.reduceEqDiff, Nat.reduceMul, Nat.reduceSub, Nat.le_refl, Nat.zero_le, List.getElem?_map, List.map_nil, fillS, zipP, evalPs, List.replicate_zero, List.replicate_succ, appendV, List.isEmpty_cons, Nat.mul_zero, Nat.zero_mul, true_or, or_true, or_false, false_or, List.take_length, ite_self, z0, z1, bq1, bq2, Int.toNat_zero, z00, Nat.le_add_right, Fin_ret, Fin_nrm, Fin_pan, X_top, resV, exports, nodupK, exportT, exportA, exportL, export1, tupV, List.contains_nil, m21]
noncomputable def F38 : List V → Option V := hF (α := List Int) (fun a => [Is a]) (fun a => 1 ≤ a.length ∧ a.length ≤ 8) (fun a => keyV a)
theorem F38_eq {st : List Int} (h1 : 1 ≤ st.length) (h8 : st.length ≤ 8) : F38 [Is st] = some (keyV st) := hF_eq (a := st) (one_inj' fun _ _ => Is_inj) (by simp only [cans, canIs]) ⟨h1, h8⟩
noncomputable def F21 : List V → Option V := hF (α := Prot × Int × Int) (fun a => [a.1.v, I a.2.1, I a.2.2]) (fun _ => True) (fun a => .fn (.func 37) [] [.iptr a.1.cs, .iptr [I a.2.1], .iptr [I a.2.2]])
theorem F21_eq (p : Prot) (more most : Int) : F21 [p.v, I more, I most] = some (.fn (.func 37) [] [.iptr p.cs, .iptr [I more], .iptr [I most]]) :=
  hF_eq (a := (p, more, most)) (three_inj (fun _ _ => Prot_inj) (fun _ _ => I_inj) (fun _ _ => I_inj)) (by simp only [cans, canProt, canI]) trivial

/-! ### keys in the map of the states that were met -/
theorem keyEqL_pad : ∀ (a b : List Int), a.length = b.length → keyEqL (a.map I) (b.map I) = some (a == b)
  | [], [], _ => rfl
  | [], _ :: _, h => by cases h
  | _ :: _, [], h => by cases h
  | x :: r, y :: q, h => by
    simp only [List.map_cons, keyEqL, if_true, keyEqL_pad r q (by simpa using h), Option.map_some]
    rfl
theorem padS_inj {a b : List Int} (h : a.length = b.length) : (padS a == padS b) = decide (a = b) := by
  rw [Bool.eq_iff_iff, beq_iff_eq, decide_eq_true_eq]
  unfold padS
  rw [h]
  exact List.append_left_inj _
def entsV (l : List Met) : List (V × V) := l.map fun m => (keyV m.state, .bool true)
theorem mfind_ents {n : Nat} {o : List Int} (ho : o.length = n) (hn : n ≤ 8) : ∀ (l : List Met) (i : Nat), (∀ m ∈ l, m.state.length = n) →
    (mfind (keyV o) (entsV l) i = some none ∧ (l.any fun q => decide (q.state = o)) = false) ∨ (∃ j, mfind (keyV o) (entsV l) i = some (some (j, .bool true)) ∧ (l.any fun q => decide (q.state = o)) = true)
  | [], i, _ => .inl ⟨rfl, rfl⟩
  | m :: r, i, h => by
    have hm := h m (by simp)
    have hk : keyEq (keyV o) (keyV m.state) = some (decide (m.state = o)) := by
      simp only [keyEq, keyEqL_pad (padS o) (padS m.state) (by rw [padS_len (by omega), padS_len (by omega)]), padS_inj (show o.length = m.state.length by omega)]
      simp only [eq_comm]
    simp only [entsV, List.map_cons, mfind, hk, List.any_cons]
    by_cases e : m.state = o
    · simp only [e, decide_true]
      exact .inr ⟨i, rfl, rfl⟩
    · simp only [e, decide_false, Bool.false_or]
      exact mfind_ents ho hn r (i + 1) fun x hx => h x (by simp [hx])
theorem mput_ents {o : List Int} {l : List Met} {m : Met} (hs : m.state = o) (h : mfind (keyV o) (entsV l) 0 = some none) : mput (keyV o) (.bool true) (entsV l) = some (entsV (l ++ [m])) := by
  unfold mput
  rw [h]
  simp [entsV, hs]
end Go.Vi
set_option maxRecDepth 100000
set_option maxHeartbeats 1000000
namespace Go.Vi
open Go Go.Proofs

/-! ### Clone of a row that may be nil -/
theorem w39n : SoundPure Try.prog 39 [.nilS] (.ret .nilS) := by
  refine s39 sound_nil 1 (by simp) rfl ?_
  simp only [c39, Try.f39, gets]
  simp only [vmr, vmw, vmp, ↓reduceIte, Nat.reduceBEq, Nat.reduceLT, Nat.reduceAdd, Nat.reduceEqDiff, reduceCtorEq, decide_true, decide_false, evalO, evalOs, ofValue, ofLeaf, params, tget, sub, aok, builtinV, overwrite, vlen, assignTo, settle1, settleL, newVarV, newArr, cellsAt, readT, storeAt, writeE, cellsV, vleaf, frz, frzs, refs, refsL, fitsE, binV, intOp, boolOp, nilOp, isNilS, unV, fillE, velems, callV_s, CR_some, CD, importV, import1, importL, importT, imm, immL, pureR, pureRL, shapeR, flatR, shares, sharesL, hand_cons, hand_nil, oks, vst, vmd, ty, List.all_cons, List.all_nil, List.length_cons, List.length_nil, List.drop_succ_cons, List.drop_zero, List.drop_nil, List.head?_cons, List.head?_nil, List.cons_append, List.nil_append, List.append_nil, List.getElem?_cons_zero, List.getElem?_cons_succ, List.take_succ_cons, List.take_zero, List.set_cons_zero, List.set_cons_succ, List.length_map, Bool.and_true, Bool.true_and, Bool.and_false, Bool.false_and, Bool.and_self, Bool.not_true, Bool.not_false, and_true, true_and, and_self, ne_eq, not_true_eq_false, not_false_eq_true, beq_self_eq_true, Option.isSome_none, Int.toNat_natCast, nat_nonneg, Nat.zero_add, Nat.add_zero, Nat.succ_ne_self, Nat.reduceLeDiff, Nat.reduceEqDiff, Nat.reduceMul, Nat.reduceSub, Nat.le_refl, Nat.zero_le, List.getElem?_map, List.map_nil, fillS, zipP, evalPs, List.replicate_zero, List.replicate_succ, appendV, List.isEmpty_cons, Nat.mul_zero, Nat.zero_mul, true_or, or_true, or_false, false_or, List.take_length, ite_self, z0, z1, bq1, bq2, Int.toNat_zero, z00, Nat.le_add_right, Fin_ret, Fin_nrm, Fin_pan, X_top, resV, exports, nodupK, exportT, exportA, exportL, export1, tupV, List.contains_nil, m39]
def cl (l : List Int) : V := match l with | [] => .nilS | x :: r => .own 1 ((x :: r).map I)
open Classical in
noncomputable def F39n : List V → Option V := fun args => if args = [.nilS] then some .nilS else F39 args
theorem F39n_eq {l : List Int} (hb : l.length ≤ 1000000) : F39n [rv l] = some (cl l) := by
  unfold F39n
  cases l with
  | nil => exact if_pos rfl
  | cons x r =>
    rw [if_neg (by simp [rv])]
    exact F39_eq (l := x :: r) (by simp) hb
noncomputable abbrev S8 : List (FuncId × (List V → Option V)) := (14, F14) :: (21, F21) :: (22, F22) :: (28, F28) :: (36, F36) :: (38, F38) :: (39, F39n) :: []
theorem hS8 : SoundHand Try.prog (hand S8) :=
  sound_cons (hF_sound fun a h => w14 a h) <| sound_cons (hF_sound fun a _ => w21 a.1 a.2.1 a.2.2) <| sound_cons (hF_sound fun a h => w22 a.1 a.2 h.1 h.2) <|
  sound_cons (hF_sound fun a h => w28 a.1 a.2 h) <| sound_cons (hF_sound fun a h => w36 a.1 a.2 h.1 h.2) <| sound_cons (hF_sound fun a h => w38 a h.1 h.2) <|
  sound_cons (by
    intro args v h
    unfold F39n at h
    split at h
    · rename_i e; subst e; injection h with h; subst h; exact w39n
    · exact hF_sound (fun p hp => w39 sound_nil p hp.1 hp.2) args v h) sound_nil

theorem rv_cases : ∀ ru : List Int, rv ru = .nilS ∨ ∃ l : List Int, rv ru = .lst (l.map I)
  | [] => .inl rfl
  | x :: r => .inr ⟨x :: r, rfl⟩
/-! ### The round's frame -/
def rfA : Code → Code × Code
  | .rangeFunc _ _ a b => (a, b)
  | c => (c, c)
noncomputable abbrev as8 : Code := (rfA (sub [1, 0, 1, 1, 1, 0, 1, 0] c8)).1
noncomputable abbrev bd8 : Code := (rfA (sub [1, 0, 1, 1, 1, 0, 1, 0] c8)).2
noncomputable abbrev lp8 (H : FuncId → Option (List V → Option V)) : Lp := lpOf (M8 H 0).E
def mcRd (C : Ctx) (h : Lp) (lvl n : Nat) : Mc := ⟨evF C n, envLp C.P h lvl, C.hand, n⟩
def mcAt (C : Ctx) (g : FuncId) (fn : Func) (lvl n : Nat) : Mc := ⟨evF C n, envOf C g fn lvl, C.hand, n⟩
noncomputable abbrev B8 (H : FuncId → Option (List V → Option V)) (n : Nat) : Mc := mcRd (Cx H) (lp8 H) 2 n
theorem b8 (H n) : (B8 H n).E.keep = [0, 1, 2, 3, 6, 7, 8, 9, 10, 11, 15, 30, 34, 35, 36, 37, 41] ∧ (B8 H n).E.cnd = [15, 30, 37, 41] ∧ (B8 H n).E.frz = [9, 11, 37, 41] ∧ (B8 H n).E.pro = [] ∧ (B8 H n).E.imp = [] ∧ (B8 H n).E.n = 51 ∧ (B8 H n).E.lvl = 2 ∧ (B8 H n).E.P = Try.prog ∧ (B8 H n).fuel = n ∧ (B8 H n).C = H ∧ (B8 H n).E.ok = okL := ⟨rfl, rfl, rfl, rfl, rfl, rfl, rfl, rfl, rfl, rfl, rfl⟩
def inv8 (H : FuncId → Option (List V → Option V)) (p : Prot) (τ : List (Nat × V)) (rs ok e : V) (st : Ls) (pd : Option Code) (O : Heap) : Prop :=
  O ⟨0, 52, 0⟩ = some (4, .loop (lp8 H) τ [35, 36] as8 bd8 st pd) ∧ O ⟨0, 3, 0⟩ = some (0, .var p.cs) ∧ O ⟨0, 6, 0⟩ = some (1, .var [rs]) ∧ O ⟨0, 7, 0⟩ = some (2, .var [ok]) ∧ O ⟨0, 8, 0⟩ = some (3, .var [e])
def tau8 (τ : List (Nat × V)) : Prop := tget τ 3 = .ptr ⟨0, 3, 0⟩ 0 0 0 ∧ tget τ 6 = .ptr ⟨0, 6, 0⟩ 1 0 0 ∧ tget τ 7 = .ptr ⟨0, 7, 0⟩ 2 0 0 ∧ tget τ 8 = .ptr ⟨0, 8, 0⟩ 3 0 0
theorem rnd_bad {n p τ pd O c st ru} (hp : p.ok) (hl : ∀ l ∈ p.bad, l.length ≤ st.length) (hb : badF p st = true) (hτ : tau8 τ) (h : inv8 (hand S8) p τ .nilS (.bool false) (I 0) .ready pd O) :
    ∃ c' O', roundV (evF (Cx (hand S8)) n) (Cx (hand S8)) n ⟨0, 52, 0⟩ 4 [.agg [Is st, rv ru], I 0] 2 c O = some (false, c', O') ∧ inv8 (hand S8) p τ (rv ru) (.bool true) (I 0) .done (some (.exit 0)) O' ∧ ∀ sl off, O' ⟨1, sl, off⟩ = O ⟨1, sl, off⟩ := by
  obtain ⟨h1, h2, h3, h4, h5⟩ := h
  obtain ⟨t3, t6, t7, t8⟩ := hτ
  have e22 := F22_eq hp hl
  rw [hb] at e22
  have hw' := rv_cases ru
  generalize rv ru = w at hw'
  rcases hw' with rfl | ⟨l, rfl⟩
  all_goals
    refine ⟨_, _, round_of (C := Cx (hand S8)) (n := n) h1 ⟨rfl, by decide, by decide, rfl⟩ (s1 := ?_) (s2 := ?_) (s3 := ?_) (s4 := ?_) (e := .exit 0) (j := some (.exit 0)) ?_ ?_ ?_ rfl ?_, ?_, ?_⟩
    case refine_5 =>
      simp only [as8, rfA, sub, c8, Try.f8, gets]
      change R (B8 (hand S8) n) _ _ _ = _
      simp only [vmr, vmw, vmp, ↓reduceIte, Nat.reduceBEq, Nat.reduceLT, Nat.reduceAdd, Nat.reduceEqDiff, reduceCtorEq, decide_true, decide_false, evalO, evalOs, ofValue, ofLeaf, params, tget, sub, aok, builtinV, overwrite, vlen, assignTo, settle1, settleL, newVarV, newArr, cellsAt, readT, storeAt, writeE, cellsV, vleaf, frz, frzs, refs, refsL, fitsE, binV, intOp, boolOp, nilOp, isNilS, unV, fillE, velems, callV_s, CR_some, CD, importV, import1, importL, importT, imm, immL, pureR, pureRL, shapeR, flatR, shares, sharesL, hand_cons, hand_nil, oks, vst, vmd, ty, List.all_cons, List.all_nil, List.length_cons, List.length_nil, List.drop_succ_cons, List.drop_zero, List.drop_nil, List.head?_cons, List.head?_nil, List.cons_append, List.nil_append, List.append_nil, List.getElem?_cons_zero, List.getElem?_cons_succ, List.take_succ_cons, List.take_zero, List.set_cons_zero, List.set_cons_succ, List.length_map, Bool.and_true, Bool.true_and, Bool.and_false, Bool.false_and, Bool.and_self, Bool.not_true, Bool.not_false, and_true, true_and, and_self, ne_eq, not_true_eq_false, not_false_eq_true, beq_self_eq_true, Option.isSome_none, Int.toNat_natCast, nat_nonneg, Nat.zero_add, Nat.add_zero, Nat.succ_ne_self, Nat.reduceLeDiff, Nat.reduceEqDiff, Nat.reduceMul, Nat.reduceSub, Nat.le_refl, Nat.zero_le, List.getElem?_map, List.map_nil, fillS, zipP, evalPs, List.replicate_zero, List.replicate_succ, appendV, List.isEmpty_cons, Nat.mul_zero, Nat.zero_mul, true_or, or_true, or_false, false_or, List.take_length, ite_self, z0, z1, bq1, bq2, Int.toNat_zero, z00, Nat.le_add_right, Fin_ret, Fin_nrm, Fin_pan, X_top, resV, exports, nodupK, exportT, exportA, exportL, export1, tupV, List.contains_nil, b8, setPs]
      rfl
    case refine_6 =>
      change setLoop (B8 (hand S8) n).E _ _ _ _ _ _ = _
      simp only [setLoop, obj_lo, put_lo, b8, vmd, ob_some, h1, if_true, Nat.reduceLT, gets, getn]
      rfl
    case refine_7 =>
      simp only [bd8, rfA, sub, c8, Try.f8, gets]
      change R (B8 (hand S8) n) _ _ _ = _
      simp only [vmr, vmw, vmp, ↓reduceIte, Nat.reduceBEq, Nat.reduceLT, Nat.reduceAdd, Nat.reduceEqDiff, reduceCtorEq, decide_true, decide_false, evalO, evalOs, ofValue, ofLeaf, params, tget, sub, aok, builtinV, overwrite, vlen, assignTo, settle1, settleL, newVarV, newArr, cellsAt, readT, storeAt, writeE, cellsV, vleaf, frz, frzs, refs, refsL, fitsE, binV, intOp, boolOp, nilOp, isNilS, unV, fillE, velems, callV_s, CR_some, CD, importV, import1, importL, importT, imm, immL, pureR, pureRL, shapeR, flatR, shares, sharesL, hand_cons, hand_nil, oks, vst, vmd, ty, List.all_cons, List.all_nil, List.length_cons, List.length_nil, List.drop_succ_cons, List.drop_zero, List.drop_nil, List.head?_cons, List.head?_nil, List.cons_append, List.nil_append, List.append_nil, List.getElem?_cons_zero, List.getElem?_cons_succ, List.take_succ_cons, List.take_zero, List.set_cons_zero, List.set_cons_succ, List.length_map, Bool.and_true, Bool.true_and, Bool.and_false, Bool.false_and, Bool.and_self, Bool.not_true, Bool.not_false, and_true, true_and, and_self, ne_eq, not_true_eq_false, not_false_eq_true, beq_self_eq_true, Option.isSome_none, Int.toNat_natCast, nat_nonneg, Nat.zero_add, Nat.add_zero, Nat.succ_ne_self, Nat.reduceLeDiff, Nat.reduceEqDiff, Nat.reduceMul, Nat.reduceSub, Nat.le_refl, Nat.zero_le, List.getElem?_map, List.map_nil, fillS, zipP, evalPs, List.replicate_zero, List.replicate_succ, appendV, List.isEmpty_cons, Nat.mul_zero, Nat.zero_mul, true_or, or_true, or_false, false_or, List.take_length, ite_self, z0, z1, bq1, bq2, Int.toNat_zero, z00, Nat.le_add_right, Fin_ret, Fin_nrm, Fin_pan, X_top, resV, exports, nodupK, exportT, exportA, exportL, export1, tupV, List.contains_nil, b8, e22, n00, t3, t6, t7, t8, obj_lo, put_lo, oput_get, key_eq, h1, h2, h3, h4, h5]
      rfl
    case refine_8 =>
      change setLoop (B8 (hand S8) n).E _ _ _ _ _ _ = _
      simp only [setLoop, obj_lo, put_lo, b8, vmd, ob_some, h1, if_true, Nat.reduceLT, gets, oput_get, key_eq, Nat.reduceEqDiff, false_and, and_false, if_false, true_and, and_true]
      rfl
    case refine_9 =>
      simp only [inv8, lower, oput_get, key_eq, Nat.reduceEqDiff, false_and, and_false, if_false, true_and, and_true, if_true, Nat.reduceLT, h1, h2, h3, h4, h5]
      first | rfl | trivial
    case refine_10 =>
      intro sl off
      simp only [lower, oput_get, key_eq, Nat.reduceEqDiff, false_and, and_false, if_false, true_and, and_true, if_true, Nat.reduceLT, h1, h2, h3, h4, h5]
theorem rnd_go {n p τ pd O c st ru} (hp : p.ok) (hl : ∀ l ∈ p.bad, l.length ≤ st.length) (hb : badF p st = false) (hτ : tau8 τ) (h : inv8 (hand S8) p τ .nilS (.bool false) (I 0) .ready pd O) :
    ∃ c' O', roundV (evF (Cx (hand S8)) n) (Cx (hand S8)) n ⟨0, 52, 0⟩ 4 [.agg [Is st, rv ru], I 0] 2 c O = some (true, c', O') ∧ inv8 (hand S8) p τ .nilS (.bool false) (I 0) .ready none O' ∧ ∀ sl off, O' ⟨1, sl, off⟩ = O ⟨1, sl, off⟩ := by
  obtain ⟨h1, h2, h3, h4, h5⟩ := h
  obtain ⟨t3, t6, t7, t8⟩ := hτ
  have e22 := F22_eq hp hl
  rw [hb] at e22
  have hw' := rv_cases ru
  generalize rv ru = w at hw'
  rcases hw' with rfl | ⟨l, rfl⟩
  all_goals
    refine ⟨_, _, round_of (C := Cx (hand S8)) (n := n) h1 ⟨rfl, by decide, by decide, rfl⟩ (s1 := ?_) (s2 := ?_) (s3 := ?_) (s4 := ?_) (e := .norm) (j := none) ?_ ?_ ?_ rfl ?_, ?_, ?_⟩
    case refine_5 =>
      simp only [as8, rfA, sub, c8, Try.f8, gets]
      change R (B8 (hand S8) n) _ _ _ = _
      simp only [vmr, vmw, vmp, ↓reduceIte, Nat.reduceBEq, Nat.reduceLT, Nat.reduceAdd, Nat.reduceEqDiff, reduceCtorEq, decide_true, decide_false, evalO, evalOs, ofValue, ofLeaf, params, tget, sub, aok, builtinV, overwrite, vlen, assignTo, settle1, settleL, newVarV, newArr, cellsAt, readT, storeAt, writeE, cellsV, vleaf, frz, frzs, refs, refsL, fitsE, binV, intOp, boolOp, nilOp, isNilS, unV, fillE, velems, callV_s, CR_some, CD, importV, import1, importL, importT, imm, immL, pureR, pureRL, shapeR, flatR, shares, sharesL, hand_cons, hand_nil, oks, vst, vmd, ty, List.all_cons, List.all_nil, List.length_cons, List.length_nil, List.drop_succ_cons, List.drop_zero, List.drop_nil, List.head?_cons, List.head?_nil, List.cons_append, List.nil_append, List.append_nil, List.getElem?_cons_zero, List.getElem?_cons_succ, List.take_succ_cons, List.take_zero, List.set_cons_zero, List.set_cons_succ, List.length_map, Bool.and_true, Bool.true_and, Bool.and_false, Bool.false_and, Bool.and_self, Bool.not_true, Bool.not_false, and_true, true_and, and_self, ne_eq, not_true_eq_false, not_false_eq_true, beq_self_eq_true, Option.isSome_none, Int.toNat_natCast, nat_nonneg, Nat.zero_add, Nat.add_zero, Nat.succ_ne_self, Nat.reduceLeDiff, Nat.reduceEqDiff, Nat.reduceMul, Nat.reduceSub, Nat.le_refl, Nat.zero_le, List.getElem?_map, List.map_nil, fillS, zipP, evalPs, List.replicate_zero, List.replicate_succ, appendV, List.isEmpty_cons, Nat.mul_zero, Nat.zero_mul, true_or, or_true, or_false, false_or, List.take_length, ite_self, z0, z1, bq1, bq2, Int.toNat_zero, z00, Nat.le_add_right, Fin_ret, Fin_nrm, Fin_pan, X_top, resV, exports, nodupK, exportT, exportA, exportL, export1, tupV, List.contains_nil, b8, setPs]
      rfl
    case refine_6 =>
      change setLoop (B8 (hand S8) n).E _ _ _ _ _ _ = _
      simp only [setLoop, obj_lo, put_lo, b8, vmd, ob_some, h1, if_true, Nat.reduceLT, gets, getn]
      rfl
    case refine_7 =>
      simp only [bd8, rfA, sub, c8, Try.f8, gets]
      change R (B8 (hand S8) n) _ _ _ = _
      simp only [vmr, vmw, vmp, ↓reduceIte, Nat.reduceBEq, Nat.reduceLT, Nat.reduceAdd, Nat.reduceEqDiff, reduceCtorEq, decide_true, decide_false, evalO, evalOs, ofValue, ofLeaf, params, tget, sub, aok, builtinV, overwrite, vlen, assignTo, settle1, settleL, newVarV, newArr, cellsAt, readT, storeAt, writeE, cellsV, vleaf, frz, frzs, refs, refsL, fitsE, binV, intOp, boolOp, nilOp, isNilS, unV, fillE, velems, callV_s, CR_some, CD, importV, import1, importL, importT, imm, immL, pureR, pureRL, shapeR, flatR, shares, sharesL, hand_cons, hand_nil, oks, vst, vmd, ty, List.all_cons, List.all_nil, List.length_cons, List.length_nil, List.drop_succ_cons, List.drop_zero, List.drop_nil, List.head?_cons, List.head?_nil, List.cons_append, List.nil_append, List.append_nil, List.getElem?_cons_zero, List.getElem?_cons_succ, List.take_succ_cons, List.take_zero, List.set_cons_zero, List.set_cons_succ, List.length_map, Bool.and_true, Bool.true_and, Bool.and_false, Bool.false_and, Bool.and_self, Bool.not_true, Bool.not_false, and_true, true_and, and_self, ne_eq, not_true_eq_false, not_false_eq_true, beq_self_eq_true, Option.isSome_none, Int.toNat_natCast, nat_nonneg, Nat.zero_add, Nat.add_zero, Nat.succ_ne_self, Nat.reduceLeDiff, Nat.reduceEqDiff, Nat.reduceMul, Nat.reduceSub, Nat.le_refl, Nat.zero_le, List.getElem?_map, List.map_nil, fillS, zipP, evalPs, List.replicate_zero, List.replicate_succ, appendV, List.isEmpty_cons, Nat.mul_zero, Nat.zero_mul, true_or, or_true, or_false, false_or, List.take_length, ite_self, z0, z1, bq1, bq2, Int.toNat_zero, z00, Nat.le_add_right, Fin_ret, Fin_nrm, Fin_pan, X_top, resV, exports, nodupK, exportT, exportA, exportL, export1, tupV, List.contains_nil, b8, e22, n00, t3, t6, t7, t8, obj_lo, put_lo, oput_get, key_eq, h1, h2, h3, h4, h5]
      rfl
    case refine_8 =>
      change setLoop (B8 (hand S8) n).E _ _ _ _ _ _ = _
      simp only [setLoop, obj_lo, put_lo, b8, vmd, ob_some, h1, if_true, Nat.reduceLT, gets, oput_get, key_eq, Nat.reduceEqDiff, false_and, and_false, if_false, true_and, and_true]
      rfl
    case refine_9 =>
      simp only [inv8, lower, oput_get, key_eq, Nat.reduceEqDiff, false_and, and_false, if_false, true_and, and_true, if_true, Nat.reduceLT, h1, h2, h3, h4, h5]
      first | rfl | trivial
    case refine_10 =>
      intro sl off
      simp only [lower, oput_get, key_eq, Nat.reduceEqDiff, false_and, and_false, if_false, true_and, and_true, if_true, Nat.reduceLT, h1, h2, h3, h4, h5]
end Go.Vi
set_option maxRecDepth 100000
set_option maxHeartbeats 1000000
namespace Go.Vi
open Go Go.Proofs

noncomputable abbrev A37 (H : FuncId → Option (List V → Option V)) (n : Nat) : Mc := mcAt (Cx H) 37 Try.f37 1 n
theorem a37 (H n) : (A37 H n).E.keep = [0, 1, 2, 3, 5, 6, 7, 8, 9, 10, 11, 12, 26, 35, 40, 42, 43, 44, 45, 57, 69, 75] ∧ (A37 H n).E.cnd = [26, 35, 40, 45, 57, 69, 75] ∧ (A37 H n).E.frz = [9, 11, 12] ∧ (A37 H n).E.pro = [] ∧ (A37 H n).E.imp = [] ∧ (A37 H n).E.n = 91 ∧ (A37 H n).E.lvl = 1 ∧ (A37 H n).E.P = Try.prog ∧ (A37 H n).fuel = n ∧ (A37 H n).C = H ∧ (A37 H n).E.ok = okL := ⟨rfl, rfl, rfl, rfl, rfl, rfl, rfl, rfl, rfl, rfl, rfl⟩
/-- A call of yield, in its parts. -/
theorem RCl_yield {M : Mc} {k : K} {s : St} {ops : Array Oper} {d : Nat} {r : List Oper} {q : Key} {ver : Nat} {args : List V} {b : Bool} {c' : Nat} {O' : Heap} (hd : d < M.E.n) (h : M.call.rnd q ver args (M.E.lvl + 1) s.c (s.heap M.E) = some (b, c', O')) :
    RCl M ops (some d) r k (.mref q ver) args s = RO M ops r k ⟨tset s.τ d (.bool b), (back M.E s c' O').L, O', c'⟩ := by
  unfold RCl RO
  simp only [h, setD, if_pos hd, Option.bind_some]
  rfl
theorem heap_lo {n : Nat} {s : St} {sl off : Nat} : St.heap (A37 (hand S8) n).E s ⟨0, sl, off⟩ = s.O ⟨0, sl, off⟩ := by
  unfold St.heap
  rw [heapOf_get, if_neg (show ¬ 0 = (A37 (hand S8) n).E.lvl from Nat.zero_ne_one), if_pos (show 0 < (A37 (hand S8) n).E.lvl from Nat.zero_lt_one)]
theorem heap_own {n : Nat} {s : St} {sl off : Nat} : St.heap (A37 (hand S8) n).E s ⟨1, sl, off⟩ = lget s.L (sl, off) := by
  unfold St.heap
  rw [heapOf_get, if_pos (show 1 = (A37 (hand S8) n).E.lvl by rfl)]
theorem inv_heap {n : Nat} {s : St} {p τ a b c st pd} (h : inv8 (hand S8) p τ a b c st pd s.O) : inv8 (hand S8) p τ a b c st pd (St.heap (A37 (hand S8) n).E s) := by
  unfold inv8 at h ⊢
  simp only [heap_lo]
  exact h
theorem yield_of {n : Nat} {k : K} {s : St} {ops : Array Oper} {d : Nat} {r : List Oper} {args : List V} {b : Bool} {p τ x y z st pd} {P : Option (Ex × St) → Prop} (hd : d < 91)
    (hr : ∃ c' O', roundV (evF (Cx (hand S8)) n) (Cx (hand S8)) n ⟨0, 52, 0⟩ 4 args 2 s.c (St.heap (A37 (hand S8) (n + 1)).E s) = some (b, c', O') ∧ inv8 (hand S8) p τ x y z st pd O' ∧ ∀ sl off, O' ⟨1, sl, off⟩ = St.heap (A37 (hand S8) (n + 1)).E s ⟨1, sl, off⟩)
    (h : ∀ L' O' c', (∀ sl off x, lget s.L (sl, off) = some x → lget L' (sl, off) = some x) → inv8 (hand S8) p τ x y z st pd O' → P (RO (A37 (hand S8) (n + 1)) ops r k ⟨tset s.τ d (.bool b), L', O', c'⟩)) :
    P (RCl (A37 (hand S8) (n + 1)) ops (some d) r k (.mref ⟨0, 52, 0⟩ 4) args s) := by
  obtain ⟨c', O', h1, h2, h3⟩ := hr
  rw [RCl_yield (M := A37 (hand S8) (n + 1)) (b := b) (c' := c') (O' := O') hd h1]
  refine h _ _ _ (fun sl off x hx => ?_) h2
  exact back_get (E := (A37 (hand S8) (n + 1)).E) hx (by
    show O' ⟨1, sl, off⟩ = some x
    rw [h3, heap_own, hx])
theorem import_I {E : Env} {d : Nat} : ∀ (l : List Int) (j : Nat) (s : St), importL E d j (l.map I) s = (l.map I, s)
  | [], _, _ => rfl
  | x :: r, j, s => by simp only [List.map_cons, importL, import1, import_I r]
theorem allflatI (l : List Int) : (l.map I).all flatR = true := by simp [flatR]
/-- What f37 leaves behind. -/
def Po (p : Prot) (τ : List (Nat × V)) (res : List Int × Bool × Int) (r : Option (Ex × St)) : Prop :=
  ∃ s' st pd, (r = some (.norm, s') ∨ r = some (.ret, s')) ∧ inv8 (hand S8) p τ (rv res.1) (.bool res.2.1) (I res.2.2) st pd s'.O ∧ (st = .ready ∧ pd = none ∨ st = .done ∧ pd = some (.exit 0))
structure S37 (p : Prot) (τ : List (Nat × V)) (more most : Int) (i : Nat) (l : List Met) (vm v7 off len : Nat) (es : List V) (pd : Option Code) (s : St) : Prop where
  h0 : tget s.τ 0 = .mref ⟨0, 52, 0⟩ 4
  h1 : tget s.τ 1 = .iptr p.cs
  h2 : tget s.τ 2 = .iptr [I more]
  h3 : tget s.τ 3 = .iptr [I most]
  h6 : tget s.τ 6 = .mref ⟨1, 6, 0⟩ vm
  h6' : lget s.L (6, 0) = some (vm, .map (entsV l))
  h7 : tget s.τ 7 = .ref ⟨1, 7, 0⟩ v7 off len
  h7' : lget s.L (7, 0) = some (v7, .arr 2 es)
  hes : es.drop off = (l.drop i).map Met.v
  hlen : off + len = es.length
  hO : inv8 (hand S8) p τ .nilS (.bool false) (I 0) .ready pd s.O
theorem rnd_zero {n p τ pd O c} {e : Int} (he : e ≠ 0) (hτ : tau8 τ) (h : inv8 (hand S8) p τ .nilS (.bool false) (I 0) .ready pd O) :
    ∃ c' O', roundV (evF (Cx (hand S8)) n) (Cx (hand S8)) n ⟨0, 52, 0⟩ 4 [.agg [.nilS, .nilS], I e] 2 c O = some (false, c', O') ∧ inv8 (hand S8) p τ .nilS (.bool false) (I e) .done (some (.exit 0)) O' ∧ ∀ sl off, O' ⟨1, sl, off⟩ = O ⟨1, sl, off⟩ := by
  obtain ⟨h1, h2, h3, h4, h5⟩ := h
  obtain ⟨t3, t6, t7, t8⟩ := hτ
  have he' : (e != 0) = true := by simpa using he
  refine ⟨_, _, round_of (C := Cx (hand S8)) (n := n) h1 ⟨rfl, by decide, by decide, rfl⟩ (s1 := ?_) (s2 := ?_) (s3 := ?_) (s4 := ?_) (e := .exit 0) (j := some (.exit 0)) ?_ ?_ ?_ rfl ?_, ?_, ?_⟩
  case refine_5 =>
    simp only [as8, rfA, sub, c8, Try.f8, gets]
    change R (B8 (hand S8) n) _ _ _ = _
    simp only [vmr, vmw, vmp, ↓reduceIte, Nat.reduceBEq, Nat.reduceLT, Nat.reduceAdd, Nat.reduceEqDiff, reduceCtorEq, decide_true, decide_false, evalO, evalOs, ofValue, ofLeaf, params, tget, sub, aok, builtinV, overwrite, vlen, assignTo, settle1, settleL, newVarV, newArr, cellsAt, readT, storeAt, writeE, cellsV, vleaf, frz, frzs, refs, refsL, fitsE, binV, intOp, boolOp, nilOp, isNilS, unV, fillE, velems, callV_s, CR_some, CD, importV, import1, importL, importT, imm, immL, pureR, pureRL, shapeR, flatR, shares, sharesL, hand_cons, hand_nil, oks, vst, vmd, ty, List.all_cons, List.all_nil, List.length_cons, List.length_nil, List.drop_succ_cons, List.drop_zero, List.drop_nil, List.head?_cons, List.head?_nil, List.cons_append, List.nil_append, List.append_nil, List.getElem?_cons_zero, List.getElem?_cons_succ, List.take_succ_cons, List.take_zero, List.set_cons_zero, List.set_cons_succ, List.length_map, Bool.and_true, Bool.true_and, Bool.and_false, Bool.false_and, Bool.and_self, Bool.not_true, Bool.not_false, and_true, true_and, and_self, ne_eq, not_true_eq_false, not_false_eq_true, beq_self_eq_true, Option.isSome_none, Int.toNat_natCast, nat_nonneg, Nat.zero_add, Nat.add_zero, Nat.succ_ne_self, Nat.reduceLeDiff, Nat.reduceEqDiff, Nat.reduceMul, Nat.reduceSub, Nat.le_refl, Nat.zero_le, List.getElem?_map, List.map_nil, fillS, zipP, evalPs, List.replicate_zero, List.replicate_succ, appendV, List.isEmpty_cons, Nat.mul_zero, Nat.zero_mul, true_or, or_true, or_false, false_or, List.take_length, ite_self, z0, z1, bq1, bq2, Int.toNat_zero, z00, Nat.le_add_right, Fin_ret, Fin_nrm, Fin_pan, X_top, resV, exports, nodupK, exportT, exportA, exportL, export1, tupV, List.contains_nil, b8, setPs]
    rfl
  case refine_6 =>
    change setLoop (B8 (hand S8) n).E _ _ _ _ _ _ = _
    simp only [setLoop, obj_lo, put_lo, b8, vmd, ob_some, h1, if_true, Nat.reduceLT, gets, getn]
    rfl
  case refine_7 =>
    simp only [bd8, rfA, sub, c8, Try.f8, gets]
    change R (B8 (hand S8) n) _ _ _ = _
    simp only [vmr, vmw, vmp, ↓reduceIte, Nat.reduceBEq, Nat.reduceLT, Nat.reduceAdd, Nat.reduceEqDiff, reduceCtorEq, decide_true, decide_false, evalO, evalOs, ofValue, ofLeaf, params, tget, sub, aok, builtinV, overwrite, vlen, assignTo, settle1, settleL, newVarV, newArr, cellsAt, readT, storeAt, writeE, cellsV, vleaf, frz, frzs, refs, refsL, fitsE, binV, intOp, boolOp, nilOp, isNilS, unV, fillE, velems, callV_s, CR_some, CD, importV, import1, importL, importT, imm, immL, pureR, pureRL, shapeR, flatR, shares, sharesL, hand_cons, hand_nil, oks, vst, vmd, ty, List.all_cons, List.all_nil, List.length_cons, List.length_nil, List.drop_succ_cons, List.drop_zero, List.drop_nil, List.head?_cons, List.head?_nil, List.cons_append, List.nil_append, List.append_nil, List.getElem?_cons_zero, List.getElem?_cons_succ, List.take_succ_cons, List.take_zero, List.set_cons_zero, List.set_cons_succ, List.length_map, Bool.and_true, Bool.true_and, Bool.and_false, Bool.false_and, Bool.and_self, Bool.not_true, Bool.not_false, and_true, true_and, and_self, ne_eq, not_true_eq_false, not_false_eq_true, beq_self_eq_true, Option.isSome_none, Int.toNat_natCast, nat_nonneg, Nat.zero_add, Nat.add_zero, Nat.succ_ne_self, Nat.reduceLeDiff, Nat.reduceEqDiff, Nat.reduceMul, Nat.reduceSub, Nat.le_refl, Nat.zero_le, List.getElem?_map, List.map_nil, fillS, zipP, evalPs, List.replicate_zero, List.replicate_succ, appendV, List.isEmpty_cons, Nat.mul_zero, Nat.zero_mul, true_or, or_true, or_false, false_or, List.take_length, ite_self, z0, z1, bq1, bq2, Int.toNat_zero, z00, Nat.le_add_right, Fin_ret, Fin_nrm, Fin_pan, X_top, resV, exports, nodupK, exportT, exportA, exportL, export1, tupV, List.contains_nil, b8, he', t3, t6, t7, t8, obj_lo, put_lo, oput_get, key_eq, h1, h2, h3, h4, h5]
    rfl
  case refine_8 =>
    change setLoop (B8 (hand S8) n).E _ _ _ _ _ _ = _
    simp only [setLoop, obj_lo, put_lo, b8, vmd, ob_some, h1, if_true, Nat.reduceLT, gets, oput_get, key_eq, Nat.reduceEqDiff, false_and, and_false, if_false, true_and, and_true]
    rfl
  case refine_9 =>
    simp only [inv8, lower, oput_get, key_eq, Nat.reduceEqDiff, false_and, and_false, if_false, true_and, and_true, if_true, Nat.reduceLT, h1, h2, h3, h4, h5]
    first | rfl | trivial
  case refine_10 =>
    intro sl off
    simp only [lower, oput_get, key_eq, Nat.reduceEqDiff, false_and, and_false, if_false, true_and, and_true, if_true, Nat.reduceLT, h1, h2, h3, h4, h5]
theorem keyOk_key {o : List Int} (h : o.length ≤ 8) : keyOk Try.prog 78 (keyV o) = true := by
  have hu : Try.prog.underlying 78 = some (.array 8 3) := by kernel_rfl
  have h1 : szT Try.prog 3 = 1 := by simp only [ty]
  have h2 : (intT Try.prog 3).isSome = true := by kernel_rfl
  have h3 := padS_len h
  simp only [keyOk, hu, h1, h2, List.length_map, h3, List.all_map]
  simp [isIntV]
theorem room60 {n : Nat} (h : n ≤ 100000) : roomOk Try.prog 60 n = true := by
  simp [roomOk, ty, cellsV, leafV]; omega
theorem fits60 (m : Met) : fitsE Try.prog 60 m.v = true := by simp [fitsE, ty, vleaf, leaf_rv]
theorem l37b {n : Nat} {k : K} {p τ more most i res pd} (hτ : tau8 τ) (hp : p.ok) (hck : checkF p = 0) (hn0 : 5000 < n) (ms mr : List Int) (hmr : mr.length ≤ 1000) (hwm : withinF ms p.begin.length 1000000 = true) : ∀ rs q (l : List Met) vm v7 off len es v8 n' s, p.rules.drop q = rs → rs.length < n' → l.length ≤ 5000 → WFl p l → i < l.length → S37 p τ more most (i + 1) l vm v7 off len es pd s →
    tget s.τ 8 = .ptr ⟨1, 8, 0⟩ v8 0 0 → lget s.L (8, 0) = some (v8, .var [Is ms, rv mr]) → tget s.τ 42 = .lst (p.rules.map Rule.v) → tget s.τ 43 = I p.rules.length → tget s.τ 44 = I (q : Nat) →
    (innerF p ⟨ms, mr⟩ rs q l = none → res = ([], false, 7)) →
    (∀ l' vm' v7' off' len' es' s', innerF p ⟨ms, mr⟩ rs q l = some l' → WFl p l' → S37 p τ more most (i + 1) l' vm' v7' off' len' es' pd s' → Po p τ res (X (A37 (hand S8) (n + 1)) (.exit 2) k s')) →
    Po p τ res (L (A37 (hand S8) (n + 1)) (sub [1, 1, 1, 0, 0, 1, 0, 1, 1, 1, 1, 1, 0, 0] c37) n' k s)
  | [], q, l, vm, v7, off, len, es, v8, n' + 1, s, hq, hn, hl, hwf, hil, hS, h8, h8', h42, h43, h44, ho, hx => by
    obtain ⟨h0, h1, h2, h3, h6, h6', h7, h7', hes, hlen, hO⟩ := hS
    have hc := inlt (drop_nil' hq)
    rw [L_succ]
    simp only [vmr, vmw, vmp, ↓reduceIte, Nat.reduceBEq, Nat.reduceLT, Nat.reduceAdd, Nat.reduceEqDiff, reduceCtorEq, decide_true, decide_false, evalO, evalOs, ofValue, ofLeaf, params, tget, sub, aok, builtinV, overwrite, vlen, assignTo, settle1, settleL, newVarV, newArr, cellsAt, readT, storeAt, writeE, cellsV, vleaf, frz, frzs, refs, refsL, fitsE, binV, intOp, boolOp, nilOp, isNilS, unV, fillE, velems, callV_s, CR_some, CD, importV, import1, importL, importT, imm, immL, pureR, pureRL, shapeR, flatR, shares, sharesL, hand_cons, hand_nil, oks, vst, vmd, ty, List.all_cons, List.all_nil, List.length_cons, List.length_nil, List.drop_succ_cons, List.drop_zero, List.drop_nil, List.head?_cons, List.head?_nil, List.cons_append, List.nil_append, List.append_nil, List.getElem?_cons_zero, List.getElem?_cons_succ, List.take_succ_cons, List.take_zero, List.set_cons_zero, List.set_cons_succ, List.length_map, Bool.and_true, Bool.true_and, Bool.and_false, Bool.false_and, Bool.and_self, Bool.not_true, Bool.not_false, and_true, true_and, and_self, ne_eq, not_true_eq_false, not_false_eq_true, beq_self_eq_true, Option.isSome_none, Int.toNat_natCast, nat_nonneg, Nat.zero_add, Nat.add_zero, Nat.succ_ne_self, Nat.reduceLeDiff, Nat.reduceEqDiff, Nat.reduceMul, Nat.reduceSub, Nat.le_refl, Nat.zero_le, List.getElem?_map, List.map_nil, fillS, zipP, evalPs, List.replicate_zero, List.replicate_succ, appendV, List.isEmpty_cons, Nat.mul_zero, Nat.zero_mul, true_or, or_true, or_false, false_or, List.take_length, ite_self, z0, z1, bq1, bq2, Int.toNat_zero, z00, Nat.le_add_right, c37, Try.f37, a37, h42, h43, h44, hc]
    refine hx l vm v7 off len es _ rfl hwf ⟨?_, ?_, ?_, ?_, ?_, ?_, ?_, ?_, hes, hlen, hO⟩
    all_goals simp only [vmr, vmw, vmp, ↓reduceIte, Nat.reduceBEq, Nat.reduceLT, Nat.reduceAdd, Nat.reduceEqDiff, reduceCtorEq, decide_true, decide_false, evalO, evalOs, ofValue, ofLeaf, params, tget, sub, aok, builtinV, overwrite, vlen, assignTo, settle1, settleL, newVarV, newArr, cellsAt, readT, storeAt, writeE, cellsV, vleaf, frz, frzs, refs, refsL, fitsE, binV, intOp, boolOp, nilOp, isNilS, unV, fillE, velems, callV_s, CR_some, CD, importV, import1, importL, importT, imm, immL, pureR, pureRL, shapeR, flatR, shares, sharesL, hand_cons, hand_nil, oks, vst, vmd, ty, List.all_cons, List.all_nil, List.length_cons, List.length_nil, List.drop_succ_cons, List.drop_zero, List.drop_nil, List.head?_cons, List.head?_nil, List.cons_append, List.nil_append, List.append_nil, List.getElem?_cons_zero, List.getElem?_cons_succ, List.take_succ_cons, List.take_zero, List.set_cons_zero, List.set_cons_succ, List.length_map, Bool.and_true, Bool.true_and, Bool.and_false, Bool.false_and, Bool.and_self, Bool.not_true, Bool.not_false, and_true, true_and, and_self, ne_eq, not_true_eq_false, not_false_eq_true, beq_self_eq_true, Option.isSome_none, Int.toNat_natCast, nat_nonneg, Nat.zero_add, Nat.add_zero, Nat.succ_ne_self, Nat.reduceLeDiff, Nat.reduceEqDiff, Nat.reduceMul, Nat.reduceSub, Nat.le_refl, Nat.zero_le, List.getElem?_map, List.map_nil, fillS, zipP, evalPs, List.replicate_zero, List.replicate_succ, appendV, List.isEmpty_cons, Nat.mul_zero, Nat.zero_mul, true_or, or_true, or_false, false_or, List.take_length, ite_self, z0, z1, bq1, bq2, Int.toNat_zero, z00, Nat.le_add_right, a37, h0, h1, h2, h3, h6, h6', h7, h7']
  | r :: rs, q, l, vm, v7, off, len, es, v8, n' + 1, s, hq, hn, hl, hwf, hil, hS, h8, h8', h42, h43, h44, ho, hx => by
    obtain ⟨h0, h1, h2, h3, h6, h6', h7, h7', hes, hlen, hO⟩ := hS
    obtain ⟨hg, hd, hlt⟩ := drop_cons hq
    obtain ⟨g1, g2, _, _, _, _, _, hri, _⟩ := checkF_facts hck
    have hc := ilt hlt
    have hw := wsucc hlt (by have := hp.rules; omega)
    have hlm := withinF_len hwm
    have hrm := mem_of hg
    have e28 := F28_eq (r := r) (st := ms) (right_use (hp.rule r hrm) (hri r hrm) hlm (by omega) (by omega))
    have ih := fun l vm v7 off len es s => @l37b n k p τ more most i res pd hτ hp hck hn0 ms mr hmr hwm rs (q+1) l vm v7 off len es v8 n' s hd (by simp at hn; omega)
    simp only [sub, c37, Try.f37, gets] at ih
    rw [useF_eq] at e28
    rw [L_succ]
    cases hr : rstepF r ms with
    | none =>
      rw [hr] at e28
      simp only [ownO] at e28
      simp only [vmr, vmw, vmp, ↓reduceIte, Nat.reduceBEq, Nat.reduceLT, Nat.reduceAdd, Nat.reduceEqDiff, reduceCtorEq, decide_true, decide_false, evalO, evalOs, ofValue, ofLeaf, params, tget, sub, aok, builtinV, overwrite, vlen, assignTo, settle1, settleL, newVarV, newArr, cellsAt, readT, storeAt, writeE, cellsV, vleaf, frz, frzs, refs, refsL, fitsE, binV, intOp, boolOp, nilOp, isNilS, unV, fillE, velems, callV_s, CR_some, CD, importV, import1, importL, importT, imm, immL, pureR, pureRL, shapeR, flatR, shares, sharesL, hand_cons, hand_nil, oks, vst, vmd, ty, List.all_cons, List.all_nil, List.length_cons, List.length_nil, List.drop_succ_cons, List.drop_zero, List.drop_nil, List.head?_cons, List.head?_nil, List.cons_append, List.nil_append, List.append_nil, List.getElem?_cons_zero, List.getElem?_cons_succ, List.take_succ_cons, List.take_zero, List.set_cons_zero, List.set_cons_succ, List.length_map, Bool.and_true, Bool.true_and, Bool.and_false, Bool.false_and, Bool.and_self, Bool.not_true, Bool.not_false, and_true, true_and, and_self, ne_eq, not_true_eq_false, not_false_eq_true, beq_self_eq_true, Option.isSome_none, Int.toNat_natCast, nat_nonneg, Nat.zero_add, Nat.add_zero, Nat.succ_ne_self, Nat.reduceLeDiff, Nat.reduceEqDiff, Nat.reduceMul, Nat.reduceSub, Nat.le_refl, Nat.zero_le, List.getElem?_map, List.map_nil, fillS, zipP, evalPs, List.replicate_zero, List.replicate_succ, appendV, List.isEmpty_cons, Nat.mul_zero, Nat.zero_mul, true_or, or_true, or_false, false_or, List.take_length, ite_self, z0, z1, bq1, bq2, Int.toNat_zero, z00, Nat.le_add_right, c37, Try.f37, a37, h42, h43, h44, hc, h8, h8', hg, e28, leaf_rv, n00, hw]
      simp only [innerF, hr] at ho hx
      refine ih l vm v7 off len es _ hl hwf hil ⟨?_, ?_, ?_, ?_, ?_, ?_, ?_, ?_, hes, hlen, hO⟩ ?_ ?_ ?_ ?_ ?_ ho hx
      all_goals simp only [vmr, vmw, vmp, ↓reduceIte, Nat.reduceBEq, Nat.reduceLT, Nat.reduceAdd, Nat.reduceEqDiff, reduceCtorEq, decide_true, decide_false, evalO, evalOs, ofValue, ofLeaf, params, tget, sub, aok, builtinV, overwrite, vlen, assignTo, settle1, settleL, newVarV, newArr, cellsAt, readT, storeAt, writeE, cellsV, vleaf, frz, frzs, refs, refsL, fitsE, binV, intOp, boolOp, nilOp, isNilS, unV, fillE, velems, callV_s, CR_some, CD, importV, import1, importL, importT, imm, immL, pureR, pureRL, shapeR, flatR, shares, sharesL, hand_cons, hand_nil, oks, vst, vmd, ty, List.all_cons, List.all_nil, List.length_cons, List.length_nil, List.drop_succ_cons, List.drop_zero, List.drop_nil, List.head?_cons, List.head?_nil, List.cons_append, List.nil_append, List.append_nil, List.getElem?_cons_zero, List.getElem?_cons_succ, List.take_succ_cons, List.take_zero, List.set_cons_zero, List.set_cons_succ, List.length_map, Bool.and_true, Bool.true_and, Bool.and_false, Bool.false_and, Bool.and_self, Bool.not_true, Bool.not_false, and_true, true_and, and_self, ne_eq, not_true_eq_false, not_false_eq_true, beq_self_eq_true, Option.isSome_none, Int.toNat_natCast, nat_nonneg, Nat.zero_add, Nat.add_zero, Nat.succ_ne_self, Nat.reduceLeDiff, Nat.reduceEqDiff, Nat.reduceMul, Nat.reduceSub, Nat.le_refl, Nat.zero_le, List.getElem?_map, List.map_nil, fillS, zipP, evalPs, List.replicate_zero, List.replicate_succ, appendV, List.isEmpty_cons, Nat.mul_zero, Nat.zero_mul, true_or, or_true, or_false, false_or, List.take_length, ite_self, z0, z1, bq1, bq2, Int.toNat_zero, z00, Nat.le_add_right, a37, h0, h1, h2, h3, h6, h6', h7, h7', h8, h8', h42, h43]
    | some o =>
      rw [hr] at e28
      dsimp only at e28
      have hol := rstep_len hr
      obtain ⟨B, hB⟩ := rstep_bnd (hp.rule r hrm) (hri r hrm) (within_bnd hwm) hr
      have hwx := within_max hB (by intro e; rw [e] at hol; simp at hol; omega)
      have hol' : (o.length : Int) = p.begin.length := by omega
      rw [hol'] at hwx
      cases hwo : withinF o p.begin.length 1000000 with
      | false =>
        rw [hwo] at hwx
        rw [if_pos (by simpa using hwx)] at e28
        simp only [ownO] at e28
        rw [ho (by simp only [innerF, hr, hwo, if_true])]
        have n70 : ((7:Int) != 0) = true := by decide
        simp only [vmr, vmw, vmp, ↓reduceIte, Nat.reduceBEq, Nat.reduceLT, Nat.reduceAdd, Nat.reduceEqDiff, reduceCtorEq, decide_true, decide_false, evalO, evalOs, ofValue, ofLeaf, params, tget, sub, aok, builtinV, overwrite, vlen, assignTo, settle1, settleL, newVarV, newArr, cellsAt, readT, storeAt, writeE, cellsV, vleaf, frz, frzs, refs, refsL, fitsE, binV, intOp, boolOp, nilOp, isNilS, unV, fillE, velems, callV_s, CR_some, CD, importV, import1, importL, importT, imm, immL, pureR, pureRL, shapeR, flatR, shares, sharesL, hand_cons, hand_nil, oks, vst, vmd, ty, List.all_cons, List.all_nil, List.length_cons, List.length_nil, List.drop_succ_cons, List.drop_zero, List.drop_nil, List.head?_cons, List.head?_nil, List.cons_append, List.nil_append, List.append_nil, List.getElem?_cons_zero, List.getElem?_cons_succ, List.take_succ_cons, List.take_zero, List.set_cons_zero, List.set_cons_succ, List.length_map, Bool.and_true, Bool.true_and, Bool.and_false, Bool.false_and, Bool.and_self, Bool.not_true, Bool.not_false, and_true, true_and, and_self, ne_eq, not_true_eq_false, not_false_eq_true, beq_self_eq_true, Option.isSome_none, Int.toNat_natCast, nat_nonneg, Nat.zero_add, Nat.add_zero, Nat.succ_ne_self, Nat.reduceLeDiff, Nat.reduceEqDiff, Nat.reduceMul, Nat.reduceSub, Nat.le_refl, Nat.zero_le, List.getElem?_map, List.map_nil, fillS, zipP, evalPs, List.replicate_zero, List.replicate_succ, appendV, List.isEmpty_cons, Nat.mul_zero, Nat.zero_mul, true_or, or_true, or_false, false_or, List.take_length, ite_self, z0, z1, bq1, bq2, Int.toNat_zero, z00, Nat.le_add_right, c37, Try.f37, a37, h42, h43, h44, hc, h8, h8', hg, e28, leaf_rv, n70, hw, h0]
        refine yield_of (by decide) (rnd_zero (by decide) hτ (inv_heap hO)) fun L' O' c' hL hO' => ?_
        simp only [vmr, vmw, vmp, ↓reduceIte, Nat.reduceBEq, Nat.reduceLT, Nat.reduceAdd, Nat.reduceEqDiff, reduceCtorEq, decide_true, decide_false, evalO, evalOs, ofValue, ofLeaf, params, tget, sub, aok, builtinV, overwrite, vlen, assignTo, settle1, settleL, newVarV, newArr, cellsAt, readT, storeAt, writeE, cellsV, vleaf, frz, frzs, refs, refsL, fitsE, binV, intOp, boolOp, nilOp, isNilS, unV, fillE, velems, callV_s, CR_some, CD, importV, import1, importL, importT, imm, immL, pureR, pureRL, shapeR, flatR, shares, sharesL, hand_cons, hand_nil, oks, vst, vmd, ty, List.all_cons, List.all_nil, List.length_cons, List.length_nil, List.drop_succ_cons, List.drop_zero, List.drop_nil, List.head?_cons, List.head?_nil, List.cons_append, List.nil_append, List.append_nil, List.getElem?_cons_zero, List.getElem?_cons_succ, List.take_succ_cons, List.take_zero, List.set_cons_zero, List.set_cons_succ, List.length_map, Bool.and_true, Bool.true_and, Bool.and_false, Bool.false_and, Bool.and_self, Bool.not_true, Bool.not_false, and_true, true_and, and_self, ne_eq, not_true_eq_false, not_false_eq_true, beq_self_eq_true, Option.isSome_none, Int.toNat_natCast, nat_nonneg, Nat.zero_add, Nat.add_zero, Nat.succ_ne_self, Nat.reduceLeDiff, Nat.reduceEqDiff, Nat.reduceMul, Nat.reduceSub, Nat.le_refl, Nat.zero_le, List.getElem?_map, List.map_nil, fillS, zipP, evalPs, List.replicate_zero, List.replicate_succ, appendV, List.isEmpty_cons, Nat.mul_zero, Nat.zero_mul, true_or, or_true, or_false, false_or, List.take_length, ite_self, z0, z1, bq1, bq2, Int.toNat_zero, z00, Nat.le_add_right, a37]
        exact ⟨_, _, _, .inr rfl, hO', .inr ⟨rfl, rfl⟩⟩
      | true =>
        rw [hwo] at hwx
        rw [if_neg (by simpa using hwx)] at e28
        simp only [ownO] at e28
        have hie : (List.map I o).isEmpty = false := by cases o with
          | nil => simp at hol'; omega
          | cons a b => rfl
        have htl := take_len I o
        have hko := keyOk_key (o := o) (by omega)
        have e38 := F38_eq (st := o) (by omega) (by omega)
        have hel : ∀ l : List Met, (entsV l).length = l.length := fun l => by simp [entsV]
        rcases mfind_ents (n := p.begin.length) (o := o) (by omega) g2 l 0 (fun m hm => by have := withinF_len (hwf m hm); omega) with ⟨hf, hkn⟩ | ⟨j, hf, hkn⟩
        · by_cases h5 : l.length = 5000
          · rw [ho (by simp only [innerF, hr, hwo, hkn, h5, if_true, Bool.true_eq_false, Bool.false_eq_true, if_false])]
            have hmp := mput_ents (m := ⟨o, mr ++ [(q : Int)]⟩) rfl hf
            have h5' : (((entsV (l ++ [⟨o, mr ++ [(q : Int)]⟩])).length : Int) > 5000) = True := by simp [hel, h5]
            simp only [vmr, vmw, vmp, ↓reduceIte, Nat.reduceBEq, Nat.reduceLT, Nat.reduceAdd, Nat.reduceEqDiff, reduceCtorEq, decide_true, decide_false, evalO, evalOs, ofValue, ofLeaf, params, tget, sub, aok, builtinV, overwrite, vlen, assignTo, settle1, settleL, newVarV, newArr, cellsAt, readT, storeAt, writeE, cellsV, vleaf, frz, frzs, refs, refsL, fitsE, binV, intOp, boolOp, nilOp, isNilS, unV, fillE, velems, callV_s, CR_some, CD, importV, import1, importL, importT, imm, immL, pureR, pureRL, shapeR, flatR, shares, sharesL, hand_cons, hand_nil, oks, vst, vmd, ty, List.all_cons, List.all_nil, List.length_cons, List.length_nil, List.drop_succ_cons, List.drop_zero, List.drop_nil, List.head?_cons, List.head?_nil, List.cons_append, List.nil_append, List.append_nil, List.getElem?_cons_zero, List.getElem?_cons_succ, List.take_succ_cons, List.take_zero, List.set_cons_zero, List.set_cons_succ, List.length_map, Bool.and_true, Bool.true_and, Bool.and_false, Bool.false_and, Bool.and_self, Bool.not_true, Bool.not_false, and_true, true_and, and_self, ne_eq, not_true_eq_false, not_false_eq_true, beq_self_eq_true, Option.isSome_none, Int.toNat_natCast, nat_nonneg, Nat.zero_add, Nat.add_zero, Nat.succ_ne_self, Nat.reduceLeDiff, Nat.reduceEqDiff, Nat.reduceMul, Nat.reduceSub, Nat.le_refl, Nat.zero_le, List.getElem?_map, List.map_nil, fillS, zipP, evalPs, List.replicate_zero, List.replicate_succ, appendV, List.isEmpty_cons, Nat.mul_zero, Nat.zero_mul, true_or, or_true, or_false, false_or, List.take_length, ite_self, z0, z1, bq1, bq2, Int.toNat_zero, z00, Nat.le_add_right, c37, Try.f37, a37, h42, h43, h44, hc, h8, h8', hg, e28, leaf_rv, n00, hw, h0, h6, h6', hie, htl, hko, e38, hf, shI, pureLI, import_I, allflatI, mapGet, mapPut, mapLen, hmp, h5']
            refine yield_of (by decide) (rnd_zero (by decide) hτ (inv_heap hO)) fun L' O' c' hL hO' => ?_
            simp only [vmr, vmw, vmp, ↓reduceIte, Nat.reduceBEq, Nat.reduceLT, Nat.reduceAdd, Nat.reduceEqDiff, reduceCtorEq, decide_true, decide_false, evalO, evalOs, ofValue, ofLeaf, params, tget, sub, aok, builtinV, overwrite, vlen, assignTo, settle1, settleL, newVarV, newArr, cellsAt, readT, storeAt, writeE, cellsV, vleaf, frz, frzs, refs, refsL, fitsE, binV, intOp, boolOp, nilOp, isNilS, unV, fillE, velems, callV_s, CR_some, CD, importV, import1, importL, importT, imm, immL, pureR, pureRL, shapeR, flatR, shares, sharesL, hand_cons, hand_nil, oks, vst, vmd, ty, List.all_cons, List.all_nil, List.length_cons, List.length_nil, List.drop_succ_cons, List.drop_zero, List.drop_nil, List.head?_cons, List.head?_nil, List.cons_append, List.nil_append, List.append_nil, List.getElem?_cons_zero, List.getElem?_cons_succ, List.take_succ_cons, List.take_zero, List.set_cons_zero, List.set_cons_succ, List.length_map, Bool.and_true, Bool.true_and, Bool.and_false, Bool.false_and, Bool.and_self, Bool.not_true, Bool.not_false, and_true, true_and, and_self, ne_eq, not_true_eq_false, not_false_eq_true, beq_self_eq_true, Option.isSome_none, Int.toNat_natCast, nat_nonneg, Nat.zero_add, Nat.add_zero, Nat.succ_ne_self, Nat.reduceLeDiff, Nat.reduceEqDiff, Nat.reduceMul, Nat.reduceSub, Nat.le_refl, Nat.zero_le, List.getElem?_map, List.map_nil, fillS, zipP, evalPs, List.replicate_zero, List.replicate_succ, appendV, List.isEmpty_cons, Nat.mul_zero, Nat.zero_mul, true_or, or_true, or_false, false_or, List.take_length, ite_self, z0, z1, bq1, bq2, Int.toNat_zero, z00, Nat.le_add_right, a37]
            exact ⟨_, _, _, .inr rfl, hO', .inr ⟨rfl, rfl⟩⟩
          · simp only [innerF, hr, hwo, hkn, h5, Bool.true_eq_false, Bool.false_eq_true, if_false] at ho hx
            obtain ⟨E1, hmp, hE1l, hE1⟩ : ∃ E1, mput (keyV o) (.bool true) (entsV l) = some E1 ∧ E1.length = l.length + 1 ∧ ∀ m : Met, m.state = o → entsV (l ++ [m]) = E1 :=
              ⟨_, mput_ents (m := ⟨o, []⟩) rfl hf, by simp [entsV], fun m hm => by simp [entsV, hm]⟩
            have h5' : ((E1.length : Int) > 5000) = False := by simp [hE1l]; omega
            have h60 := @room60 1 (by omega)
            have h60' := @room60 (len + 1) (by have := congrArg List.length hes; simp at this; omega)
            have hap : off + len = es.length := hlen
            have hlx : ∀ x : V, ((l.drop (i + 1)).map Met.v ++ [x]).length = len + 1 := fun x => by have := congrArg List.length hes; simp at this ⊢; omega
            have e39 := F39n_eq (l := mr) (by omega)
            have hwf' : WFl p (l ++ [⟨o, mr ++ [(q : Int)]⟩]) := fun m hm => by
              rcases List.mem_append.1 hm with hm | hm
              · exact hwf m hm
              · simp only [List.mem_singleton] at hm; subst hm; exact hwo
            have hob := @room3 (mr.length) (by omega)
            have hob1 := @room3 (mr.length + 1) (by omega)
            have hob0 := @room3 0 (by omega)
            have ho1 := @room3 1 (by omega)
            cases mr with
            | nil =>
              simp only [rv, cl, List.length_cons, List.map_cons] at h8' e39 hob hob1
              simp only [vmr, vmw, vmp, ↓reduceIte, Nat.reduceBEq, Nat.reduceLT, Nat.reduceAdd, Nat.reduceEqDiff, reduceCtorEq, decide_true, decide_false, evalO, evalOs, ofValue, ofLeaf, params, tget, sub, aok, builtinV, overwrite, vlen, assignTo, settle1, settleL, newVarV, newArr, cellsAt, readT, storeAt, writeE, cellsV, vleaf, frz, frzs, refs, refsL, fitsE, binV, intOp, boolOp, nilOp, isNilS, unV, fillE, velems, callV_s, CR_some, CD, importV, import1, importL, importT, imm, immL, pureR, pureRL, shapeR, flatR, shares, sharesL, hand_cons, hand_nil, oks, vst, vmd, ty, List.all_cons, List.all_nil, List.length_cons, List.length_nil, List.drop_succ_cons, List.drop_zero, List.drop_nil, List.head?_cons, List.head?_nil, List.cons_append, List.nil_append, List.append_nil, List.getElem?_cons_zero, List.getElem?_cons_succ, List.take_succ_cons, List.take_zero, List.set_cons_zero, List.set_cons_succ, List.length_map, Bool.and_true, Bool.true_and, Bool.and_false, Bool.false_and, Bool.and_self, Bool.not_true, Bool.not_false, and_true, true_and, and_self, ne_eq, not_true_eq_false, not_false_eq_true, beq_self_eq_true, Option.isSome_none, Int.toNat_natCast, nat_nonneg, Nat.zero_add, Nat.add_zero, Nat.succ_ne_self, Nat.reduceLeDiff, Nat.reduceEqDiff, Nat.reduceMul, Nat.reduceSub, Nat.le_refl, Nat.zero_le, List.getElem?_map, List.map_nil, fillS, zipP, evalPs, List.replicate_zero, List.replicate_succ, appendV, List.isEmpty_cons, Nat.mul_zero, Nat.zero_mul, true_or, or_true, or_false, false_or, List.take_length, ite_self, z0, z1, bq1, bq2, Int.toNat_zero, z00, Nat.le_add_right, c37, Try.f37, a37, h42, h43, h44, hc, h8, h8', hg, e28, leaf_rv, n00, hw, h0, h6, h6', h7, h7', hie, htl, hko, e38, e39, hf, shI, pureLI, import_I, allflatI, mapGet, mapPut, mapLen, hmp, h5', hob, hob1, hob0, ho1, h60, h60', fits60, hap, hes, allfitsI, fitsI, List.map_nil, List.map_cons, List.length_nil]
              refine ih (l ++ [⟨o, [] ++ [(q : Int)]⟩]) vm (s.c + 1 + 1 + 1 + 1 + 1 + 1) 0 (len + 1) ((l.drop (i + 1)).map Met.v ++ [Met.v ⟨o, [] ++ [(q : Int)]⟩]) _ (by simp; omega) hwf' (by simp; omega) ⟨?_, ?_, ?_, ?_, ?_, ?_, ?_, ?_, ?_, ?_, hO⟩ ?_ ?_ ?_ ?_ ?_ ho hx
              case refine_9 => rw [List.drop_zero, List.drop_append_of_le_length (l₁ := l) (by omega), List.map_append]; rfl
              case refine_10 => rw [hlx, Nat.zero_add]
              case refine_6 => rw [hE1 _ rfl]; simp only [vmr, vmw, vmp, ↓reduceIte, Nat.reduceBEq, Nat.reduceLT, Nat.reduceAdd, Nat.reduceEqDiff, reduceCtorEq, decide_true, decide_false, evalO, evalOs, ofValue, ofLeaf, params, tget, sub, aok, builtinV, overwrite, vlen, assignTo, settle1, settleL, newVarV, newArr, cellsAt, readT, storeAt, writeE, cellsV, vleaf, frz, frzs, refs, refsL, fitsE, binV, intOp, boolOp, nilOp, isNilS, unV, fillE, velems, callV_s, CR_some, CD, importV, import1, importL, importT, imm, immL, pureR, pureRL, shapeR, flatR, shares, sharesL, hand_cons, hand_nil, oks, vst, vmd, ty, List.all_cons, List.all_nil, List.length_cons, List.length_nil, List.drop_succ_cons, List.drop_zero, List.drop_nil, List.head?_cons, List.head?_nil, List.cons_append, List.nil_append, List.append_nil, List.getElem?_cons_zero, List.getElem?_cons_succ, List.take_succ_cons, List.take_zero, List.set_cons_zero, List.set_cons_succ, List.length_map, Bool.and_true, Bool.true_and, Bool.and_false, Bool.false_and, Bool.and_self, Bool.not_true, Bool.not_false, and_true, true_and, and_self, ne_eq, not_true_eq_false, not_false_eq_true, beq_self_eq_true, Option.isSome_none, Int.toNat_natCast, nat_nonneg, Nat.zero_add, Nat.add_zero, Nat.succ_ne_self, Nat.reduceLeDiff, Nat.reduceEqDiff, Nat.reduceMul, Nat.reduceSub, Nat.le_refl, Nat.zero_le, List.getElem?_map, List.map_nil, fillS, zipP, evalPs, List.replicate_zero, List.replicate_succ, appendV, List.isEmpty_cons, Nat.mul_zero, Nat.zero_mul, true_or, or_true, or_false, false_or, List.take_length, ite_self, z0, z1, bq1, bq2, Int.toNat_zero, z00, Nat.le_add_right, a37, h6']
              all_goals simp only [vmr, vmw, vmp, ↓reduceIte, Nat.reduceBEq, Nat.reduceLT, Nat.reduceAdd, Nat.reduceEqDiff, reduceCtorEq, decide_true, decide_false, evalO, evalOs, ofValue, ofLeaf, params, tget, sub, aok, builtinV, overwrite, vlen, assignTo, settle1, settleL, newVarV, newArr, cellsAt, readT, storeAt, writeE, cellsV, vleaf, frz, frzs, refs, refsL, fitsE, binV, intOp, boolOp, nilOp, isNilS, unV, fillE, velems, callV_s, CR_some, CD, importV, import1, importL, importT, imm, immL, pureR, pureRL, shapeR, flatR, shares, sharesL, hand_cons, hand_nil, oks, vst, vmd, ty, List.all_cons, List.all_nil, List.length_cons, List.length_nil, List.drop_succ_cons, List.drop_zero, List.drop_nil, List.head?_cons, List.head?_nil, List.cons_append, List.nil_append, List.append_nil, List.getElem?_cons_zero, List.getElem?_cons_succ, List.take_succ_cons, List.take_zero, List.set_cons_zero, List.set_cons_succ, List.length_map, Bool.and_true, Bool.true_and, Bool.and_false, Bool.false_and, Bool.and_self, Bool.not_true, Bool.not_false, and_true, true_and, and_self, ne_eq, not_true_eq_false, not_false_eq_true, beq_self_eq_true, Option.isSome_none, Int.toNat_natCast, nat_nonneg, Nat.zero_add, Nat.add_zero, Nat.succ_ne_self, Nat.reduceLeDiff, Nat.reduceEqDiff, Nat.reduceMul, Nat.reduceSub, Nat.le_refl, Nat.zero_le, List.getElem?_map, List.map_nil, fillS, zipP, evalPs, List.replicate_zero, List.replicate_succ, appendV, List.isEmpty_cons, Nat.mul_zero, Nat.zero_mul, true_or, or_true, or_false, false_or, List.take_length, ite_self, z0, z1, bq1, bq2, Int.toNat_zero, z00, Nat.le_add_right, a37, h0, h1, h2, h3, h6, h6', h7, h7', h8, h8', h42, h43, rv, List.map_cons, List.map_nil, List.map_append, hlx, Met.v]
            | cons y mr =>
              simp only [rv, cl, List.length_cons, List.map_cons] at h8' e39 hob hob1
              simp only [vmr, vmw, vmp, ↓reduceIte, Nat.reduceBEq, Nat.reduceLT, Nat.reduceAdd, Nat.reduceEqDiff, reduceCtorEq, decide_true, decide_false, evalO, evalOs, ofValue, ofLeaf, params, tget, sub, aok, builtinV, overwrite, vlen, assignTo, settle1, settleL, newVarV, newArr, cellsAt, readT, storeAt, writeE, cellsV, vleaf, frz, frzs, refs, refsL, fitsE, binV, intOp, boolOp, nilOp, isNilS, unV, fillE, velems, callV_s, CR_some, CD, importV, import1, importL, importT, imm, immL, pureR, pureRL, shapeR, flatR, shares, sharesL, hand_cons, hand_nil, oks, vst, vmd, ty, List.all_cons, List.all_nil, List.length_cons, List.length_nil, List.drop_succ_cons, List.drop_zero, List.drop_nil, List.head?_cons, List.head?_nil, List.cons_append, List.nil_append, List.append_nil, List.getElem?_cons_zero, List.getElem?_cons_succ, List.take_succ_cons, List.take_zero, List.set_cons_zero, List.set_cons_succ, List.length_map, Bool.and_true, Bool.true_and, Bool.and_false, Bool.false_and, Bool.and_self, Bool.not_true, Bool.not_false, and_true, true_and, and_self, ne_eq, not_true_eq_false, not_false_eq_true, beq_self_eq_true, Option.isSome_none, Int.toNat_natCast, nat_nonneg, Nat.zero_add, Nat.add_zero, Nat.succ_ne_self, Nat.reduceLeDiff, Nat.reduceEqDiff, Nat.reduceMul, Nat.reduceSub, Nat.le_refl, Nat.zero_le, List.getElem?_map, List.map_nil, fillS, zipP, evalPs, List.replicate_zero, List.replicate_succ, appendV, List.isEmpty_cons, Nat.mul_zero, Nat.zero_mul, true_or, or_true, or_false, false_or, List.take_length, ite_self, z0, z1, bq1, bq2, Int.toNat_zero, z00, Nat.le_add_right, c37, Try.f37, a37, h42, h43, h44, hc, h8, h8', hg, e28, leaf_rv, n00, hw, h0, h6, h6', h7, h7', hie, htl, hko, e38, e39, hf, shI, pureLI, import_I, allflatI, mapGet, mapPut, mapLen, hmp, h5', hob, hob1, hob0, ho1, h60, h60', fits60, hap, hes, allfitsI, fitsI, List.map_nil, List.map_cons, List.length_nil]
              refine ih (l ++ [⟨o, (y :: mr) ++ [(q : Int)]⟩]) vm (s.c + 1 + 1 + 1 + 1 + 1 + 1 + 1) 0 (len + 1) ((l.drop (i + 1)).map Met.v ++ [Met.v ⟨o, (y :: mr) ++ [(q : Int)]⟩]) _ (by simp; omega) hwf' (by simp; omega) ⟨?_, ?_, ?_, ?_, ?_, ?_, ?_, ?_, ?_, ?_, hO⟩ ?_ ?_ ?_ ?_ ?_ ho hx
              case refine_9 => rw [List.drop_zero, List.drop_append_of_le_length (l₁ := l) (by omega), List.map_append]; rfl
              case refine_10 => rw [hlx, Nat.zero_add]
              case refine_6 => rw [hE1 _ rfl]; simp only [vmr, vmw, vmp, ↓reduceIte, Nat.reduceBEq, Nat.reduceLT, Nat.reduceAdd, Nat.reduceEqDiff, reduceCtorEq, decide_true, decide_false, evalO, evalOs, ofValue, ofLeaf, params, tget, sub, aok, builtinV, overwrite, vlen, assignTo, settle1, settleL, newVarV, newArr, cellsAt, readT, storeAt, writeE, cellsV, vleaf, frz, frzs, refs, refsL, fitsE, binV, intOp, boolOp, nilOp, isNilS, unV, fillE, velems, callV_s, CR_some, CD, importV, import1, importL, importT, imm, immL, pureR, pureRL, shapeR, flatR, shares, sharesL, hand_cons, hand_nil, oks, vst, vmd, ty, List.all_cons, List.all_nil, List.length_cons, List.length_nil, List.drop_succ_cons, List.drop_zero, List.drop_nil, List.head?_cons, List.head?_nil, List.cons_append, List.nil_append, List.append_nil, List.getElem?_cons_zero, List.getElem?_cons_succ, List.take_succ_cons, List.take_zero, List.set_cons_zero, List.set_cons_succ, List.length_map, Bool.and_true, Bool.true_and, Bool.and_false, Bool.false_and, Bool.and_self, Bool.not_true, Bool.not_false, and_true, true_and, and_self, ne_eq, not_true_eq_false, not_false_eq_true, beq_self_eq_true, Option.isSome_none, Int.toNat_natCast, nat_nonneg, Nat.zero_add, Nat.add_zero, Nat.succ_ne_self, Nat.reduceLeDiff, Nat.reduceEqDiff, Nat.reduceMul, Nat.reduceSub, Nat.le_refl, Nat.zero_le, List.getElem?_map, List.map_nil, fillS, zipP, evalPs, List.replicate_zero, List.replicate_succ, appendV, List.isEmpty_cons, Nat.mul_zero, Nat.zero_mul, true_or, or_true, or_false, false_or, List.take_length, ite_self, z0, z1, bq1, bq2, Int.toNat_zero, z00, Nat.le_add_right, a37, h6']
              all_goals simp only [vmr, vmw, vmp, ↓reduceIte, Nat.reduceBEq, Nat.reduceLT, Nat.reduceAdd, Nat.reduceEqDiff, reduceCtorEq, decide_true, decide_false, evalO, evalOs, ofValue, ofLeaf, params, tget, sub, aok, builtinV, overwrite, vlen, assignTo, settle1, settleL, newVarV, newArr, cellsAt, readT, storeAt, writeE, cellsV, vleaf, frz, frzs, refs, refsL, fitsE, binV, intOp, boolOp, nilOp, isNilS, unV, fillE, velems, callV_s, CR_some, CD, importV, import1, importL, importT, imm, immL, pureR, pureRL, shapeR, flatR, shares, sharesL, hand_cons, hand_nil, oks, vst, vmd, ty, List.all_cons, List.all_nil, List.length_cons, List.length_nil, List.drop_succ_cons, List.drop_zero, List.drop_nil, List.head?_cons, List.head?_nil, List.cons_append, List.nil_append, List.append_nil, List.getElem?_cons_zero, List.getElem?_cons_succ, List.take_succ_cons, List.take_zero, List.set_cons_zero, List.set_cons_succ, List.length_map, Bool.and_true, Bool.true_and, Bool.and_false, Bool.false_and, Bool.and_self, Bool.not_true, Bool.not_false, and_true, true_and, and_self, ne_eq, not_true_eq_false, not_false_eq_true, beq_self_eq_true, Option.isSome_none, Int.toNat_natCast, nat_nonneg, Nat.zero_add, Nat.add_zero, Nat.succ_ne_self, Nat.reduceLeDiff, Nat.reduceEqDiff, Nat.reduceMul, Nat.reduceSub, Nat.le_refl, Nat.zero_le, List.getElem?_map, List.map_nil, fillS, zipP, evalPs, List.replicate_zero, List.replicate_succ, appendV, List.isEmpty_cons, Nat.mul_zero, Nat.zero_mul, true_or, or_true, or_false, false_or, List.take_length, ite_self, z0, z1, bq1, bq2, Int.toNat_zero, z00, Nat.le_add_right, a37, h0, h1, h2, h3, h6, h6', h7, h7', h8, h8', h42, h43, rv, List.map_cons, List.map_nil, List.map_append, hlx, Met.v]
        · simp only [innerF, hr, hwo, hkn, if_true, Bool.true_eq_false, if_false] at ho hx
          simp only [vmr, vmw, vmp, ↓reduceIte, Nat.reduceBEq, Nat.reduceLT, Nat.reduceAdd, Nat.reduceEqDiff, reduceCtorEq, decide_true, decide_false, evalO, evalOs, ofValue, ofLeaf, params, tget, sub, aok, builtinV, overwrite, vlen, assignTo, settle1, settleL, newVarV, newArr, cellsAt, readT, storeAt, writeE, cellsV, vleaf, frz, frzs, refs, refsL, fitsE, binV, intOp, boolOp, nilOp, isNilS, unV, fillE, velems, callV_s, CR_some, CD, importV, import1, importL, importT, imm, immL, pureR, pureRL, shapeR, flatR, shares, sharesL, hand_cons, hand_nil, oks, vst, vmd, ty, List.all_cons, List.all_nil, List.length_cons, List.length_nil, List.drop_succ_cons, List.drop_zero, List.drop_nil, List.head?_cons, List.head?_nil, List.cons_append, List.nil_append, List.append_nil, List.getElem?_cons_zero, List.getElem?_cons_succ, List.take_succ_cons, List.take_zero, List.set_cons_zero, List.set_cons_succ, List.length_map, Bool.and_true, Bool.true_and, Bool.and_false, Bool.false_and, Bool.and_self, Bool.not_true, Bool.not_false, and_true, true_and, and_self, ne_eq, not_true_eq_false, not_false_eq_true, beq_self_eq_true, Option.isSome_none, Int.toNat_natCast, nat_nonneg, Nat.zero_add, Nat.add_zero, Nat.succ_ne_self, Nat.reduceLeDiff, Nat.reduceEqDiff, Nat.reduceMul, Nat.reduceSub, Nat.le_refl, Nat.zero_le, List.getElem?_map, List.map_nil, fillS, zipP, evalPs, List.replicate_zero, List.replicate_succ, appendV, List.isEmpty_cons, Nat.mul_zero, Nat.zero_mul, true_or, or_true, or_false, false_or, List.take_length, ite_self, z0, z1, bq1, bq2, Int.toNat_zero, z00, Nat.le_add_right, c37, Try.f37, a37, h42, h43, h44, hc, h8, h8', hg, e28, leaf_rv, n00, hw, h0, h6, h6', hie, htl, hko, e38, hf, shI, pureLI, import_I, allflatI, mapGet]
          refine ih l vm v7 off len es _ hl hwf hil ⟨?_, ?_, ?_, ?_, ?_, ?_, ?_, ?_, hes, hlen, hO⟩ ?_ ?_ ?_ ?_ ?_ ho hx
          all_goals simp only [vmr, vmw, vmp, ↓reduceIte, Nat.reduceBEq, Nat.reduceLT, Nat.reduceAdd, Nat.reduceEqDiff, reduceCtorEq, decide_true, decide_false, evalO, evalOs, ofValue, ofLeaf, params, tget, sub, aok, builtinV, overwrite, vlen, assignTo, settle1, settleL, newVarV, newArr, cellsAt, readT, storeAt, writeE, cellsV, vleaf, frz, frzs, refs, refsL, fitsE, binV, intOp, boolOp, nilOp, isNilS, unV, fillE, velems, callV_s, CR_some, CD, importV, import1, importL, importT, imm, immL, pureR, pureRL, shapeR, flatR, shares, sharesL, hand_cons, hand_nil, oks, vst, vmd, ty, List.all_cons, List.all_nil, List.length_cons, List.length_nil, List.drop_succ_cons, List.drop_zero, List.drop_nil, List.head?_cons, List.head?_nil, List.cons_append, List.nil_append, List.append_nil, List.getElem?_cons_zero, List.getElem?_cons_succ, List.take_succ_cons, List.take_zero, List.set_cons_zero, List.set_cons_succ, List.length_map, Bool.and_true, Bool.true_and, Bool.and_false, Bool.false_and, Bool.and_self, Bool.not_true, Bool.not_false, and_true, true_and, and_self, ne_eq, not_true_eq_false, not_false_eq_true, beq_self_eq_true, Option.isSome_none, Int.toNat_natCast, nat_nonneg, Nat.zero_add, Nat.add_zero, Nat.succ_ne_self, Nat.reduceLeDiff, Nat.reduceEqDiff, Nat.reduceMul, Nat.reduceSub, Nat.le_refl, Nat.zero_le, List.getElem?_map, List.map_nil, fillS, zipP, evalPs, List.replicate_zero, List.replicate_succ, appendV, List.isEmpty_cons, Nat.mul_zero, Nat.zero_mul, true_or, or_true, or_false, false_or, List.take_length, ite_self, z0, z1, bq1, bq2, Int.toNat_zero, z00, Nat.le_add_right, a37, h0, h1, h2, h3, h6, h6', h7, h7', h8, h8', h42, h43]
end Go.Vi
