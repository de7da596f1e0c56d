/-
  Walk of chiasmuslaw34.run.
-/
import Derived.Test.YtkpcgnjjkaamgaaWH
set_option linter.unusedSimpArgs false
set_option linter.unusedVariables false
set_option maxRecDepth 100000
set_option maxHeartbeats 400000
namespace Go.Vi
open Go Go.Proofs

/-- run: the steps taken one by one. 'none': a step could not be taken; else the state and the error. -/
def runGo (p : Prot) : List Int → List Int → Int → Option (List Int × Int)
  | [], st, e => some (st, e)
  | r :: rs, st, e => if e = 0 then (match stepF p r st with
      | (some o, e') => runGo p rs o e'
      | (none, e') => none) else some (st, e)
def runV (x : Option (List Int × Int)) : V := match x with
  | none => .tup [.nilS, .bool false]
  | some (st, e) => .tup [Is st, .bool (e == 0)]
def runF (p : Prot) (steps : List Int) (more : Int) : Option (List Int × Int) := runGo p steps ((StartF p more).1.getD []) (StartF p more).2
noncomputable abbrev V20 : List (FuncId × (List V → Option V)) := (12, F12) :: (18, F18) :: []
theorem hV20 : SoundHand Try.prog (hand V20) :=
  sound_cons (hF_sound fun a h => by have := sound_imm (w12 a.1 a.2.1 a.2.2 h.1 h.2) (pure3 ..); rwa [stepV_eq] at this) <|
  sound_cons (hF_sound fun a h => by have := sound_imm (w18 a.1 a.2 h) (pure2 ..); rwa [startV_eq] at this) sound_nil
theorem l20 {n : Nat} {k : K} {out p} (hp : p.ok) (steps : List Int) (hb : steps.length ≤ 1000000) : ∀ rs i (st : List Int) (e : Int) n' s, steps.drop i = rs → rs.length < n' → st.length ≤ 1000 →
    tget s.τ 1 = Is steps → tget s.τ 3 = .ptr ⟨0, 3, 0⟩ 0 0 0 → lget s.L (3, 0) = some (0, .var p.cs) → tget s.τ 8 = Is st → tget s.τ 9 = I e → tget s.τ 10 = I (i : Nat) →
    (runGo p rs st e = none → out = some (.ret (.tup [.nilS, .bool false]))) →
    (∀ s' o e', runGo p rs st e = some (o, e') → o.length ≤ 1000 → tget s'.τ 8 = Is o → tget s'.τ 9 = I e' → Fin (M20 (hand V20) n) [.tmp 6, .tmp 7] (X (M20 (hand V20) n) (.exit 0) k s') = out) →
    Fin (M20 (hand V20) n) [.tmp 6, .tmp 7] (L (M20 (hand V20) n) (sub [1, 1, 0, 1, 0, 0] c20) n' k s) = out
  | [], i, st, e, n' + 1, s, hi, hn, hs, h1, h3, h3', h8, h9, h10, ho, hx => by
    have hc := inlt (drop_nil' hi)
    rw [L_succ]
    simp only [vmr, vmw, vmp, ↓reduceIte, Nat.reduceBEq, Nat.reduceLT, Nat.reduceAdd, Nat.reduceEqDiff, reduceCtorEq, decide_true, decide_false, evalO, evalOs, ofValue, ofLeaf, params, tget, sub, aok, builtinV, overwrite, vlen, assignTo, settle1, settleL, newVarV, newArr, cellsAt, readT, storeAt, writeE, cellsV, vleaf, frz, frzs, refs, refsL, fitsE, binV, intOp, boolOp, nilOp, isNilS, unV, fillE, velems, callV_s, CR_some, CD, importV, import1, importL, importT, imm, immL, pureR, pureRL, shapeR, flatR, shares, sharesL, hand_cons, hand_nil, oks, vst, vmd, ty, List.all_cons, List.all_nil, List.length_cons, List.length_nil, List.drop_succ_cons, List.drop_zero, List.drop_nil, List.head?_cons, List.head?_nil, List.cons_append, List.nil_append, List.append_nil, List.getElem?_cons_zero, List.getElem?_cons_succ, List.take_succ_cons, List.take_zero, List.set_cons_zero, List.set_cons_succ, List.length_map, Bool.and_true, Bool.true_and, Bool.and_false, Bool.false_and, Bool.and_self, Bool.not_true, Bool.not_false, and_true, true_and, and_self, ne_eq, not_true_eq_false, not_false_eq_true, beq_self_eq_true, Option.isSome_none, Int.toNat_natCast, nat_nonneg, Nat.zero_add, Nat.add_zero, Nat.succ_ne_self, Nat.reduceLeDiff, Nat.reduceEqDiff, Nat.reduceMul, Nat.reduceSub, Nat.le_refl, Nat.zero_le, List.getElem?_map, List.map_nil, fillS, zipP, evalPs, List.replicate_zero, List.replicate_succ, appendV, List.isEmpty_cons, Nat.mul_zero, Nat.zero_mul, true_or, or_true, or_false, false_or, List.take_length, ite_self, z0, z1, bq1, bq2, Int.toNat_zero, z00, Nat.le_add_right, c20, Try.f20, m20, h1, h10, hc]
    refine hx _ st e rfl hs ?_ ?_
    all_goals simp only [vmr, vmw, vmp, ↓reduceIte, Nat.reduceBEq, Nat.reduceLT, Nat.reduceAdd, Nat.reduceEqDiff, reduceCtorEq, decide_true, decide_false, evalO, evalOs, ofValue, ofLeaf, params, tget, sub, aok, builtinV, overwrite, vlen, assignTo, settle1, settleL, newVarV, newArr, cellsAt, readT, storeAt, writeE, cellsV, vleaf, frz, frzs, refs, refsL, fitsE, binV, intOp, boolOp, nilOp, isNilS, unV, fillE, velems, callV_s, CR_some, CD, importV, import1, importL, importT, imm, immL, pureR, pureRL, shapeR, flatR, shares, sharesL, hand_cons, hand_nil, oks, vst, vmd, ty, List.all_cons, List.all_nil, List.length_cons, List.length_nil, List.drop_succ_cons, List.drop_zero, List.drop_nil, List.head?_cons, List.head?_nil, List.cons_append, List.nil_append, List.append_nil, List.getElem?_cons_zero, List.getElem?_cons_succ, List.take_succ_cons, List.take_zero, List.set_cons_zero, List.set_cons_succ, List.length_map, Bool.and_true, Bool.true_and, Bool.and_false, Bool.false_and, Bool.and_self, Bool.not_true, Bool.not_false, and_true, true_and, and_self, ne_eq, not_true_eq_false, not_false_eq_true, beq_self_eq_true, Option.isSome_none, Int.toNat_natCast, nat_nonneg, Nat.zero_add, Nat.add_zero, Nat.succ_ne_self, Nat.reduceLeDiff, Nat.reduceEqDiff, Nat.reduceMul, Nat.reduceSub, Nat.le_refl, Nat.zero_le, List.getElem?_map, List.map_nil, fillS, zipP, evalPs, List.replicate_zero, List.replicate_succ, appendV, List.isEmpty_cons, Nat.mul_zero, Nat.zero_mul, true_or, or_true, or_false, false_or, List.take_length, ite_self, z0, z1, bq1, bq2, Int.toNat_zero, z00, Nat.le_add_right, m20, h8, h9]
  | r :: rs, i, st, e, n' + 1, s, hi, hn, hs, h1, h3, h3', h8, h9, h10, ho, hx => by
    obtain ⟨hg, hd, hlt⟩ := drop_cons hi
    have hc := ilt hlt
    have hw := wsucc hlt hb
    have e12 := F12_eq (p := p) (r := r) (st := st) hp hs
    have hs1 : calm (M20 (hand V20) n).E (opsAt (sub [1, 1, 0, 1, 0, 0, 1, 0, 0, 1, 0] c20)) = true := by kernel_rfl
    have ih := fun st e s => @l20 n k out p hp steps hb rs (i+1) st e n' s hd (by simp at hn; omega)
    simp only [sub, c20, Try.f20, gets, opsAt] at hs1 ih
    rw [L_succ]
    by_cases he : e = 0
    · subst he
      have z : ((0:Int) == 0) = true := rfl
      simp only [runGo, if_true] at ho hx
      have hlen := fun o => @stepF_len p r st o hs
      generalize hx2 : stepF p r st = x at e12 ho hx hlen
      obtain ⟨o, e'⟩ := x
      cases o with
      | none =>
        rw [ho rfl]
        simp only [stepV, Option.isSome_none, Option.getD_none] at e12
        simp only [vmr, vmw, vmp, ↓reduceIte, Nat.reduceBEq, Nat.reduceLT, Nat.reduceAdd, Nat.reduceEqDiff, reduceCtorEq, decide_true, decide_false, evalO, evalOs, ofValue, ofLeaf, params, tget, sub, aok, builtinV, overwrite, vlen, assignTo, settle1, settleL, newVarV, newArr, cellsAt, readT, storeAt, writeE, cellsV, vleaf, frz, frzs, refs, refsL, fitsE, binV, intOp, boolOp, nilOp, isNilS, unV, fillE, velems, callV_s, CR_some, CD, importV, import1, importL, importT, imm, immL, pureR, pureRL, shapeR, flatR, shares, sharesL, hand_cons, hand_nil, oks, vst, vmd, ty, List.all_cons, List.all_nil, List.length_cons, List.length_nil, List.drop_succ_cons, List.drop_zero, List.drop_nil, List.head?_cons, List.head?_nil, List.cons_append, List.nil_append, List.append_nil, List.getElem?_cons_zero, List.getElem?_cons_succ, List.take_succ_cons, List.take_zero, List.set_cons_zero, List.set_cons_succ, List.length_map, Bool.and_true, Bool.true_and, Bool.and_false, Bool.false_and, Bool.and_self, Bool.not_true, Bool.not_false, and_true, true_and, and_self, ne_eq, not_true_eq_false, not_false_eq_true, beq_self_eq_true, Option.isSome_none, Int.toNat_natCast, nat_nonneg, Nat.zero_add, Nat.add_zero, Nat.succ_ne_self, Nat.reduceLeDiff, Nat.reduceEqDiff, Nat.reduceMul, Nat.reduceSub, Nat.le_refl, Nat.zero_le, List.getElem?_map, List.map_nil, fillS, zipP, evalPs, List.replicate_zero, List.replicate_succ, appendV, List.isEmpty_cons, Nat.mul_zero, Nat.zero_mul, true_or, or_true, or_false, false_or, List.take_length, ite_self, z0, z1, bq1, bq2, Int.toNat_zero, z00, Nat.le_add_right, Fin_ret, Fin_nrm, Fin_pan, X_top, resV, exports, nodupK, exportT, exportA, exportL, export1, tupV, List.contains_nil, c20, Try.f20, m20, h1, h3, h3', h8, h9, h10, hc, hg, z, e12, hs1, List.isEmpty_nil]
      | some o =>
        simp only [stepV, isome, gets] at e12
        simp only [vmr, vmw, vmp, ↓reduceIte, Nat.reduceBEq, Nat.reduceLT, Nat.reduceAdd, Nat.reduceEqDiff, reduceCtorEq, decide_true, decide_false, evalO, evalOs, ofValue, ofLeaf, params, tget, sub, aok, builtinV, overwrite, vlen, assignTo, settle1, settleL, newVarV, newArr, cellsAt, readT, storeAt, writeE, cellsV, vleaf, frz, frzs, refs, refsL, fitsE, binV, intOp, boolOp, nilOp, isNilS, unV, fillE, velems, callV_s, CR_some, CD, importV, import1, importL, importT, imm, immL, pureR, pureRL, shapeR, flatR, shares, sharesL, hand_cons, hand_nil, oks, vst, vmd, ty, List.all_cons, List.all_nil, List.length_cons, List.length_nil, List.drop_succ_cons, List.drop_zero, List.drop_nil, List.head?_cons, List.head?_nil, List.cons_append, List.nil_append, List.append_nil, List.getElem?_cons_zero, List.getElem?_cons_succ, List.take_succ_cons, List.take_zero, List.set_cons_zero, List.set_cons_succ, List.length_map, Bool.and_true, Bool.true_and, Bool.and_false, Bool.false_and, Bool.and_self, Bool.not_true, Bool.not_false, and_true, true_and, and_self, ne_eq, not_true_eq_false, not_false_eq_true, beq_self_eq_true, Option.isSome_none, Int.toNat_natCast, nat_nonneg, Nat.zero_add, Nat.add_zero, Nat.succ_ne_self, Nat.reduceLeDiff, Nat.reduceEqDiff, Nat.reduceMul, Nat.reduceSub, Nat.le_refl, Nat.zero_le, List.getElem?_map, List.map_nil, fillS, zipP, evalPs, List.replicate_zero, List.replicate_succ, appendV, List.isEmpty_cons, Nat.mul_zero, Nat.zero_mul, true_or, or_true, or_false, false_or, List.take_length, ite_self, z0, z1, bq1, bq2, Int.toNat_zero, z00, Nat.le_add_right, c20, Try.f20, m20, h1, h3, h3', h8, h9, h10, hc, hg, z, e12, hs1, shI, hw, List.isEmpty_nil]
        refine ih o e' _ (hlen o rfl) ?_ ?_ ?_ ?_ ?_ ?_ ho hx
        all_goals simp only [vmr, vmw, vmp, ↓reduceIte, Nat.reduceBEq, Nat.reduceLT, Nat.reduceAdd, Nat.reduceEqDiff, reduceCtorEq, decide_true, decide_false, evalO, evalOs, ofValue, ofLeaf, params, tget, sub, aok, builtinV, overwrite, vlen, assignTo, settle1, settleL, newVarV, newArr, cellsAt, readT, storeAt, writeE, cellsV, vleaf, frz, frzs, refs, refsL, fitsE, binV, intOp, boolOp, nilOp, isNilS, unV, fillE, velems, callV_s, CR_some, CD, importV, import1, importL, importT, imm, immL, pureR, pureRL, shapeR, flatR, shares, sharesL, hand_cons, hand_nil, oks, vst, vmd, ty, List.all_cons, List.all_nil, List.length_cons, List.length_nil, List.drop_succ_cons, List.drop_zero, List.drop_nil, List.head?_cons, List.head?_nil, List.cons_append, List.nil_append, List.append_nil, List.getElem?_cons_zero, List.getElem?_cons_succ, List.take_succ_cons, List.take_zero, List.set_cons_zero, List.set_cons_succ, List.length_map, Bool.and_true, Bool.true_and, Bool.and_false, Bool.false_and, Bool.and_self, Bool.not_true, Bool.not_false, and_true, true_and, and_self, ne_eq, not_true_eq_false, not_false_eq_true, beq_self_eq_true, Option.isSome_none, Int.toNat_natCast, nat_nonneg, Nat.zero_add, Nat.add_zero, Nat.succ_ne_self, Nat.reduceLeDiff, Nat.reduceEqDiff, Nat.reduceMul, Nat.reduceSub, Nat.le_refl, Nat.zero_le, List.getElem?_map, List.map_nil, fillS, zipP, evalPs, List.replicate_zero, List.replicate_succ, appendV, List.isEmpty_cons, Nat.mul_zero, Nat.zero_mul, true_or, or_true, or_false, false_or, List.take_length, ite_self, z0, z1, bq1, bq2, Int.toNat_zero, z00, Nat.le_add_right, m20, h1, h3, h3']
    · have z : (e == 0) = false := by simpa using he
      simp only [runGo, if_neg he] at ho hx
      simp only [vmr, vmw, vmp, ↓reduceIte, Nat.reduceBEq, Nat.reduceLT, Nat.reduceAdd, Nat.reduceEqDiff, reduceCtorEq, decide_true, decide_false, evalO, evalOs, ofValue, ofLeaf, params, tget, sub, aok, builtinV, overwrite, vlen, assignTo, settle1, settleL, newVarV, newArr, cellsAt, readT, storeAt, writeE, cellsV, vleaf, frz, frzs, refs, refsL, fitsE, binV, intOp, boolOp, nilOp, isNilS, unV, fillE, velems, callV_s, CR_some, CD, importV, import1, importL, importT, imm, immL, pureR, pureRL, shapeR, flatR, shares, sharesL, hand_cons, hand_nil, oks, vst, vmd, ty, List.all_cons, List.all_nil, List.length_cons, List.length_nil, List.drop_succ_cons, List.drop_zero, List.drop_nil, List.head?_cons, List.head?_nil, List.cons_append, List.nil_append, List.append_nil, List.getElem?_cons_zero, List.getElem?_cons_succ, List.take_succ_cons, List.take_zero, List.set_cons_zero, List.set_cons_succ, List.length_map, Bool.and_true, Bool.true_and, Bool.and_false, Bool.false_and, Bool.and_self, Bool.not_true, Bool.not_false, and_true, true_and, and_self, ne_eq, not_true_eq_false, not_false_eq_true, beq_self_eq_true, Option.isSome_none, Int.toNat_natCast, nat_nonneg, Nat.zero_add, Nat.add_zero, Nat.succ_ne_self, Nat.reduceLeDiff, Nat.reduceEqDiff, Nat.reduceMul, Nat.reduceSub, Nat.le_refl, Nat.zero_le, List.getElem?_map, List.map_nil, fillS, zipP, evalPs, List.replicate_zero, List.replicate_succ, appendV, List.isEmpty_cons, Nat.mul_zero, Nat.zero_mul, true_or, or_true, or_false, false_or, List.take_length, ite_self, z0, z1, bq1, bq2, Int.toNat_zero, z00, Nat.le_add_right, c20, Try.f20, m20, h1, h10, hc, h9, z]
      refine hx _ st e rfl hs ?_ ?_
      all_goals simp only [vmr, vmw, vmp, ↓reduceIte, Nat.reduceBEq, Nat.reduceLT, Nat.reduceAdd, Nat.reduceEqDiff, reduceCtorEq, decide_true, decide_false, evalO, evalOs, ofValue, ofLeaf, params, tget, sub, aok, builtinV, overwrite, vlen, assignTo, settle1, settleL, newVarV, newArr, cellsAt, readT, storeAt, writeE, cellsV, vleaf, frz, frzs, refs, refsL, fitsE, binV, intOp, boolOp, nilOp, isNilS, unV, fillE, velems, callV_s, CR_some, CD, importV, import1, importL, importT, imm, immL, pureR, pureRL, shapeR, flatR, shares, sharesL, hand_cons, hand_nil, oks, vst, vmd, ty, List.all_cons, List.all_nil, List.length_cons, List.length_nil, List.drop_succ_cons, List.drop_zero, List.drop_nil, List.head?_cons, List.head?_nil, List.cons_append, List.nil_append, List.append_nil, List.getElem?_cons_zero, List.getElem?_cons_succ, List.take_succ_cons, List.take_zero, List.set_cons_zero, List.set_cons_succ, List.length_map, Bool.and_true, Bool.true_and, Bool.and_false, Bool.false_and, Bool.and_self, Bool.not_true, Bool.not_false, and_true, true_and, and_self, ne_eq, not_true_eq_false, not_false_eq_true, beq_self_eq_true, Option.isSome_none, Int.toNat_natCast, nat_nonneg, Nat.zero_add, Nat.add_zero, Nat.succ_ne_self, Nat.reduceLeDiff, Nat.reduceEqDiff, Nat.reduceMul, Nat.reduceSub, Nat.le_refl, Nat.zero_le, List.getElem?_map, List.map_nil, fillS, zipP, evalPs, List.replicate_zero, List.replicate_succ, appendV, List.isEmpty_cons, Nat.mul_zero, Nat.zero_mul, true_or, or_true, or_false, false_or, List.take_length, ite_self, z0, z1, bq1, bq2, Int.toNat_zero, z00, Nat.le_add_right, m20, h8, h9]
theorem runV_pure (x : Option (List Int × Int)) : pureR (runV x) = true := by
  rcases x with _ | ⟨st, e⟩
  · rfl
  · simp only [runV, pureR, pureRL, pureLI, Bool.and_self]
theorem w20 (p : Prot) (steps : List Int) (more : Int) (hp : p.ok) (hb : steps.length ≤ 1000000) : SoundPure Try.prog 20 [p.v, Is steps, I more] (.ret (runV (runF p steps more))) := by
  refine s20 hV20 (steps.length + 1) (by simp) (runV_pure _) ?_
  have e18 := F18_eq (m := more) hp
  have l18 : ((StartF p more).1.getD []).length ≤ 1000 := by
    cases h : (StartF p more).1 with
    | none => simp
    | some o => exact StartF_len hp h
  unfold runF
  have a1 := fun k out => @l20 (steps.length + 1) k out p hp steps hb steps 0 ((StartF p more).1.getD []) (StartF p more).2 (steps.length + 1)
  simp only [startV] at e18
  generalize ((StartF p more).1.getD []) = o at e18 l18 a1 ⊢
  generalize (StartF p more).2 = e at e18 a1 ⊢
  simp only [sub, c20, Try.f20, gets] at a1 ⊢
  simp only [vmr, vmw, vmp, ↓reduceIte, Nat.reduceBEq, Nat.reduceLT, Nat.reduceAdd, Nat.reduceEqDiff, reduceCtorEq, decide_true, decide_false, evalO, evalOs, ofValue, ofLeaf, params, tget, sub, aok, builtinV, overwrite, vlen, assignTo, settle1, settleL, newVarV, newArr, cellsAt, readT, storeAt, writeE, cellsV, vleaf, frz, frzs, refs, refsL, fitsE, binV, intOp, boolOp, nilOp, isNilS, unV, fillE, velems, callV_s, CR_some, CD, importV, import1, importL, importT, imm, immL, pureR, pureRL, shapeR, flatR, shares, sharesL, hand_cons, hand_nil, oks, vst, vmd, ty, List.all_cons, List.all_nil, List.length_cons, List.length_nil, List.drop_succ_cons, List.drop_zero, List.drop_nil, List.head?_cons, List.head?_nil, List.cons_append, List.nil_append, List.append_nil, List.getElem?_cons_zero, List.getElem?_cons_succ, List.take_succ_cons, List.take_zero, List.set_cons_zero, List.set_cons_succ, List.length_map, Bool.and_true, Bool.true_and, Bool.and_false, Bool.false_and, Bool.and_self, Bool.not_true, Bool.not_false, and_true, true_and, and_self, ne_eq, not_true_eq_false, not_false_eq_true, beq_self_eq_true, Option.isSome_none, Int.toNat_natCast, nat_nonneg, Nat.zero_add, Nat.add_zero, Nat.succ_ne_self, Nat.reduceLeDiff, Nat.reduceEqDiff, Nat.reduceMul, Nat.reduceSub, Nat.le_refl, Nat.zero_le, List.getElem?_map, List.map_nil, fillS, zipP, evalPs, List.replicate_zero, List.replicate_succ, appendV, List.isEmpty_cons, Nat.mul_zero, Nat.zero_mul, true_or, or_true, or_false, false_or, List.take_length, ite_self, z0, z1, bq1, bq2, Int.toNat_zero, z00, Nat.le_add_right, m20, e18, shI]
  refine a1 _ _ _ rfl (by omega) l18 ?_ ?_ ?_ ?_ ?_ ?_ ?_ ?_
  case refine_7 => intro h; rw [h]; rfl
  case refine_8 =>
    intro s' o' e' h ho h8 h9
    rw [h]
    simp only [vmr, vmw, vmp, ↓reduceIte, Nat.reduceBEq, Nat.reduceLT, Nat.reduceAdd, Nat.reduceEqDiff, reduceCtorEq, decide_true, decide_false, evalO, evalOs, ofValue, ofLeaf, params, tget, sub, aok, builtinV, overwrite, vlen, assignTo, settle1, settleL, newVarV, newArr, cellsAt, readT, storeAt, writeE, cellsV, vleaf, frz, frzs, refs, refsL, fitsE, binV, intOp, boolOp, nilOp, isNilS, unV, fillE, velems, callV_s, CR_some, CD, importV, import1, importL, importT, imm, immL, pureR, pureRL, shapeR, flatR, shares, sharesL, hand_cons, hand_nil, oks, vst, vmd, ty, List.all_cons, List.all_nil, List.length_cons, List.length_nil, List.drop_succ_cons, List.drop_zero, List.drop_nil, List.head?_cons, List.head?_nil, List.cons_append, List.nil_append, List.append_nil, List.getElem?_cons_zero, List.getElem?_cons_succ, List.take_succ_cons, List.take_zero, List.set_cons_zero, List.set_cons_succ, List.length_map, Bool.and_true, Bool.true_and, Bool.and_false, Bool.false_and, Bool.and_self, Bool.not_true, Bool.not_false, and_true, true_and, and_self, ne_eq, not_true_eq_false, not_false_eq_true, beq_self_eq_true, Option.isSome_none, Int.toNat_natCast, nat_nonneg, Nat.zero_add, Nat.add_zero, Nat.succ_ne_self, Nat.reduceLeDiff, Nat.reduceEqDiff, Nat.reduceMul, Nat.reduceSub, Nat.le_refl, Nat.zero_le, List.getElem?_map, List.map_nil, fillS, zipP, evalPs, List.replicate_zero, List.replicate_succ, appendV, List.isEmpty_cons, Nat.mul_zero, Nat.zero_mul, true_or, or_true, or_false, false_or, List.take_length, ite_self, z0, z1, bq1, bq2, Int.toNat_zero, z00, Nat.le_add_right, Fin_ret, Fin_nrm, Fin_pan, X_top, resV, exports, nodupK, exportT, exportA, exportL, export1, tupV, List.contains_nil, m20, h8, h9, runV, pureLI]
  all_goals simp only [vmr, vmw, vmp, ↓reduceIte, Nat.reduceBEq, Nat.reduceLT, Nat.reduceAdd, Nat.reduceEqDiff, reduceCtorEq, decide_true, decide_false, evalO, evalOs, ofValue, ofLeaf, params, tget, sub, aok, builtinV, overwrite, vlen, assignTo, settle1, settleL, newVarV, newArr, cellsAt, readT, storeAt, writeE, cellsV, vleaf, frz, frzs, refs, refsL, fitsE, binV, intOp, boolOp, nilOp, isNilS, unV, fillE, velems, callV_s, CR_some, CD, importV, import1, importL, importT, imm, immL, pureR, pureRL, shapeR, flatR, shares, sharesL, hand_cons, hand_nil, oks, vst, vmd, ty, List.all_cons, List.all_nil, List.length_cons, List.length_nil, List.drop_succ_cons, List.drop_zero, List.drop_nil, List.head?_cons, List.head?_nil, List.cons_append, List.nil_append, List.append_nil, List.getElem?_cons_zero, List.getElem?_cons_succ, List.take_succ_cons, List.take_zero, List.set_cons_zero, List.set_cons_succ, List.length_map, Bool.and_true, Bool.true_and, Bool.and_false, Bool.false_and, Bool.and_self, Bool.not_true, Bool.not_false, and_true, true_and, and_self, ne_eq, not_true_eq_false, not_false_eq_true, beq_self_eq_true, Option.isSome_none, Int.toNat_natCast, nat_nonneg, Nat.zero_add, Nat.add_zero, Nat.succ_ne_self, Nat.reduceLeDiff, Nat.reduceEqDiff, Nat.reduceMul, Nat.reduceSub, Nat.le_refl, Nat.zero_le, List.getElem?_map, List.map_nil, fillS, zipP, evalPs, List.replicate_zero, List.replicate_succ, appendV, List.isEmpty_cons, Nat.mul_zero, Nat.zero_mul, true_or, or_true, or_false, false_or, List.take_length, ite_self, z0, z1, bq1, bq2, Int.toNat_zero, z00, Nat.le_add_right, m20]
end Go.Vi
set_option maxHeartbeats 400000
namespace Go.Vi
open Go Go.Proofs

theorem stepF_of {p : Prot} {st o : List Int} {q : Nat} {r : Rule} (hp : p.ok) (hck : checkF p = 0) (hg : p.rules[q]? = some r) (hw : withinF st p.begin.length 1000000 = true) (hr : rstepF r st = some o) (hwo : withinF o p.begin.length 1000000 = true) : stepF p (q : Int) st = (some o, 0) := by
  have hlt : q < p.rules.length := (List.getElem?_eq_some_iff.1 hg).1
  obtain ⟨g1, g2, _, _, _, _, _, hri, _⟩ := checkF_facts hck
  have hrm := mem_of hg
  have hol := rstep_len hr
  have hlm := withinF_len hw
  obtain ⟨B, hB⟩ := rstep_bnd (hp.rule r hrm) (hri r hrm) (within_bnd hw) hr
  have hwx := within_max hB (by intro e; rw [e] at hol; simp at hol; omega)
  rw [show (o.length : Int) = p.begin.length by omega, hwo] at hwx
  have hgd : p.rules.getD (q : Int).toNat rule0 = r := by simp [List.getD, hg]
  unfold stepF
  rw [if_neg (by simp [hck]), if_neg (by omega), if_neg (by simp [hw]), hgd, useF_eq, hr]
  dsimp only
  rw [if_neg (by simpa using hwx.symm)]
theorem of_stepF {p : Prot} {st o : List Int} {x e : Int} (hp : p.ok) (hck : checkF p = 0) (h : stepF p x st = (some o, e)) : withinF st p.begin.length 1000000 = true ∧ e = 0 ∧ ∃ q r, x = (q : Nat) ∧ p.rules[q]? = some r ∧ rstepF r st = some o ∧ withinF o p.begin.length 1000000 = true := by
  obtain ⟨g1, g2, _, _, _, _, _, hri, _⟩ := checkF_facts hck
  unfold stepF at h
  rw [if_neg (by simp [hck])] at h
  split at h
  · injection h with h _; cases h
  · rename_i hx
    split at h
    · injection h with h _; cases h
    · rename_i hw
      have hw : withinF st p.begin.length 1000000 = true := by simpa using hw
      have hlt : x.toNat < p.rules.length := by omega
      have hg : p.rules[x.toNat]? = some p.rules[x.toNat] := List.getElem?_eq_getElem hlt
      have hgd : p.rules.getD x.toNat rule0 = p.rules[x.toNat] := by simp [List.getD, hg]
      rw [hgd, useF_eq] at h
      cases hr : rstepF p.rules[x.toNat] st with
      | none => rw [hr] at h; injection h with h _; cases h
      | some o' =>
        rw [hr] at h
        dsimp only at h
        split at h
        · injection h with h _; cases h
        · rename_i hmx
          injection h with h1 h2
          injection h1 with h1
          subst h1
          have hrm := mem_of hg
          have hol := rstep_len hr
          have hlm := withinF_len hw
          obtain ⟨B, hB⟩ := rstep_bnd (hp.rule _ hrm) (hri _ hrm) (within_bnd hw) hr
          have hwx := within_max hB (by intro e; rw [e] at hol; simp at hol; omega)
          rw [show (o'.length : Int) = p.begin.length by omega] at hwx
          exact ⟨hw, h2.symm, x.toNat, _, by omega, hg, hr, by rw [hwx]; simpa using hmx⟩
theorem runGo_snoc {p : Prot} : ∀ (rs : List Int) (st o o' : List Int) (e : Int) (r : Int), runGo p rs st e = some (o, 0) → stepF p r o = (some o', 0) → runGo p (rs ++ [r]) st e = some (o', 0)
  | [], st, o, o', e, r, h, hs => by
    simp only [runGo, Option.some.injEq, Prod.mk.injEq] at h
    obtain ⟨rfl, rfl⟩ := h
    simp only [List.nil_append, runGo, if_true, hs]
  | x :: rs, st, o, o', e, r, h, hs => by
    simp only [runGo, List.cons_append] at h ⊢
    split at h
    · rename_i he
      rw [if_pos he]
      split at h
      · rename_i a b hq
        exact runGo_snoc rs _ _ _ _ _ h hs
      · cases h
    · rename_i he
      simp only [Option.some.injEq, Prod.mk.injEq] at h
      exact absurd h.2 he
/-- A walk that ends without an error, with the states on its way. -/
def NB (p : Prot) (st : List Int) (rs : List Int) (o : List Int) : Prop :=
  runGo p rs st 0 = some (o, 0) ∧ ∀ k, k < rs.length → ∃ x, runGo p (rs.take k) st 0 = some (x, 0) ∧ withinF x p.begin.length 1000000 = true ∧ badF p x = false
structure Bfs (p : Prot) (most : Int) (st : List Int) (i : Nat) (l : List Met) : Prop where
  wf : WFl p l
  path : ∀ m ∈ l, NB p st m.rules m.state
  sorted : l.Pairwise fun a b => a.rules.length ≤ b.rules.length
  top : ∀ m, l[i]? = some m → ∀ x ∈ l, x.rules.length ≤ m.rules.length + 1
  good : ∀ j m, j < i → l[j]? = some m → badF p m.state = false
  done : ∀ j m, j < i → l[j]? = some m → (m.rules.length : Int) ≠ most → ∀ (q : Nat) r o, p.rules[q]? = some r → rstepF r m.state = some o → ∃ x ∈ l, x.state = o ∧ x.rules.length ≤ m.rules.length + 1
  start : ∃ x ∈ l, x.state = st ∧ x.rules = []
structure Jn (p : Prot) (st : List Int) (m : Met) (l : List Met) : Prop where
  wf : WFl p l
  path : ∀ x ∈ l, NB p st x.rules x.state
  sorted : l.Pairwise fun a b => a.rules.length ≤ b.rules.length
  top : ∀ x ∈ l, x.rules.length ≤ m.rules.length + 1
theorem NB_snoc {p : Prot} {st o : List Int} {m : Met} {q : Int} (h : NB p st m.rules m.state) (hw : withinF m.state p.begin.length 1000000 = true) (hb : badF p m.state = false) (hs : stepF p q m.state = (some o, 0)) : NB p st (m.rules ++ [q]) o := by
  refine ⟨runGo_snoc _ _ _ _ _ _ h.1 hs, fun k hk => ?_⟩
  rw [List.length_append, List.length_singleton] at hk
  rw [List.take_append_of_le_length (by omega)]
  by_cases e : k < m.rules.length
  · exact h.2 k e
  · rw [List.take_of_length_le (by omega)]
    exact ⟨m.state, h.1, hw, hb⟩
theorem innerF_bfs {p : Prot} {st : List Int} {m : Met} (hp : p.ok) (hck : checkF p = 0) (hb : badF p m.state = false) : ∀ (rs : List Rule) (k : Nat) (l l' : List Met), p.rules.drop k = rs → innerF p m rs k l = some l' → m ∈ l → Jn p st m l →
    Jn p st m l' ∧ (∃ t, l' = l ++ t) ∧ ∀ (q : Nat) r o, k ≤ q → p.rules[q]? = some r → rstepF r m.state = some o → ∃ x ∈ l', x.state = o ∧ x.rules.length ≤ m.rules.length + 1
  | [], k, l, l', hd, h, hm, hJ => by
    simp only [innerF, Option.some.injEq] at h
    subst h
    refine ⟨hJ, ⟨[], by simp⟩, fun q r o hq hg _ => ?_⟩
    have := drop_nil' hd
    have := (List.getElem?_eq_some_iff.1 hg).1
    omega
  | r :: rs, k, l, l', hd, h, hm, hJ => by
    obtain ⟨hg, hd', hlt⟩ := drop_cons hd
    simp only [innerF] at h
    have hsplit : ∀ {l1 : List Met}, (∃ t, l' = l1 ++ t) → (∀ o, rstepF r m.state = some o → ∃ x ∈ l1, x.state = o ∧ x.rules.length ≤ m.rules.length + 1) → (∀ (q : Nat) r o, k + 1 ≤ q → p.rules[q]? = some r → rstepF r m.state = some o → ∃ x ∈ l', x.state = o ∧ x.rules.length ≤ m.rules.length + 1) →
        ∀ (q : Nat) r o, k ≤ q → p.rules[q]? = some r → rstepF r m.state = some o → ∃ x ∈ l', x.state = o ∧ x.rules.length ≤ m.rules.length + 1 := by
      intro l1 ⟨t, ht⟩ h0 h1 q r' o hq hg' hr'
      by_cases e : q = k
      · subst e
        rw [hg] at hg'
        injection hg' with hg'
        subst hg'
        obtain ⟨x, hx, h2⟩ := h0 o hr'
        exact ⟨x, by rw [ht]; exact List.mem_append_left _ hx, h2⟩
      · exact h1 q r' o (by omega) hg' hr'
    cases hr : rstepF r m.state with
    | none =>
      rw [hr] at h
      obtain ⟨j1, j2, j3⟩ := innerF_bfs hp hck hb rs (k + 1) l l' hd' h hm hJ
      exact ⟨j1, j2, hsplit j2 (fun o ho => by rw [hr] at ho; cases ho) j3⟩
    | some o =>
      rw [hr] at h
      dsimp only at h
      split at h
      · cases h
      · rename_i hwo
        have hwo : withinF o p.begin.length 1000000 = true := by simpa using hwo
        split at h
        · rename_i hkn
          obtain ⟨j1, j2, j3⟩ := innerF_bfs hp hck hb rs (k + 1) l l' hd' h hm hJ
          refine ⟨j1, j2, hsplit j2 (fun o' ho => ?_) j3⟩
          rw [hr] at ho
          injection ho with ho
          subst ho
          simp only [List.any_eq_true, decide_eq_true_eq] at hkn
          obtain ⟨x, hx, hxs⟩ := hkn
          exact ⟨x, hx, hxs, hJ.top x hx⟩
        · split at h
          · cases h
          · have hmem : ∀ x, x ∈ l ++ [(⟨o, m.rules ++ [(k : Int)]⟩ : Met)] ↔ x ∈ l ∨ x = ⟨o, m.rules ++ [(k : Int)]⟩ := fun x => by simp
            have hJ' : Jn p st m (l ++ [⟨o, m.rules ++ [(k : Int)]⟩]) := by
              refine ⟨fun x hx => ?_, fun x hx => ?_, ?_, fun x hx => ?_⟩
              · rcases (hmem x).1 hx with hx | rfl
                · exact hJ.wf x hx
                · exact hwo
              · rcases (hmem x).1 hx with hx | rfl
                · exact hJ.path x hx
                · exact NB_snoc (hJ.path m hm) (hJ.wf m hm) hb (stepF_of hp hck hg (hJ.wf m hm) hr hwo)
              · rw [List.pairwise_append]
                refine ⟨hJ.sorted, List.pairwise_singleton _ _, fun a ha b hb => ?_⟩
                simp only [List.mem_singleton] at hb
                subst hb
                have := hJ.top a ha
                simpa using this
              · rcases (hmem x).1 hx with hx | rfl
                · exact hJ.top x hx
                · simp
            obtain ⟨j1, ⟨t, j2⟩, j3⟩ := innerF_bfs hp hck hb rs (k + 1) _ l' hd' h (List.mem_append_left _ hm) hJ'
            refine ⟨j1, ⟨_, by rw [j2, List.append_assoc]⟩, hsplit ⟨t, j2⟩ (fun o' ho => ?_) j3⟩
            rw [hr] at ho
            injection ho with ho
            subst ho
            exact ⟨_, List.mem_append_right _ (List.mem_singleton.2 rfl), rfl, by simp⟩
theorem reach {p : Prot} {most : Int} {st o' : List Int} {i N : Nat} {l : List Met} (hp : p.ok) (hck : checkF p = 0) (hB : Bfs p most st i l) (hN : (N : Int) ≤ most) (hD : ∀ x ∈ l, x.rules.length ≤ N → ∃ j, j < i ∧ l[j]? = some x) :
    ∀ (rest : List Int) (x : Met), x ∈ l → x.rules.length + rest.length ≤ N → runGo p rest x.state 0 = some (o', 0) → ∃ y ∈ l, y.state = o' ∧ y.rules.length ≤ N
  | [], x, hx, hl, h => by
    simp only [runGo, Option.some.injEq, Prod.mk.injEq] at h
    exact ⟨x, hx, h.1, by simpa using hl⟩
  | r :: rest, x, hx, hl, h => by
    rw [List.length_cons] at hl
    simp only [runGo, if_true] at h
    split at h
    · rename_i o e hs
      obtain ⟨_, he, q, ru, _, hg, hr, _⟩ := of_stepF hp hck hs
      subst he
      obtain ⟨j, hj, hxj⟩ := hD x hx (by omega)
      obtain ⟨y, hy, hys, hyl⟩ := hB.done j x hj hxj (by omega) q ru o hg hr
      exact reach hp hck hB hN hD rest y hy (by omega) (by rw [hys]; exact h)
    · cases h
theorem idx_of {l : List Met} {x : Met} (hx : x ∈ l) : ∃ j : Nat, l[j]? = some x := List.mem_iff_getElem?.1 hx
theorem pw_get {l : List Met} (h : l.Pairwise fun a b => a.rules.length ≤ b.rules.length) {j k : Nat} {a b : Met} (hj : l[j]? = some a) (hk : l[k]? = some b) (hjk : j ≤ k) : a.rules.length ≤ b.rules.length := by
  rcases Nat.lt_or_ge j k with h1 | h1
  · obtain ⟨p1, rfl⟩ := List.getElem?_eq_some_iff.1 hj
    obtain ⟨p2, rfl⟩ := List.getElem?_eq_some_iff.1 hk
    exact List.pairwise_iff_getElem.1 h j k p1 p2 h1
  · have : j = k := by omega
    subst this
    rw [hj] at hk
    injection hk with hk
    subst hk
    exact Nat.le_refl _
/-- No walk of at most N steps ends badly, where all that is so near was looked at. -/
theorem nobad {p : Prot} {most : Int} {st o' : List Int} {i : Nat} {l : List Met} (hp : p.ok) (hck : checkF p = 0) (hB : Bfs p most st i l) {steps : List Int} (hN : (steps.length : Int) ≤ most) (hD : ∀ x ∈ l, x.rules.length ≤ steps.length → ∃ j, j < i ∧ l[j]? = some x)
    (h : runGo p steps st 0 = some (o', 0)) : badF p o' = false := by
  obtain ⟨x, hx, hxs, hxr⟩ := hB.start
  obtain ⟨y, hy, hys, hyl⟩ := reach hp hck hB hN hD steps x hx (by rw [hxr]; simp) (by rw [hxs]; exact h)
  obtain ⟨j, hj, hyj⟩ := hD y hy hyl
  rw [← hys]
  exact hB.good j y hj hyj
theorem outerF_bfs {p : Prot} {most : Int} {st : List Int} (hp : p.ok) (hck : checkF p = 0) : ∀ (n i : Nat) (l : List Met) (res : List Int × Bool × Int), outerF p most n i l = some res → Bfs p most st i l → (∀ x ∈ l, (x.rules.length : Int) ≤ most) → res.2.2 = 0 →
    (res.2.1 = true → (∃ o, NB p st res.1 o ∧ withinF o p.begin.length 1000000 = true ∧ badF p o = true) ∧ (res.1.length : Int) ≤ most ∧ ∀ steps o', runGo p steps st 0 = some (o', 0) → steps.length < res.1.length → badF p o' = false) ∧
    (res.2.1 = false → ∀ steps o', runGo p steps st 0 = some (o', 0) → (steps.length : Int) ≤ most → badF p o' = false)
  | 0, i, l, res, h, _, _, _ => by cases h
  | n + 1, i, l, res, h, hB, hru, he => by
    simp only [outerF] at h
    split at h
    · rename_i hn
      injection h with h
      subst h
      refine ⟨fun h => (by cases h), fun _ steps o' hr hs => nobad hp hck hB hs (fun x hx _ => ?_) hr⟩
      obtain ⟨j, hj⟩ := idx_of hx
      have h1 := (List.getElem?_eq_some_iff.1 hj).1
      have h2 := List.getElem?_eq_none_iff.1 hn
      exact ⟨j, by omega, hj⟩
    · rename_i m hm
      have hmm := mem_of hm
      split at h
      · rename_i hbad
        injection h with h
        subst h
        refine ⟨fun _ => ⟨⟨m.state, hB.path m hmm, hB.wf m hmm, hbad⟩, hru m hmm, fun steps o' hr hs => nobad hp hck hB ?_ (fun x hx hxl => ?_) hr⟩, fun h => (by cases h)⟩
        · have := hru m hmm
          dsimp only at hs
          omega
        · obtain ⟨j, hj⟩ := idx_of hx
          refine ⟨j, ?_, hj⟩
          rcases Nat.lt_or_ge j i with h1 | h1
          · exact h1
          · have := pw_get hB.sorted hm hj h1
            dsimp only at hs
            omega
      · rename_i hbad
        have hbad : badF p m.state = false := by simpa using hbad
        have good' : ∀ (l' : List Met), (∃ t, l' = l ++ t) → ∀ j x, j < i + 1 → l'[j]? = some x → badF p x.state = false := by
          rintro l' ⟨t, rfl⟩ j x hj hx
          have hil := (List.getElem?_eq_some_iff.1 hm).1
          rw [List.getElem?_append_left (by omega)] at hx
          by_cases e : j = i
          · subst e; rw [hm] at hx; injection hx with hx; subst hx; exact hbad
          · exact hB.good j x (by omega) hx
        split at h
        · rename_i hmo
          refine outerF_bfs hp hck n (i + 1) l res h ⟨hB.wf, hB.path, hB.sorted, fun m2 hm2 x hx => ?_, good' l ⟨[], by simp⟩, fun j x hj hx hne => ?_, hB.start⟩ hru he
          · have := hB.top m hm x hx
            have := pw_get hB.sorted hm hm2 (by omega)
            omega
          · by_cases e : j = i
            · subst e; rw [hm] at hx; injection hx with hx; subst hx; exact absurd hmo hne
            · exact hB.done j x (by omega) hx hne
        · rename_i hmo
          split at h
          · injection h with h; subst h; cases he
          · rename_i l' hl'
            obtain ⟨hJ, ⟨t, ht⟩, hsu⟩ := innerF_bfs hp hck hbad p.rules 0 l l' rfl hl' hmm ⟨hB.wf, hB.path, hB.sorted, hB.top m hm⟩
            have hil := (List.getElem?_eq_some_iff.1 hm).1
            have hm' : l'[i]? = some m := by rw [ht, List.getElem?_append_left hil, hm]
            refine outerF_bfs hp hck n (i + 1) l' res h ⟨hJ.wf, hJ.path, hJ.sorted, fun m2 hm2 x hx => ?_, good' l' ⟨t, ht⟩, fun j x hj hx hne q r o hg hr => ?_, ?_⟩ (innerF_rules (by have := hru m hmm; omega) _ _ _ _ hl' hru) he
            · have := hJ.top x hx
              have := pw_get hJ.sorted hm' hm2 (by omega)
              omega
            · by_cases e : j = i
              · subst e; rw [hm'] at hx; injection hx with hx; subst hx; exact hsu q r o (by omega) hg hr
              · rw [ht, List.getElem?_append_left (by omega)] at hx
                obtain ⟨y, hy, h2⟩ := hB.done j x (by omega) hx hne q r o hg hr
                exact ⟨y, by rw [ht]; exact List.mem_append_left _ hy, h2⟩
            · obtain ⟨x, hx, h2⟩ := hB.start
              exact ⟨x, by rw [ht]; exact List.mem_append_left _ hx, h2⟩
theorem isBad_of {p : Prot} {st : List Int} (h : badF p st = false) : (isBadF p st).1 = false := by
  unfold isBadF
  split
  · rfl
  · split
    · rfl
    · exact h
theorem find_facts {p : Prot} {more most : Int} {took : List Int} {found : Bool} (hp : p.ok) (h : searchF p more most = (took, found, 0)) :
    (found = true → (took.length : Int) ≤ most ∧ (∀ i, i ≤ took.length → ∃ x, runF p (took.take i) more = some (x, 0) ∧ isBadF p x = (decide (i = took.length), 0) ∧ x.length ≤ 1000) ∧
      ∀ steps st, runF p steps more = some (st, 0) → steps.length < took.length → (isBadF p st).1 = false) ∧
    (found = false → ∀ steps st, runF p steps more = some (st, 0) → (steps.length : Int) ≤ most → (isBadF p st).1 = false) := by
  unfold searchF at h
  split at h
  · rename_i hc
    simp only [Prod.mk.injEq] at h
    exact absurd h.2.2 hc
  · rename_i hc
    have hck : checkF p = 0 := by simpa using hc
    split at h
    · simp at h
    · rename_i hm
      split at h
      · simp at h
      · rename_i hmo
        obtain ⟨res, hres⟩ := outerF_total (p := p) (most := most) 5002 0 [⟨startF p more, []⟩] (by simp) (by simp) (by omega)
        rw [hres] at h
        simp only [gets] at h
        subst h
        have hs : StartF p more = (some (startF p more), 0) := by
          unfold StartF
          rw [if_neg (by simp [hck]), if_neg hm]
        have hrun : ∀ steps, runF p steps more = runGo p steps (startF p more) 0 := fun steps => by unfold runF; rw [hs]; rfl
        have hsw := start_within hck (more := more) (by omega)
        have hB : Bfs p most (startF p more) 0 [⟨startF p more, []⟩] := by
          refine ⟨fun m hm => ?_, fun m hm => ?_, List.pairwise_singleton _ _, fun m hm x hx => ?_, fun j m hj => by omega, fun j m hj => by omega, ⟨_, List.mem_singleton.2 rfl, rfl, rfl⟩⟩
          · simp only [List.mem_singleton] at hm; subst hm; exact hsw
          · simp only [List.mem_singleton] at hm; subst hm
            exact ⟨rfl, fun k hk => by simp at hk⟩
          · simp only [List.mem_singleton] at hx; subst hx; simp
        obtain ⟨f1, f2⟩ := outerF_bfs hp hck 5002 0 _ _ hres hB (fun x hx => by simp only [List.mem_singleton] at hx; subst hx; simp; omega) rfl
        have hbeg := hp.begin
        refine ⟨fun hf => ?_, fun hf steps st hr hl => isBad_of (f2 hf steps st (by rw [← hrun]; exact hr) hl)⟩
        obtain ⟨⟨o, hnb, hw, hbad⟩, hle, hsh⟩ := f1 hf
        dsimp only at hnb hle hsh
        refine ⟨hle, fun i hi => ?_, fun steps st hr hl => isBad_of (hsh steps st (by rw [← hrun]; exact hr) hl)⟩
        rw [hrun]
        by_cases e : i = took.length
        · rw [List.take_of_length_le (by omega)]
          refine ⟨o, hnb.1, ?_, by have := withinF_len hw; omega⟩
          unfold isBadF
          rw [if_neg (by simp [hck]), if_neg (by simp [hw]), hbad, decide_eq_true e]
        · obtain ⟨x, hx, hxw, hxb⟩ := hnb.2 i (by omega)
          refine ⟨x, hx, ?_, by have := withinF_len hxw; omega⟩
          unfold isBadF
          rw [if_neg (by simp [hck]), if_neg (by simp [hxw]), hxb, decide_eq_false e]
end Go.Vi
set_option maxRecDepth 100000
set_option maxHeartbeats 1000000
namespace Go.Vi
open Go Go.Proofs

section
variable {M : Mc} {s : St} {k : K} {z : Option St}
theorem RD_slice {ops : Array Oper} {c0 : Nat} {r : List Oper} {d : Option Tmp} {ty : TypeId} {pos : String} {af : Array Edge} {g : Option (Nat × Bool)} {t x y} : RD M ops c0 z ({ dst := d, op := .slice t x none (some y) none, type := ty, pos := pos, after := af, guard := g } :: r) k s = RW M ops c0 z d r k s (wantedV ops s g) (sliceA M.E t (evalO s x) none (some (evalO s y)) (qst ops { dst := d, op := .slice t x none (some y) none, type := ty, pos := pos, after := af, guard := g } s)) := by
  rw [RD_quiet rfl]
  unfold qop
  simp only [quietK, if_true, aop, Option.map_none, Option.map_some]
  rw [show evalO (qst ops { dst := d, op := .slice t x none (some y) none, type := ty, pos := pos, after := af, guard := g } s) x = evalO s x from evalO_looks (o := { dst := d, op := .slice t x none (some y) none, type := ty, pos := pos, after := af, guard := g }) (by simp [Op.operands, Call.operands]) rfl]
  rw [show evalO (qst ops { dst := d, op := .slice t x none (some y) none, type := ty, pos := pos, after := af, guard := g } s) y = evalO s y from evalO_looks (o := { dst := d, op := .slice t x none (some y) none, type := ty, pos := pos, after := af, guard := g }) (by simp [Op.operands, Call.operands]) rfl]
  exact congrArg _ qr_valOf
end
noncomputable def F20 : List V → Option V := hF (α := Prot × List Int × Int) (fun a => [a.1.v, Is a.2.1, I a.2.2]) (fun a => a.1.ok ∧ a.2.1.length ≤ 1000000) (fun a => runV (runF a.1 a.2.1 a.2.2))
theorem F20_eq {p : Prot} {steps : List Int} (more : Int) (hp : p.ok) (hb : steps.length ≤ 1000000) : F20 [p.v, Is steps, I more] = some (runV (runF p steps more)) :=
  hF_eq (a := (p, steps, more)) (three_inj (fun _ _ => Prot_inj) (fun _ _ => Is_inj) (fun _ _ => I_inj)) (by simp only [cans, canProt, canI, canIs]) ⟨hp, hb⟩
theorem F20_rv {p : Prot} {steps : List Int} (more : Int) (hp : p.ok) (hb : steps.length ≤ 1000000) : F20 [p.v, rv steps, I more] = some (runV (runF p steps more)) :=
  hF_eq (a := (p, steps, more)) (three_inj (fun _ _ => Prot_inj) (fun _ _ => Is_inj) (fun _ _ => I_inj)) (by simp only [cans, canProt, canI, can_rv]) ⟨hp, hb⟩
noncomputable abbrev U5f : List (FuncId × (List V → Option V)) := (6, F6) :: (7, F7) :: (8, F8) :: (9, F9) :: (16, F16) :: (20, F20) :: []
theorem hU5f : SoundHand Try.prog (hand U5f) :=
  sound_cons (hF_sound fun a _ => w6 a) <| sound_cons (hF_sound fun _ _ => w7) <| sound_cons (hF_sound fun a h => w8 a.1 a.2.1 a.2.2 h) <| sound_cons (hF_sound fun a h => w9 a h) <|
  sound_cons (hF_sound fun a h => w16 a.1 a.2 h.1 h.2) <| sound_cons (hF_sound fun a h => w20 a.1 a.2.1 a.2.2 h.1 h.2) sound_nil
theorem n4z : ((4:Int) = 0) = False := by decide
theorem n5z : ((5:Int) = 0) = False := by decide

theorem runGo_len {p : Prot} : ∀ (rs st : List Int) (e : Int) (o : List Int) (e' : Int), st.length ≤ 1000 → runGo p rs st e = some (o, e') → o.length ≤ 1000
  | [], st, e, o, e', hs, h => by
    simp only [runGo, Option.some.injEq, Prod.mk.injEq] at h
    rw [← h.1]; exact hs
  | r :: rs, st, e, o, e', hs, h => by
    simp only [runGo] at h
    split at h
    · split at h
      · rename_i o1 e1 hq
        exact runGo_len rs o1 e1 o e' (stepF_len (r := r) hs (by rw [hq])) h
      · cases h
    · simp only [Option.some.injEq, Prod.mk.injEq] at h
      rw [← h.1]; exact hs
theorem runF_len {p : Prot} (hp : p.ok) {steps : List Int} {m : Int} {o : List Int} {e : Int} (h : runF p steps m = some (o, e)) : o.length ≤ 1000 := by
  refine runGo_len steps _ _ _ _ ?_ h
  cases h : (StartF p m).1 with
  | none => simp
  | some o => exact StartF_len hp h
structure S5 (s : St) (p : Prot) (v9 : Nat) (nn mm : Int) (tk steps : List Int) : Prop where
  h3 : tget s.τ 3 = Is steps
  h9 : tget s.τ 9 = .ptr ⟨0, 9, 0⟩ v9 0 0
  l9 : lget s.L (9, 0) = some (v9, .var p.cs)
  h10 : tget s.τ 10 = I nn
  h11 : tget s.τ 11 = I mm
  h12 : tget s.τ 12 = rv tk
  h13 : tget s.τ 13 = .bool true
theorem l5 {n : Nat} {k : K} {out} {p : Prot} {v9 : Nat} {nn mm : Int} {tk steps : List Int} (hp : p.ok) (htk : tk.length ≤ 12)
    (hf : ∀ i, i ≤ tk.length → ∃ x, runF p (tk.take i) nn = some (x, 0) ∧ isBadF p x = (decide (i = tk.length), 0) ∧ x.length ≤ 1000) : ∀ d i n' s, i + d = tk.length + 1 → d < n' → S5 s p v9 nn mm tk steps → tget s.τ 15 = I (i : Nat) →
    (∀ s', S5 s' p v9 nn mm tk steps → Fin (M5 (hand U5f) n) [.tmp 8] (X (M5 (hand U5f) n) (.exit 0) k s') = out) →
    Fin (M5 (hand U5f) n) [.tmp 8] (L (M5 (hand U5f) n) (sub [1, 1, 1, 1, 1, 1, 0, 1, 0, 1, 1, 0, 0] c5) n' k s) = out
  | 0, i, n' + 1, s, hi, hn, hS, h15, hx => by
    obtain ⟨h3, h9, h9', h10, h11, h12, h13⟩ := hS
    rw [L_succ]
    rcases tk with _ | ⟨y, q⟩
    · simp only [List.length_nil] at hi
      have hc : ((i : Int) ≤ 0) = False := eq_false (by omega)
      simp only [rv] at h12
      simp only [vmr, vmw, vmp, ↓reduceIte, Nat.reduceBEq, Nat.reduceLT, Nat.reduceAdd, Nat.reduceEqDiff, reduceCtorEq, decide_true, decide_false, evalO, evalOs, ofValue, ofLeaf, params, tget, sub, aok, builtinV, overwrite, vlen, assignTo, settle1, settleL, newVarV, newArr, cellsAt, readT, storeAt, writeE, cellsV, vleaf, frz, frzs, refs, refsL, fitsE, binV, intOp, boolOp, nilOp, isNilS, unV, fillE, velems, callV_s, CR_some, CD, importV, import1, importL, importT, imm, immL, pureR, pureRL, shapeR, flatR, shares, sharesL, hand_cons, hand_nil, oks, vst, vmd, ty, List.all_cons, List.all_nil, List.length_cons, List.length_nil, List.drop_succ_cons, List.drop_zero, List.drop_nil, List.head?_cons, List.head?_nil, List.cons_append, List.nil_append, List.append_nil, List.getElem?_cons_zero, List.getElem?_cons_succ, List.take_succ_cons, List.take_zero, List.set_cons_zero, List.set_cons_succ, List.length_map, Bool.and_true, Bool.true_and, Bool.and_false, Bool.false_and, Bool.and_self, Bool.not_true, Bool.not_false, and_true, true_and, and_self, ne_eq, not_true_eq_false, not_false_eq_true, beq_self_eq_true, Option.isSome_none, Int.toNat_natCast, nat_nonneg, Nat.zero_add, Nat.add_zero, Nat.succ_ne_self, Nat.reduceLeDiff, Nat.reduceEqDiff, Nat.reduceMul, Nat.reduceSub, Nat.le_refl, Nat.zero_le, List.getElem?_map, List.map_nil, fillS, zipP, evalPs, List.replicate_zero, List.replicate_succ, appendV, List.isEmpty_cons, Nat.mul_zero, Nat.zero_mul, true_or, or_true, or_false, false_or, List.take_length, ite_self, z0, z1, bq1, bq2, Int.toNat_zero, z00, Nat.le_add_right, c5, Try.f5, m5, h12, h15, hc]
      refine hx _ ⟨?_, ?_, ?_, ?_, ?_, ?_, ?_⟩
      all_goals simp only [vmr, vmw, vmp, ↓reduceIte, Nat.reduceBEq, Nat.reduceLT, Nat.reduceAdd, Nat.reduceEqDiff, reduceCtorEq, decide_true, decide_false, evalO, evalOs, ofValue, ofLeaf, params, tget, sub, aok, builtinV, overwrite, vlen, assignTo, settle1, settleL, newVarV, newArr, cellsAt, readT, storeAt, writeE, cellsV, vleaf, frz, frzs, refs, refsL, fitsE, binV, intOp, boolOp, nilOp, isNilS, unV, fillE, velems, callV_s, CR_some, CD, importV, import1, importL, importT, imm, immL, pureR, pureRL, shapeR, flatR, shares, sharesL, hand_cons, hand_nil, oks, vst, vmd, ty, List.all_cons, List.all_nil, List.length_cons, List.length_nil, List.drop_succ_cons, List.drop_zero, List.drop_nil, List.head?_cons, List.head?_nil, List.cons_append, List.nil_append, List.append_nil, List.getElem?_cons_zero, List.getElem?_cons_succ, List.take_succ_cons, List.take_zero, List.set_cons_zero, List.set_cons_succ, List.length_map, Bool.and_true, Bool.true_and, Bool.and_false, Bool.false_and, Bool.and_self, Bool.not_true, Bool.not_false, and_true, true_and, and_self, ne_eq, not_true_eq_false, not_false_eq_true, beq_self_eq_true, Option.isSome_none, Int.toNat_natCast, nat_nonneg, Nat.zero_add, Nat.add_zero, Nat.succ_ne_self, Nat.reduceLeDiff, Nat.reduceEqDiff, Nat.reduceMul, Nat.reduceSub, Nat.le_refl, Nat.zero_le, List.getElem?_map, List.map_nil, fillS, zipP, evalPs, List.replicate_zero, List.replicate_succ, appendV, List.isEmpty_cons, Nat.mul_zero, Nat.zero_mul, true_or, or_true, or_false, false_or, List.take_length, ite_self, z0, z1, bq1, bq2, Int.toNat_zero, z00, Nat.le_add_right, m5, h3, h9, h9', h10, h11, h12, h13, rv]
    · simp only [List.length_cons] at hi
      have hc : ((i : Int) ≤ ((q.length + 1 : Nat) : Int)) = False := eq_false (by omega)
      simp only [rv, List.map_cons] at h12
      simp only [vmr, vmw, vmp, ↓reduceIte, Nat.reduceBEq, Nat.reduceLT, Nat.reduceAdd, Nat.reduceEqDiff, reduceCtorEq, decide_true, decide_false, evalO, evalOs, ofValue, ofLeaf, params, tget, sub, aok, builtinV, overwrite, vlen, assignTo, settle1, settleL, newVarV, newArr, cellsAt, readT, storeAt, writeE, cellsV, vleaf, frz, frzs, refs, refsL, fitsE, binV, intOp, boolOp, nilOp, isNilS, unV, fillE, velems, callV_s, CR_some, CD, importV, import1, importL, importT, imm, immL, pureR, pureRL, shapeR, flatR, shares, sharesL, hand_cons, hand_nil, oks, vst, vmd, ty, List.all_cons, List.all_nil, List.length_cons, List.length_nil, List.drop_succ_cons, List.drop_zero, List.drop_nil, List.head?_cons, List.head?_nil, List.cons_append, List.nil_append, List.append_nil, List.getElem?_cons_zero, List.getElem?_cons_succ, List.take_succ_cons, List.take_zero, List.set_cons_zero, List.set_cons_succ, List.length_map, Bool.and_true, Bool.true_and, Bool.and_false, Bool.false_and, Bool.and_self, Bool.not_true, Bool.not_false, and_true, true_and, and_self, ne_eq, not_true_eq_false, not_false_eq_true, beq_self_eq_true, Option.isSome_none, Int.toNat_natCast, nat_nonneg, Nat.zero_add, Nat.add_zero, Nat.succ_ne_self, Nat.reduceLeDiff, Nat.reduceEqDiff, Nat.reduceMul, Nat.reduceSub, Nat.le_refl, Nat.zero_le, List.getElem?_map, List.map_nil, fillS, zipP, evalPs, List.replicate_zero, List.replicate_succ, appendV, List.isEmpty_cons, Nat.mul_zero, Nat.zero_mul, true_or, or_true, or_false, false_or, List.take_length, ite_self, z0, z1, bq1, bq2, Int.toNat_zero, z00, Nat.le_add_right, c5, Try.f5, m5, h12, h15, hc]
      refine hx _ ⟨?_, ?_, ?_, ?_, ?_, ?_, ?_⟩
      all_goals simp only [vmr, vmw, vmp, ↓reduceIte, Nat.reduceBEq, Nat.reduceLT, Nat.reduceAdd, Nat.reduceEqDiff, reduceCtorEq, decide_true, decide_false, evalO, evalOs, ofValue, ofLeaf, params, tget, sub, aok, builtinV, overwrite, vlen, assignTo, settle1, settleL, newVarV, newArr, cellsAt, readT, storeAt, writeE, cellsV, vleaf, frz, frzs, refs, refsL, fitsE, binV, intOp, boolOp, nilOp, isNilS, unV, fillE, velems, callV_s, CR_some, CD, importV, import1, importL, importT, imm, immL, pureR, pureRL, shapeR, flatR, shares, sharesL, hand_cons, hand_nil, oks, vst, vmd, ty, List.all_cons, List.all_nil, List.length_cons, List.length_nil, List.drop_succ_cons, List.drop_zero, List.drop_nil, List.head?_cons, List.head?_nil, List.cons_append, List.nil_append, List.append_nil, List.getElem?_cons_zero, List.getElem?_cons_succ, List.take_succ_cons, List.take_zero, List.set_cons_zero, List.set_cons_succ, List.length_map, Bool.and_true, Bool.true_and, Bool.and_false, Bool.false_and, Bool.and_self, Bool.not_true, Bool.not_false, and_true, true_and, and_self, ne_eq, not_true_eq_false, not_false_eq_true, beq_self_eq_true, Option.isSome_none, Int.toNat_natCast, nat_nonneg, Nat.zero_add, Nat.add_zero, Nat.succ_ne_self, Nat.reduceLeDiff, Nat.reduceEqDiff, Nat.reduceMul, Nat.reduceSub, Nat.le_refl, Nat.zero_le, List.getElem?_map, List.map_nil, fillS, zipP, evalPs, List.replicate_zero, List.replicate_succ, appendV, List.isEmpty_cons, Nat.mul_zero, Nat.zero_mul, true_or, or_true, or_false, false_or, List.take_length, ite_self, z0, z1, bq1, bq2, Int.toNat_zero, z00, Nat.le_add_right, m5, h3, h9, h9', h10, h11, h12, h13, rv, List.map_cons]
  | d + 1, i, n' + 1, s, hi, hn, hS, h15, hx => by
    obtain ⟨h3, h9, h9', h10, h11, h12, h13⟩ := hS
    obtain ⟨x, hr, hb, hxl⟩ := hf i (by omega)
    have hs : calm (M5 (hand U5f) n).E (opsAt (sub [1, 1, 1, 1, 1, 1, 0, 1, 0, 1, 1, 0, 0, 1, 0, 0, 0] c5)) = true := by kernel_rfl
    have ih := fun s => @l5 n k out p v9 nn mm tk steps hp htk hf d (i + 1) n' s (by omega) (by omega)
    have hw : IntKind.i64.wrap ((i:Int) + 1) = ((i + 1 : Nat) : Int) := by rw [wrap_id] <;> omega
    have e16 := F16_eq hp hxl
    rw [hb] at e16
    have e20 := F20_rv (steps := tk.take i) nn hp (by simp; omega)
    have e20' := F20_eq (steps := tk.take i) nn hp (by simp; omega)
    rw [hr] at e20 e20'
    simp only [runV, badV] at e16 e20 e20'
    have z : ((0:Int) == 0) = true := rfl
    have z' : ((0:Int) != 0) = false := rfl
    simp only [sub, c5, Try.f5, gets, opsAt] at hs ih
    rw [L_succ]
    rcases tk with _ | ⟨y, q⟩
    · simp only [List.length_nil] at hi
      have hi0 : i = 0 := by omega
      subst hi0
      have hc : ((0 : Int) ≤ 0) = True := by decide
      simp only [rv, List.take_nil, List.length_nil, decide_true, z0] at h12 e20 e16 h15 hw
      simp only [vmr, vmw, vmp, ↓reduceIte, Nat.reduceBEq, Nat.reduceLT, Nat.reduceAdd, Nat.reduceEqDiff, reduceCtorEq, decide_true, decide_false, evalO, evalOs, ofValue, ofLeaf, params, tget, sub, aok, builtinV, overwrite, vlen, assignTo, settle1, settleL, newVarV, newArr, cellsAt, readT, storeAt, writeE, cellsV, vleaf, frz, frzs, refs, refsL, fitsE, binV, intOp, boolOp, nilOp, isNilS, unV, fillE, velems, callV_s, CR_some, CD, importV, import1, importL, importT, imm, immL, pureR, pureRL, shapeR, flatR, shares, sharesL, hand_cons, hand_nil, oks, vst, vmd, ty, List.all_cons, List.all_nil, List.length_cons, List.length_nil, List.drop_succ_cons, List.drop_zero, List.drop_nil, List.head?_cons, List.head?_nil, List.cons_append, List.nil_append, List.append_nil, List.getElem?_cons_zero, List.getElem?_cons_succ, List.take_succ_cons, List.take_zero, List.set_cons_zero, List.set_cons_succ, List.length_map, Bool.and_true, Bool.true_and, Bool.and_false, Bool.false_and, Bool.and_self, Bool.not_true, Bool.not_false, and_true, true_and, and_self, ne_eq, not_true_eq_false, not_false_eq_true, beq_self_eq_true, Option.isSome_none, Int.toNat_natCast, nat_nonneg, Nat.zero_add, Nat.add_zero, Nat.succ_ne_self, Nat.reduceLeDiff, Nat.reduceEqDiff, Nat.reduceMul, Nat.reduceSub, Nat.le_refl, Nat.zero_le, List.getElem?_map, List.map_nil, fillS, zipP, evalPs, List.replicate_zero, List.replicate_succ, appendV, List.isEmpty_cons, Nat.mul_zero, Nat.zero_mul, true_or, or_true, or_false, false_or, List.take_length, ite_self, z0, z1, bq1, bq2, Int.toNat_zero, z00, Nat.le_add_right, c5, Try.f5, m5, h9, h9', h10, h12, h15, hc, hs, RD_slice, sliceA, sliceV, lenV, boundOf, firstFits, e20, e16, shI, hw, z, z', List.isEmpty_nil]
      refine ih _ ⟨?_, ?_, ?_, ?_, ?_, ?_, ?_⟩ ?_ hx
      all_goals simp only [vmr, vmw, vmp, ↓reduceIte, Nat.reduceBEq, Nat.reduceLT, Nat.reduceAdd, Nat.reduceEqDiff, reduceCtorEq, decide_true, decide_false, evalO, evalOs, ofValue, ofLeaf, params, tget, sub, aok, builtinV, overwrite, vlen, assignTo, settle1, settleL, newVarV, newArr, cellsAt, readT, storeAt, writeE, cellsV, vleaf, frz, frzs, refs, refsL, fitsE, binV, intOp, boolOp, nilOp, isNilS, unV, fillE, velems, callV_s, CR_some, CD, importV, import1, importL, importT, imm, immL, pureR, pureRL, shapeR, flatR, shares, sharesL, hand_cons, hand_nil, oks, vst, vmd, ty, List.all_cons, List.all_nil, List.length_cons, List.length_nil, List.drop_succ_cons, List.drop_zero, List.drop_nil, List.head?_cons, List.head?_nil, List.cons_append, List.nil_append, List.append_nil, List.getElem?_cons_zero, List.getElem?_cons_succ, List.take_succ_cons, List.take_zero, List.set_cons_zero, List.set_cons_succ, List.length_map, Bool.and_true, Bool.true_and, Bool.and_false, Bool.false_and, Bool.and_self, Bool.not_true, Bool.not_false, and_true, true_and, and_self, ne_eq, not_true_eq_false, not_false_eq_true, beq_self_eq_true, Option.isSome_none, Int.toNat_natCast, nat_nonneg, Nat.zero_add, Nat.add_zero, Nat.succ_ne_self, Nat.reduceLeDiff, Nat.reduceEqDiff, Nat.reduceMul, Nat.reduceSub, Nat.le_refl, Nat.zero_le, List.getElem?_map, List.map_nil, fillS, zipP, evalPs, List.replicate_zero, List.replicate_succ, appendV, List.isEmpty_cons, Nat.mul_zero, Nat.zero_mul, true_or, or_true, or_false, false_or, List.take_length, ite_self, z0, z1, bq1, bq2, Int.toNat_zero, z00, Nat.le_add_right, m5, h3, h9, h9', h10, h11, h12, h13, rv]
    · simp only [List.length_cons] at hi
      have hc : ((i : Int) ≤ ((q.length + 1 : Nat) : Int)) = True := eq_true (by omega)
      have hc' : (i ≤ q.length + 1) = True := eq_true (by omega)
      have ht : ((y :: q).take i).map I = (I y :: q.map I).take i := by rw [List.map_take]; rfl
      have hz : (decide (i = q.length + 1) != ((i : Int) == ((q.length + 1 : Nat) : Int))) = false := by
        by_cases e : i = q.length + 1
        · subst e; simp
        · have : ¬ (i : Int) = ((q.length + 1 : Nat) : Int) := by omega
          rw [decide_eq_false e, beq_eq_false_iff_ne.2 this]; rfl
      simp only [rv, List.map_cons, List.length_cons] at h12 e16
      have e20'' : F20 [p.v, .lst ((I y :: q.map I).take i), I nn] = some (.tup [Is x, .bool (0 == 0)]) := by rw [← ht]; exact e20'
      simp only [vmr, vmw, vmp, ↓reduceIte, Nat.reduceBEq, Nat.reduceLT, Nat.reduceAdd, Nat.reduceEqDiff, reduceCtorEq, decide_true, decide_false, evalO, evalOs, ofValue, ofLeaf, params, tget, sub, aok, builtinV, overwrite, vlen, assignTo, settle1, settleL, newVarV, newArr, cellsAt, readT, storeAt, writeE, cellsV, vleaf, frz, frzs, refs, refsL, fitsE, binV, intOp, boolOp, nilOp, isNilS, unV, fillE, velems, callV_s, CR_some, CD, importV, import1, importL, importT, imm, immL, pureR, pureRL, shapeR, flatR, shares, sharesL, hand_cons, hand_nil, oks, vst, vmd, ty, List.all_cons, List.all_nil, List.length_cons, List.length_nil, List.drop_succ_cons, List.drop_zero, List.drop_nil, List.head?_cons, List.head?_nil, List.cons_append, List.nil_append, List.append_nil, List.getElem?_cons_zero, List.getElem?_cons_succ, List.take_succ_cons, List.take_zero, List.set_cons_zero, List.set_cons_succ, List.length_map, Bool.and_true, Bool.true_and, Bool.and_false, Bool.false_and, Bool.and_self, Bool.not_true, Bool.not_false, and_true, true_and, and_self, ne_eq, not_true_eq_false, not_false_eq_true, beq_self_eq_true, Option.isSome_none, Int.toNat_natCast, nat_nonneg, Nat.zero_add, Nat.add_zero, Nat.succ_ne_self, Nat.reduceLeDiff, Nat.reduceEqDiff, Nat.reduceMul, Nat.reduceSub, Nat.le_refl, Nat.zero_le, List.getElem?_map, List.map_nil, fillS, zipP, evalPs, List.replicate_zero, List.replicate_succ, appendV, List.isEmpty_cons, Nat.mul_zero, Nat.zero_mul, true_or, or_true, or_false, false_or, List.take_length, ite_self, z0, z1, bq1, bq2, Int.toNat_zero, z00, Nat.le_add_right, c5, Try.f5, m5, h9, h9', h10, h12, h15, hc, hc', hs, RD_slice, sliceA, sliceV, lenV, boundOf, firstFits, e20'', e16, shI, hw, z, z', hz, Nat.sub_zero, List.isEmpty_nil]
      refine ih _ ⟨?_, ?_, ?_, ?_, ?_, ?_, ?_⟩ ?_ hx
      all_goals simp only [vmr, vmw, vmp, ↓reduceIte, Nat.reduceBEq, Nat.reduceLT, Nat.reduceAdd, Nat.reduceEqDiff, reduceCtorEq, decide_true, decide_false, evalO, evalOs, ofValue, ofLeaf, params, tget, sub, aok, builtinV, overwrite, vlen, assignTo, settle1, settleL, newVarV, newArr, cellsAt, readT, storeAt, writeE, cellsV, vleaf, frz, frzs, refs, refsL, fitsE, binV, intOp, boolOp, nilOp, isNilS, unV, fillE, velems, callV_s, CR_some, CD, importV, import1, importL, importT, imm, immL, pureR, pureRL, shapeR, flatR, shares, sharesL, hand_cons, hand_nil, oks, vst, vmd, ty, List.all_cons, List.all_nil, List.length_cons, List.length_nil, List.drop_succ_cons, List.drop_zero, List.drop_nil, List.head?_cons, List.head?_nil, List.cons_append, List.nil_append, List.append_nil, List.getElem?_cons_zero, List.getElem?_cons_succ, List.take_succ_cons, List.take_zero, List.set_cons_zero, List.set_cons_succ, List.length_map, Bool.and_true, Bool.true_and, Bool.and_false, Bool.false_and, Bool.and_self, Bool.not_true, Bool.not_false, and_true, true_and, and_self, ne_eq, not_true_eq_false, not_false_eq_true, beq_self_eq_true, Option.isSome_none, Int.toNat_natCast, nat_nonneg, Nat.zero_add, Nat.add_zero, Nat.succ_ne_self, Nat.reduceLeDiff, Nat.reduceEqDiff, Nat.reduceMul, Nat.reduceSub, Nat.le_refl, Nat.zero_le, List.getElem?_map, List.map_nil, fillS, zipP, evalPs, List.replicate_zero, List.replicate_succ, appendV, List.isEmpty_cons, Nat.mul_zero, Nat.zero_mul, true_or, or_true, or_false, false_or, List.take_length, ite_self, z0, z1, bq1, bq2, Int.toNat_zero, z00, Nat.le_add_right, m5, h3, h9, h9', h10, h11, h12, h13, rv, List.map_cons]
end Go.Vi
set_option maxRecDepth 100000
set_option maxHeartbeats 4000000
namespace Go.Vi
open Go Go.Proofs

theorem w5 (p : Prot) (hpr : p.rules.length * 80 ≤ 140737488355328) (a b : Int) (steps : List Int) : SoundPure Try.prog 5 [p.v, .int .u8 a, .int .u8 b, Is steps] (.ret (.bool true)) := by
  refine s5 hU5f 100 (by simp) rfl ?_
  have e6 := F6_eq p
  have e9 := F9_eq' hpr
  simp only [c5, Try.f5, gets]
  cases hf : fewF p with
  | false =>
    rw [hf] at e6
    simp only [vmr, vmw, vmp, ↓reduceIte, Nat.reduceBEq, Nat.reduceLT, Nat.reduceAdd, Nat.reduceEqDiff, reduceCtorEq, decide_true, decide_false, evalO, evalOs, ofValue, ofLeaf, params, tget, sub, aok, builtinV, overwrite, vlen, assignTo, settle1, settleL, newVarV, newArr, cellsAt, readT, storeAt, writeE, cellsV, vleaf, frz, frzs, refs, refsL, fitsE, binV, intOp, boolOp, nilOp, isNilS, unV, fillE, velems, callV_s, CR_some, CD, importV, import1, importL, importT, imm, immL, pureR, pureRL, shapeR, flatR, shares, sharesL, hand_cons, hand_nil, oks, vst, vmd, ty, List.all_cons, List.all_nil, List.length_cons, List.length_nil, List.drop_succ_cons, List.drop_zero, List.drop_nil, List.head?_cons, List.head?_nil, List.cons_append, List.nil_append, List.append_nil, List.getElem?_cons_zero, List.getElem?_cons_succ, List.take_succ_cons, List.take_zero, List.set_cons_zero, List.set_cons_succ, List.length_map, Bool.and_true, Bool.true_and, Bool.and_false, Bool.false_and, Bool.and_self, Bool.not_true, Bool.not_false, and_true, true_and, and_self, ne_eq, not_true_eq_false, not_false_eq_true, beq_self_eq_true, Option.isSome_none, Int.toNat_natCast, nat_nonneg, Nat.zero_add, Nat.add_zero, Nat.succ_ne_self, Nat.reduceLeDiff, Nat.reduceEqDiff, Nat.reduceMul, Nat.reduceSub, Nat.le_refl, Nat.zero_le, List.getElem?_map, List.map_nil, fillS, zipP, evalPs, List.replicate_zero, List.replicate_succ, appendV, List.isEmpty_cons, Nat.mul_zero, Nat.zero_mul, true_or, or_true, or_false, false_or, List.take_length, ite_self, z0, z1, bq1, bq2, Int.toNat_zero, z00, Nat.le_add_right, Fin_ret, Fin_nrm, Fin_pan, X_top, resV, exports, nodupK, exportT, exportA, exportL, export1, tupV, List.contains_nil, m5, e6, e9, F7_eq, n4z, n5z]
  | true =>
  rw [hf] at e6
  have hp := few_ok hf
  by_cases q1 : (p.rules.length : Int) > 4
  · have q1' := eq_true q1
    simp only [vmr, vmw, vmp, ↓reduceIte, Nat.reduceBEq, Nat.reduceLT, Nat.reduceAdd, Nat.reduceEqDiff, reduceCtorEq, decide_true, decide_false, evalO, evalOs, ofValue, ofLeaf, params, tget, sub, aok, builtinV, overwrite, vlen, assignTo, settle1, settleL, newVarV, newArr, cellsAt, readT, storeAt, writeE, cellsV, vleaf, frz, frzs, refs, refsL, fitsE, binV, intOp, boolOp, nilOp, isNilS, unV, fillE, velems, callV_s, CR_some, CD, importV, import1, importL, importT, imm, immL, pureR, pureRL, shapeR, flatR, shares, sharesL, hand_cons, hand_nil, oks, vst, vmd, ty, List.all_cons, List.all_nil, List.length_cons, List.length_nil, List.drop_succ_cons, List.drop_zero, List.drop_nil, List.head?_cons, List.head?_nil, List.cons_append, List.nil_append, List.append_nil, List.getElem?_cons_zero, List.getElem?_cons_succ, List.take_succ_cons, List.take_zero, List.set_cons_zero, List.set_cons_succ, List.length_map, Bool.and_true, Bool.true_and, Bool.and_false, Bool.false_and, Bool.and_self, Bool.not_true, Bool.not_false, and_true, true_and, and_self, ne_eq, not_true_eq_false, not_false_eq_true, beq_self_eq_true, Option.isSome_none, Int.toNat_natCast, nat_nonneg, Nat.zero_add, Nat.add_zero, Nat.succ_ne_self, Nat.reduceLeDiff, Nat.reduceEqDiff, Nat.reduceMul, Nat.reduceSub, Nat.le_refl, Nat.zero_le, List.getElem?_map, List.map_nil, fillS, zipP, evalPs, List.replicate_zero, List.replicate_succ, appendV, List.isEmpty_cons, Nat.mul_zero, Nat.zero_mul, true_or, or_true, or_false, false_or, List.take_length, ite_self, z0, z1, bq1, bq2, Int.toNat_zero, z00, Nat.le_add_right, Fin_ret, Fin_nrm, Fin_pan, X_top, resV, exports, nodupK, exportT, exportA, exportL, export1, tupV, List.contains_nil, m5, e6, e9, F7_eq, n4z, n5z, q1']
  have q1' := eq_false q1
  by_cases q2 : (steps.length : Int) > 4
  · have q2' := eq_true q2
    simp only [vmr, vmw, vmp, ↓reduceIte, Nat.reduceBEq, Nat.reduceLT, Nat.reduceAdd, Nat.reduceEqDiff, reduceCtorEq, decide_true, decide_false, evalO, evalOs, ofValue, ofLeaf, params, tget, sub, aok, builtinV, overwrite, vlen, assignTo, settle1, settleL, newVarV, newArr, cellsAt, readT, storeAt, writeE, cellsV, vleaf, frz, frzs, refs, refsL, fitsE, binV, intOp, boolOp, nilOp, isNilS, unV, fillE, velems, callV_s, CR_some, CD, importV, import1, importL, importT, imm, immL, pureR, pureRL, shapeR, flatR, shares, sharesL, hand_cons, hand_nil, oks, vst, vmd, ty, List.all_cons, List.all_nil, List.length_cons, List.length_nil, List.drop_succ_cons, List.drop_zero, List.drop_nil, List.head?_cons, List.head?_nil, List.cons_append, List.nil_append, List.append_nil, List.getElem?_cons_zero, List.getElem?_cons_succ, List.take_succ_cons, List.take_zero, List.set_cons_zero, List.set_cons_succ, List.length_map, Bool.and_true, Bool.true_and, Bool.and_false, Bool.false_and, Bool.and_self, Bool.not_true, Bool.not_false, and_true, true_and, and_self, ne_eq, not_true_eq_false, not_false_eq_true, beq_self_eq_true, Option.isSome_none, Int.toNat_natCast, nat_nonneg, Nat.zero_add, Nat.add_zero, Nat.succ_ne_self, Nat.reduceLeDiff, Nat.reduceEqDiff, Nat.reduceMul, Nat.reduceSub, Nat.le_refl, Nat.zero_le, List.getElem?_map, List.map_nil, fillS, zipP, evalPs, List.replicate_zero, List.replicate_succ, appendV, List.isEmpty_cons, Nat.mul_zero, Nat.zero_mul, true_or, or_true, or_false, false_or, List.take_length, ite_self, z0, z1, bq1, bq2, Int.toNat_zero, z00, Nat.le_add_right, Fin_ret, Fin_nrm, Fin_pan, X_top, resV, exports, nodupK, exportT, exportA, exportL, export1, tupV, List.contains_nil, m5, e6, e9, F7_eq, n4z, n5z, q1', q2']
  have q2' := eq_false q2
  have hsb : steps.length ≤ 1000000 := by omega
  have e8 := F8_eq ((IntKind.i64.wrap a).tmod 4) ((IntKind.i64.wrap b).tmod 5) hp
  have hlen := searchF_len p ((IntKind.i64.wrap a).tmod 4) ((IntKind.i64.wrap b).tmod 5)
  have e20 := F20_eq (steps := steps) ((IntKind.i64.wrap a).tmod 4) hp hsb
  generalize hnn : (IntKind.i64.wrap a).tmod 4 = nn at *
  generalize hmm : (IntKind.i64.wrap b).tmod 5 = mm at *
  have z : ((0:Int) == 0) = true := rfl
  have z' : ((0:Int) != 0) = false := rfl
  cases hs : searchF p nn mm with
  | mk took r =>
  obtain ⟨found, e⟩ := r
  rw [hs] at e8 hlen
  dsimp only [srV] at e8 hlen
  by_cases qe : e = 0
  case neg =>
    have qe' : (e != 0) = true := bne_iff_ne.2 qe
    rcases took with _ | ⟨y, took⟩
    all_goals
      simp only [rv, List.map_cons] at e8
      simp only [vmr, vmw, vmp, ↓reduceIte, Nat.reduceBEq, Nat.reduceLT, Nat.reduceAdd, Nat.reduceEqDiff, reduceCtorEq, decide_true, decide_false, evalO, evalOs, ofValue, ofLeaf, params, tget, sub, aok, builtinV, overwrite, vlen, assignTo, settle1, settleL, newVarV, newArr, cellsAt, readT, storeAt, writeE, cellsV, vleaf, frz, frzs, refs, refsL, fitsE, binV, intOp, boolOp, nilOp, isNilS, unV, fillE, velems, callV_s, CR_some, CD, importV, import1, importL, importT, imm, immL, pureR, pureRL, shapeR, flatR, shares, sharesL, hand_cons, hand_nil, oks, vst, vmd, ty, List.all_cons, List.all_nil, List.length_cons, List.length_nil, List.drop_succ_cons, List.drop_zero, List.drop_nil, List.head?_cons, List.head?_nil, List.cons_append, List.nil_append, List.append_nil, List.getElem?_cons_zero, List.getElem?_cons_succ, List.take_succ_cons, List.take_zero, List.set_cons_zero, List.set_cons_succ, List.length_map, Bool.and_true, Bool.true_and, Bool.and_false, Bool.false_and, Bool.and_self, Bool.not_true, Bool.not_false, and_true, true_and, and_self, ne_eq, not_true_eq_false, not_false_eq_true, beq_self_eq_true, Option.isSome_none, Int.toNat_natCast, nat_nonneg, Nat.zero_add, Nat.add_zero, Nat.succ_ne_self, Nat.reduceLeDiff, Nat.reduceEqDiff, Nat.reduceMul, Nat.reduceSub, Nat.le_refl, Nat.zero_le, List.getElem?_map, List.map_nil, fillS, zipP, evalPs, List.replicate_zero, List.replicate_succ, appendV, List.isEmpty_cons, Nat.mul_zero, Nat.zero_mul, true_or, or_true, or_false, false_or, List.take_length, ite_self, z0, z1, bq1, bq2, Int.toNat_zero, z00, Nat.le_add_right, Fin_ret, Fin_nrm, Fin_pan, X_top, resV, exports, nodupK, exportT, exportA, exportL, export1, tupV, List.contains_nil, m5, e6, e9, F7_eq, n4z, n5z, q1', q2', hnn, hmm, e8, qe', shI]
  subst qe
  obtain ⟨f1, f2⟩ := find_facts hp hs
  cases found with
  | false =>
    have f2 := f2 rfl
    rcases took with _ | ⟨y, took⟩
    all_goals
      simp only [rv, List.map_cons] at e8
      cases hr : runF p steps nn with
      | none =>
        rw [hr] at e20
        dsimp only [runV] at e20
        simp only [vmr, vmw, vmp, ↓reduceIte, Nat.reduceBEq, Nat.reduceLT, Nat.reduceAdd, Nat.reduceEqDiff, reduceCtorEq, decide_true, decide_false, evalO, evalOs, ofValue, ofLeaf, params, tget, sub, aok, builtinV, overwrite, vlen, assignTo, settle1, settleL, newVarV, newArr, cellsAt, readT, storeAt, writeE, cellsV, vleaf, frz, frzs, refs, refsL, fitsE, binV, intOp, boolOp, nilOp, isNilS, unV, fillE, velems, callV_s, CR_some, CD, importV, import1, importL, importT, imm, immL, pureR, pureRL, shapeR, flatR, shares, sharesL, hand_cons, hand_nil, oks, vst, vmd, ty, List.all_cons, List.all_nil, List.length_cons, List.length_nil, List.drop_succ_cons, List.drop_zero, List.drop_nil, List.head?_cons, List.head?_nil, List.cons_append, List.nil_append, List.append_nil, List.getElem?_cons_zero, List.getElem?_cons_succ, List.take_succ_cons, List.take_zero, List.set_cons_zero, List.set_cons_succ, List.length_map, Bool.and_true, Bool.true_and, Bool.and_false, Bool.false_and, Bool.and_self, Bool.not_true, Bool.not_false, and_true, true_and, and_self, ne_eq, not_true_eq_false, not_false_eq_true, beq_self_eq_true, Option.isSome_none, Int.toNat_natCast, nat_nonneg, Nat.zero_add, Nat.add_zero, Nat.succ_ne_self, Nat.reduceLeDiff, Nat.reduceEqDiff, Nat.reduceMul, Nat.reduceSub, Nat.le_refl, Nat.zero_le, List.getElem?_map, List.map_nil, fillS, zipP, evalPs, List.replicate_zero, List.replicate_succ, appendV, List.isEmpty_cons, Nat.mul_zero, Nat.zero_mul, true_or, or_true, or_false, false_or, List.take_length, ite_self, z0, z1, bq1, bq2, Int.toNat_zero, z00, Nat.le_add_right, Fin_ret, Fin_nrm, Fin_pan, X_top, resV, exports, nodupK, exportT, exportA, exportL, export1, tupV, List.contains_nil, m5, e6, e9, F7_eq, n4z, n5z, q1', q2', hnn, hmm, e8, z', e20, shI]
      | some x =>
        obtain ⟨st, e1⟩ := x
        rw [hr] at e20
        dsimp only [runV] at e20
        by_cases qe1 : e1 = 0
        case neg =>
          have qe1' : (e1 == 0) = false := by simpa using qe1
          simp only [vmr, vmw, vmp, ↓reduceIte, Nat.reduceBEq, Nat.reduceLT, Nat.reduceAdd, Nat.reduceEqDiff, reduceCtorEq, decide_true, decide_false, evalO, evalOs, ofValue, ofLeaf, params, tget, sub, aok, builtinV, overwrite, vlen, assignTo, settle1, settleL, newVarV, newArr, cellsAt, readT, storeAt, writeE, cellsV, vleaf, frz, frzs, refs, refsL, fitsE, binV, intOp, boolOp, nilOp, isNilS, unV, fillE, velems, callV_s, CR_some, CD, importV, import1, importL, importT, imm, immL, pureR, pureRL, shapeR, flatR, shares, sharesL, hand_cons, hand_nil, oks, vst, vmd, ty, List.all_cons, List.all_nil, List.length_cons, List.length_nil, List.drop_succ_cons, List.drop_zero, List.drop_nil, List.head?_cons, List.head?_nil, List.cons_append, List.nil_append, List.append_nil, List.getElem?_cons_zero, List.getElem?_cons_succ, List.take_succ_cons, List.take_zero, List.set_cons_zero, List.set_cons_succ, List.length_map, Bool.and_true, Bool.true_and, Bool.and_false, Bool.false_and, Bool.and_self, Bool.not_true, Bool.not_false, and_true, true_and, and_self, ne_eq, not_true_eq_false, not_false_eq_true, beq_self_eq_true, Option.isSome_none, Int.toNat_natCast, nat_nonneg, Nat.zero_add, Nat.add_zero, Nat.succ_ne_self, Nat.reduceLeDiff, Nat.reduceEqDiff, Nat.reduceMul, Nat.reduceSub, Nat.le_refl, Nat.zero_le, List.getElem?_map, List.map_nil, fillS, zipP, evalPs, List.replicate_zero, List.replicate_succ, appendV, List.isEmpty_cons, Nat.mul_zero, Nat.zero_mul, true_or, or_true, or_false, false_or, List.take_length, ite_self, z0, z1, bq1, bq2, Int.toNat_zero, z00, Nat.le_add_right, Fin_ret, Fin_nrm, Fin_pan, X_top, resV, exports, nodupK, exportT, exportA, exportL, export1, tupV, List.contains_nil, m5, e6, e9, F7_eq, n4z, n5z, q1', q2', hnn, hmm, e8, z', e20, shI, qe1']
        subst qe1
        have e16 := F16_eq hp (runF_len hp hr)
        have hcon := f2 steps st hr
        cases hbd : isBadF p st with
        | mk bb ff =>
        rw [hbd] at e16 hcon
        dsimp only [badV] at e16 hcon
        by_cases qf : ff = 0
        case neg =>
          have qf' : (ff == 0) = false := by simpa using qf
          simp only [vmr, vmw, vmp, ↓reduceIte, Nat.reduceBEq, Nat.reduceLT, Nat.reduceAdd, Nat.reduceEqDiff, reduceCtorEq, decide_true, decide_false, evalO, evalOs, ofValue, ofLeaf, params, tget, sub, aok, builtinV, overwrite, vlen, assignTo, settle1, settleL, newVarV, newArr, cellsAt, readT, storeAt, writeE, cellsV, vleaf, frz, frzs, refs, refsL, fitsE, binV, intOp, boolOp, nilOp, isNilS, unV, fillE, velems, callV_s, CR_some, CD, importV, import1, importL, importT, imm, immL, pureR, pureRL, shapeR, flatR, shares, sharesL, hand_cons, hand_nil, oks, vst, vmd, ty, List.all_cons, List.all_nil, List.length_cons, List.length_nil, List.drop_succ_cons, List.drop_zero, List.drop_nil, List.head?_cons, List.head?_nil, List.cons_append, List.nil_append, List.append_nil, List.getElem?_cons_zero, List.getElem?_cons_succ, List.take_succ_cons, List.take_zero, List.set_cons_zero, List.set_cons_succ, List.length_map, Bool.and_true, Bool.true_and, Bool.and_false, Bool.false_and, Bool.and_self, Bool.not_true, Bool.not_false, and_true, true_and, and_self, ne_eq, not_true_eq_false, not_false_eq_true, beq_self_eq_true, Option.isSome_none, Int.toNat_natCast, nat_nonneg, Nat.zero_add, Nat.add_zero, Nat.succ_ne_self, Nat.reduceLeDiff, Nat.reduceEqDiff, Nat.reduceMul, Nat.reduceSub, Nat.le_refl, Nat.zero_le, List.getElem?_map, List.map_nil, fillS, zipP, evalPs, List.replicate_zero, List.replicate_succ, appendV, List.isEmpty_cons, Nat.mul_zero, Nat.zero_mul, true_or, or_true, or_false, false_or, List.take_length, ite_self, z0, z1, bq1, bq2, Int.toNat_zero, z00, Nat.le_add_right, Fin_ret, Fin_nrm, Fin_pan, X_top, resV, exports, nodupK, exportT, exportA, exportL, export1, tupV, List.contains_nil, m5, e6, e9, F7_eq, n4z, n5z, q1', q2', hnn, hmm, e8, z', e20, shI, z, e16, qf', List.isEmpty_nil]
        subst qf
        cases bb with
        | false => simp only [vmr, vmw, vmp, ↓reduceIte, Nat.reduceBEq, Nat.reduceLT, Nat.reduceAdd, Nat.reduceEqDiff, reduceCtorEq, decide_true, decide_false, evalO, evalOs, ofValue, ofLeaf, params, tget, sub, aok, builtinV, overwrite, vlen, assignTo, settle1, settleL, newVarV, newArr, cellsAt, readT, storeAt, writeE, cellsV, vleaf, frz, frzs, refs, refsL, fitsE, binV, intOp, boolOp, nilOp, isNilS, unV, fillE, velems, callV_s, CR_some, CD, importV, import1, importL, importT, imm, immL, pureR, pureRL, shapeR, flatR, shares, sharesL, hand_cons, hand_nil, oks, vst, vmd, ty, List.all_cons, List.all_nil, List.length_cons, List.length_nil, List.drop_succ_cons, List.drop_zero, List.drop_nil, List.head?_cons, List.head?_nil, List.cons_append, List.nil_append, List.append_nil, List.getElem?_cons_zero, List.getElem?_cons_succ, List.take_succ_cons, List.take_zero, List.set_cons_zero, List.set_cons_succ, List.length_map, Bool.and_true, Bool.true_and, Bool.and_false, Bool.false_and, Bool.and_self, Bool.not_true, Bool.not_false, and_true, true_and, and_self, ne_eq, not_true_eq_false, not_false_eq_true, beq_self_eq_true, Option.isSome_none, Int.toNat_natCast, nat_nonneg, Nat.zero_add, Nat.add_zero, Nat.succ_ne_self, Nat.reduceLeDiff, Nat.reduceEqDiff, Nat.reduceMul, Nat.reduceSub, Nat.le_refl, Nat.zero_le, List.getElem?_map, List.map_nil, fillS, zipP, evalPs, List.replicate_zero, List.replicate_succ, appendV, List.isEmpty_cons, Nat.mul_zero, Nat.zero_mul, true_or, or_true, or_false, false_or, List.take_length, ite_self, z0, z1, bq1, bq2, Int.toNat_zero, z00, Nat.le_add_right, Fin_ret, Fin_nrm, Fin_pan, X_top, resV, exports, nodupK, exportT, exportA, exportL, export1, tupV, List.contains_nil, m5, e6, e9, F7_eq, n4z, n5z, q1', q2', hnn, hmm, e8, z', e20, shI, z, e16, List.isEmpty_nil]
        | true =>
          have q3' := eq_false fun h => absurd (hcon h) (by simp)
          simp only [vmr, vmw, vmp, ↓reduceIte, Nat.reduceBEq, Nat.reduceLT, Nat.reduceAdd, Nat.reduceEqDiff, reduceCtorEq, decide_true, decide_false, evalO, evalOs, ofValue, ofLeaf, params, tget, sub, aok, builtinV, overwrite, vlen, assignTo, settle1, settleL, newVarV, newArr, cellsAt, readT, storeAt, writeE, cellsV, vleaf, frz, frzs, refs, refsL, fitsE, binV, intOp, boolOp, nilOp, isNilS, unV, fillE, velems, callV_s, CR_some, CD, importV, import1, importL, importT, imm, immL, pureR, pureRL, shapeR, flatR, shares, sharesL, hand_cons, hand_nil, oks, vst, vmd, ty, List.all_cons, List.all_nil, List.length_cons, List.length_nil, List.drop_succ_cons, List.drop_zero, List.drop_nil, List.head?_cons, List.head?_nil, List.cons_append, List.nil_append, List.append_nil, List.getElem?_cons_zero, List.getElem?_cons_succ, List.take_succ_cons, List.take_zero, List.set_cons_zero, List.set_cons_succ, List.length_map, Bool.and_true, Bool.true_and, Bool.and_false, Bool.false_and, Bool.and_self, Bool.not_true, Bool.not_false, and_true, true_and, and_self, ne_eq, not_true_eq_false, not_false_eq_true, beq_self_eq_true, Option.isSome_none, Int.toNat_natCast, nat_nonneg, Nat.zero_add, Nat.add_zero, Nat.succ_ne_self, Nat.reduceLeDiff, Nat.reduceEqDiff, Nat.reduceMul, Nat.reduceSub, Nat.le_refl, Nat.zero_le, List.getElem?_map, List.map_nil, fillS, zipP, evalPs, List.replicate_zero, List.replicate_succ, appendV, List.isEmpty_cons, Nat.mul_zero, Nat.zero_mul, true_or, or_true, or_false, false_or, List.take_length, ite_self, z0, z1, bq1, bq2, Int.toNat_zero, z00, Nat.le_add_right, Fin_ret, Fin_nrm, Fin_pan, X_top, resV, exports, nodupK, exportT, exportA, exportL, export1, tupV, List.contains_nil, m5, e6, e9, F7_eq, n4z, n5z, q1', q2', hnn, hmm, e8, z', e20, shI, z, e16, q3', List.isEmpty_nil]
  | true =>
    obtain ⟨fle, ff, fsh⟩ := f1 rfl
    have a5 := fun v9 k out => @l5 100 k out p v9 nn mm took steps hp hlen ff (took.length + 1) 0 100
    simp only [sub, c5, Try.f5, gets] at a5
    rcases took with _ | ⟨y, took⟩
    · have q4' : ((0 : Int) > mm) = False := eq_false (by simp at fle; omega)
      simp only [rv] at e8
      simp only [vmr, vmw, vmp, ↓reduceIte, Nat.reduceBEq, Nat.reduceLT, Nat.reduceAdd, Nat.reduceEqDiff, reduceCtorEq, decide_true, decide_false, evalO, evalOs, ofValue, ofLeaf, params, tget, sub, aok, builtinV, overwrite, vlen, assignTo, settle1, settleL, newVarV, newArr, cellsAt, readT, storeAt, writeE, cellsV, vleaf, frz, frzs, refs, refsL, fitsE, binV, intOp, boolOp, nilOp, isNilS, unV, fillE, velems, callV_s, CR_some, CD, importV, import1, importL, importT, imm, immL, pureR, pureRL, shapeR, flatR, shares, sharesL, hand_cons, hand_nil, oks, vst, vmd, ty, List.all_cons, List.all_nil, List.length_cons, List.length_nil, List.drop_succ_cons, List.drop_zero, List.drop_nil, List.head?_cons, List.head?_nil, List.cons_append, List.nil_append, List.append_nil, List.getElem?_cons_zero, List.getElem?_cons_succ, List.take_succ_cons, List.take_zero, List.set_cons_zero, List.set_cons_succ, List.length_map, Bool.and_true, Bool.true_and, Bool.and_false, Bool.false_and, Bool.and_self, Bool.not_true, Bool.not_false, and_true, true_and, and_self, ne_eq, not_true_eq_false, not_false_eq_true, beq_self_eq_true, Option.isSome_none, Int.toNat_natCast, nat_nonneg, Nat.zero_add, Nat.add_zero, Nat.succ_ne_self, Nat.reduceLeDiff, Nat.reduceEqDiff, Nat.reduceMul, Nat.reduceSub, Nat.le_refl, Nat.zero_le, List.getElem?_map, List.map_nil, fillS, zipP, evalPs, List.replicate_zero, List.replicate_succ, appendV, List.isEmpty_cons, Nat.mul_zero, Nat.zero_mul, true_or, or_true, or_false, false_or, List.take_length, ite_self, z0, z1, bq1, bq2, Int.toNat_zero, z00, Nat.le_add_right, m5, e6, e9, F7_eq, n4z, n5z, q1', q2', hnn, hmm, e8, z', q4', shI]
      refine a5 1 _ _ _ (by simp) (by simp) ⟨?_, ?_, ?_, ?_, ?_, ?_, ?_⟩ ?_ ?_
      case refine_9 =>
        intro s' ⟨h3, h9, h9', h10, h11, h12, h13⟩
        simp only [rv] at h12
        cases hr : runF p steps nn with
        | none =>
          rw [hr] at e20
          dsimp only [runV] at e20
          simp only [vmr, vmw, vmp, ↓reduceIte, Nat.reduceBEq, Nat.reduceLT, Nat.reduceAdd, Nat.reduceEqDiff, reduceCtorEq, decide_true, decide_false, evalO, evalOs, ofValue, ofLeaf, params, tget, sub, aok, builtinV, overwrite, vlen, assignTo, settle1, settleL, newVarV, newArr, cellsAt, readT, storeAt, writeE, cellsV, vleaf, frz, frzs, refs, refsL, fitsE, binV, intOp, boolOp, nilOp, isNilS, unV, fillE, velems, callV_s, CR_some, CD, importV, import1, importL, importT, imm, immL, pureR, pureRL, shapeR, flatR, shares, sharesL, hand_cons, hand_nil, oks, vst, vmd, ty, List.all_cons, List.all_nil, List.length_cons, List.length_nil, List.drop_succ_cons, List.drop_zero, List.drop_nil, List.head?_cons, List.head?_nil, List.cons_append, List.nil_append, List.append_nil, List.getElem?_cons_zero, List.getElem?_cons_succ, List.take_succ_cons, List.take_zero, List.set_cons_zero, List.set_cons_succ, List.length_map, Bool.and_true, Bool.true_and, Bool.and_false, Bool.false_and, Bool.and_self, Bool.not_true, Bool.not_false, and_true, true_and, and_self, ne_eq, not_true_eq_false, not_false_eq_true, beq_self_eq_true, Option.isSome_none, Int.toNat_natCast, nat_nonneg, Nat.zero_add, Nat.add_zero, Nat.succ_ne_self, Nat.reduceLeDiff, Nat.reduceEqDiff, Nat.reduceMul, Nat.reduceSub, Nat.le_refl, Nat.zero_le, List.getElem?_map, List.map_nil, fillS, zipP, evalPs, List.replicate_zero, List.replicate_succ, appendV, List.isEmpty_cons, Nat.mul_zero, Nat.zero_mul, true_or, or_true, or_false, false_or, List.take_length, ite_self, z0, z1, bq1, bq2, Int.toNat_zero, z00, Nat.le_add_right, Fin_ret, Fin_nrm, Fin_pan, X_top, resV, exports, nodupK, exportT, exportA, exportL, export1, tupV, List.contains_nil, m5, F7_eq, h3, h9, h9', h10, h11, h12, h13, e20, shI]
        | some x =>
          obtain ⟨st, e1⟩ := x
          rw [hr] at e20
          dsimp only [runV] at e20
          by_cases qe1 : e1 = 0
          case neg =>
            have qe1' : (e1 == 0) = false := by simpa using qe1
            simp only [vmr, vmw, vmp, ↓reduceIte, Nat.reduceBEq, Nat.reduceLT, Nat.reduceAdd, Nat.reduceEqDiff, reduceCtorEq, decide_true, decide_false, evalO, evalOs, ofValue, ofLeaf, params, tget, sub, aok, builtinV, overwrite, vlen, assignTo, settle1, settleL, newVarV, newArr, cellsAt, readT, storeAt, writeE, cellsV, vleaf, frz, frzs, refs, refsL, fitsE, binV, intOp, boolOp, nilOp, isNilS, unV, fillE, velems, callV_s, CR_some, CD, importV, import1, importL, importT, imm, immL, pureR, pureRL, shapeR, flatR, shares, sharesL, hand_cons, hand_nil, oks, vst, vmd, ty, List.all_cons, List.all_nil, List.length_cons, List.length_nil, List.drop_succ_cons, List.drop_zero, List.drop_nil, List.head?_cons, List.head?_nil, List.cons_append, List.nil_append, List.append_nil, List.getElem?_cons_zero, List.getElem?_cons_succ, List.take_succ_cons, List.take_zero, List.set_cons_zero, List.set_cons_succ, List.length_map, Bool.and_true, Bool.true_and, Bool.and_false, Bool.false_and, Bool.and_self, Bool.not_true, Bool.not_false, and_true, true_and, and_self, ne_eq, not_true_eq_false, not_false_eq_true, beq_self_eq_true, Option.isSome_none, Int.toNat_natCast, nat_nonneg, Nat.zero_add, Nat.add_zero, Nat.succ_ne_self, Nat.reduceLeDiff, Nat.reduceEqDiff, Nat.reduceMul, Nat.reduceSub, Nat.le_refl, Nat.zero_le, List.getElem?_map, List.map_nil, fillS, zipP, evalPs, List.replicate_zero, List.replicate_succ, appendV, List.isEmpty_cons, Nat.mul_zero, Nat.zero_mul, true_or, or_true, or_false, false_or, List.take_length, ite_self, z0, z1, bq1, bq2, Int.toNat_zero, z00, Nat.le_add_right, Fin_ret, Fin_nrm, Fin_pan, X_top, resV, exports, nodupK, exportT, exportA, exportL, export1, tupV, List.contains_nil, m5, F7_eq, h3, h9, h9', h10, h11, h12, h13, e20, shI, qe1']
          subst qe1
          have e16 := F16_eq hp (runF_len hp hr)
          have hcon : ((steps.length : Int) < 0) → (isBadF p st).1 = false := fun h => by omega
          cases hbd : isBadF p st with
          | mk bb ff =>
          rw [hbd] at e16 hcon
          dsimp only [badV] at e16 hcon
          by_cases qf : ff = 0
          case neg =>
            have qf' : (ff == 0) = false := by simpa using qf
            simp only [vmr, vmw, vmp, ↓reduceIte, Nat.reduceBEq, Nat.reduceLT, Nat.reduceAdd, Nat.reduceEqDiff, reduceCtorEq, decide_true, decide_false, evalO, evalOs, ofValue, ofLeaf, params, tget, sub, aok, builtinV, overwrite, vlen, assignTo, settle1, settleL, newVarV, newArr, cellsAt, readT, storeAt, writeE, cellsV, vleaf, frz, frzs, refs, refsL, fitsE, binV, intOp, boolOp, nilOp, isNilS, unV, fillE, velems, callV_s, CR_some, CD, importV, import1, importL, importT, imm, immL, pureR, pureRL, shapeR, flatR, shares, sharesL, hand_cons, hand_nil, oks, vst, vmd, ty, List.all_cons, List.all_nil, List.length_cons, List.length_nil, List.drop_succ_cons, List.drop_zero, List.drop_nil, List.head?_cons, List.head?_nil, List.cons_append, List.nil_append, List.append_nil, List.getElem?_cons_zero, List.getElem?_cons_succ, List.take_succ_cons, List.take_zero, List.set_cons_zero, List.set_cons_succ, List.length_map, Bool.and_true, Bool.true_and, Bool.and_false, Bool.false_and, Bool.and_self, Bool.not_true, Bool.not_false, and_true, true_and, and_self, ne_eq, not_true_eq_false, not_false_eq_true, beq_self_eq_true, Option.isSome_none, Int.toNat_natCast, nat_nonneg, Nat.zero_add, Nat.add_zero, Nat.succ_ne_self, Nat.reduceLeDiff, Nat.reduceEqDiff, Nat.reduceMul, Nat.reduceSub, Nat.le_refl, Nat.zero_le, List.getElem?_map, List.map_nil, fillS, zipP, evalPs, List.replicate_zero, List.replicate_succ, appendV, List.isEmpty_cons, Nat.mul_zero, Nat.zero_mul, true_or, or_true, or_false, false_or, List.take_length, ite_self, z0, z1, bq1, bq2, Int.toNat_zero, z00, Nat.le_add_right, Fin_ret, Fin_nrm, Fin_pan, X_top, resV, exports, nodupK, exportT, exportA, exportL, export1, tupV, List.contains_nil, m5, F7_eq, h3, h9, h9', h10, h11, h12, h13, e20, shI, z, e16, qf', List.isEmpty_nil]
          subst qf
          cases bb with
          | false => simp only [vmr, vmw, vmp, ↓reduceIte, Nat.reduceBEq, Nat.reduceLT, Nat.reduceAdd, Nat.reduceEqDiff, reduceCtorEq, decide_true, decide_false, evalO, evalOs, ofValue, ofLeaf, params, tget, sub, aok, builtinV, overwrite, vlen, assignTo, settle1, settleL, newVarV, newArr, cellsAt, readT, storeAt, writeE, cellsV, vleaf, frz, frzs, refs, refsL, fitsE, binV, intOp, boolOp, nilOp, isNilS, unV, fillE, velems, callV_s, CR_some, CD, importV, import1, importL, importT, imm, immL, pureR, pureRL, shapeR, flatR, shares, sharesL, hand_cons, hand_nil, oks, vst, vmd, ty, List.all_cons, List.all_nil, List.length_cons, List.length_nil, List.drop_succ_cons, List.drop_zero, List.drop_nil, List.head?_cons, List.head?_nil, List.cons_append, List.nil_append, List.append_nil, List.getElem?_cons_zero, List.getElem?_cons_succ, List.take_succ_cons, List.take_zero, List.set_cons_zero, List.set_cons_succ, List.length_map, Bool.and_true, Bool.true_and, Bool.and_false, Bool.false_and, Bool.and_self, Bool.not_true, Bool.not_false, and_true, true_and, and_self, ne_eq, not_true_eq_false, not_false_eq_true, beq_self_eq_true, Option.isSome_none, Int.toNat_natCast, nat_nonneg, Nat.zero_add, Nat.add_zero, Nat.succ_ne_self, Nat.reduceLeDiff, Nat.reduceEqDiff, Nat.reduceMul, Nat.reduceSub, Nat.le_refl, Nat.zero_le, List.getElem?_map, List.map_nil, fillS, zipP, evalPs, List.replicate_zero, List.replicate_succ, appendV, List.isEmpty_cons, Nat.mul_zero, Nat.zero_mul, true_or, or_true, or_false, false_or, List.take_length, ite_self, z0, z1, bq1, bq2, Int.toNat_zero, z00, Nat.le_add_right, Fin_ret, Fin_nrm, Fin_pan, X_top, resV, exports, nodupK, exportT, exportA, exportL, export1, tupV, List.contains_nil, m5, F7_eq, h3, h9, h9', h10, h11, h12, h13, e20, shI, z, e16, List.isEmpty_nil]
          | true =>
            have q3' := eq_false fun h => absurd (hcon h) (by simp)
            simp only [vmr, vmw, vmp, ↓reduceIte, Nat.reduceBEq, Nat.reduceLT, Nat.reduceAdd, Nat.reduceEqDiff, reduceCtorEq, decide_true, decide_false, evalO, evalOs, ofValue, ofLeaf, params, tget, sub, aok, builtinV, overwrite, vlen, assignTo, settle1, settleL, newVarV, newArr, cellsAt, readT, storeAt, writeE, cellsV, vleaf, frz, frzs, refs, refsL, fitsE, binV, intOp, boolOp, nilOp, isNilS, unV, fillE, velems, callV_s, CR_some, CD, importV, import1, importL, importT, imm, immL, pureR, pureRL, shapeR, flatR, shares, sharesL, hand_cons, hand_nil, oks, vst, vmd, ty, List.all_cons, List.all_nil, List.length_cons, List.length_nil, List.drop_succ_cons, List.drop_zero, List.drop_nil, List.head?_cons, List.head?_nil, List.cons_append, List.nil_append, List.append_nil, List.getElem?_cons_zero, List.getElem?_cons_succ, List.take_succ_cons, List.take_zero, List.set_cons_zero, List.set_cons_succ, List.length_map, Bool.and_true, Bool.true_and, Bool.and_false, Bool.false_and, Bool.and_self, Bool.not_true, Bool.not_false, and_true, true_and, and_self, ne_eq, not_true_eq_false, not_false_eq_true, beq_self_eq_true, Option.isSome_none, Int.toNat_natCast, nat_nonneg, Nat.zero_add, Nat.add_zero, Nat.succ_ne_self, Nat.reduceLeDiff, Nat.reduceEqDiff, Nat.reduceMul, Nat.reduceSub, Nat.le_refl, Nat.zero_le, List.getElem?_map, List.map_nil, fillS, zipP, evalPs, List.replicate_zero, List.replicate_succ, appendV, List.isEmpty_cons, Nat.mul_zero, Nat.zero_mul, true_or, or_true, or_false, false_or, List.take_length, ite_self, z0, z1, bq1, bq2, Int.toNat_zero, z00, Nat.le_add_right, Fin_ret, Fin_nrm, Fin_pan, X_top, resV, exports, nodupK, exportT, exportA, exportL, export1, tupV, List.contains_nil, m5, F7_eq, h3, h9, h9', h10, h11, h12, h13, e20, shI, z, e16, q3', List.isEmpty_nil]
      all_goals simp only [vmr, vmw, vmp, ↓reduceIte, Nat.reduceBEq, Nat.reduceLT, Nat.reduceAdd, Nat.reduceEqDiff, reduceCtorEq, decide_true, decide_false, evalO, evalOs, ofValue, ofLeaf, params, tget, sub, aok, builtinV, overwrite, vlen, assignTo, settle1, settleL, newVarV, newArr, cellsAt, readT, storeAt, writeE, cellsV, vleaf, frz, frzs, refs, refsL, fitsE, binV, intOp, boolOp, nilOp, isNilS, unV, fillE, velems, callV_s, CR_some, CD, importV, import1, importL, importT, imm, immL, pureR, pureRL, shapeR, flatR, shares, sharesL, hand_cons, hand_nil, oks, vst, vmd, ty, List.all_cons, List.all_nil, List.length_cons, List.length_nil, List.drop_succ_cons, List.drop_zero, List.drop_nil, List.head?_cons, List.head?_nil, List.cons_append, List.nil_append, List.append_nil, List.getElem?_cons_zero, List.getElem?_cons_succ, List.take_succ_cons, List.take_zero, List.set_cons_zero, List.set_cons_succ, List.length_map, Bool.and_true, Bool.true_and, Bool.and_false, Bool.false_and, Bool.and_self, Bool.not_true, Bool.not_false, and_true, true_and, and_self, ne_eq, not_true_eq_false, not_false_eq_true, beq_self_eq_true, Option.isSome_none, Int.toNat_natCast, nat_nonneg, Nat.zero_add, Nat.add_zero, Nat.succ_ne_self, Nat.reduceLeDiff, Nat.reduceEqDiff, Nat.reduceMul, Nat.reduceSub, Nat.le_refl, Nat.zero_le, List.getElem?_map, List.map_nil, fillS, zipP, evalPs, List.replicate_zero, List.replicate_succ, appendV, List.isEmpty_cons, Nat.mul_zero, Nat.zero_mul, true_or, or_true, or_false, false_or, List.take_length, ite_self, z0, z1, bq1, bq2, Int.toNat_zero, z00, Nat.le_add_right, m5, rv]
    · have q4' : (((took.length + 1 : Nat) : Int) > mm) = False := eq_false (by simp at fle; omega)
      simp only [rv, List.map_cons] at e8
      simp only [vmr, vmw, vmp, ↓reduceIte, Nat.reduceBEq, Nat.reduceLT, Nat.reduceAdd, Nat.reduceEqDiff, reduceCtorEq, decide_true, decide_false, evalO, evalOs, ofValue, ofLeaf, params, tget, sub, aok, builtinV, overwrite, vlen, assignTo, settle1, settleL, newVarV, newArr, cellsAt, readT, storeAt, writeE, cellsV, vleaf, frz, frzs, refs, refsL, fitsE, binV, intOp, boolOp, nilOp, isNilS, unV, fillE, velems, callV_s, CR_some, CD, importV, import1, importL, importT, imm, immL, pureR, pureRL, shapeR, flatR, shares, sharesL, hand_cons, hand_nil, oks, vst, vmd, ty, List.all_cons, List.all_nil, List.length_cons, List.length_nil, List.drop_succ_cons, List.drop_zero, List.drop_nil, List.head?_cons, List.head?_nil, List.cons_append, List.nil_append, List.append_nil, List.getElem?_cons_zero, List.getElem?_cons_succ, List.take_succ_cons, List.take_zero, List.set_cons_zero, List.set_cons_succ, List.length_map, Bool.and_true, Bool.true_and, Bool.and_false, Bool.false_and, Bool.and_self, Bool.not_true, Bool.not_false, and_true, true_and, and_self, ne_eq, not_true_eq_false, not_false_eq_true, beq_self_eq_true, Option.isSome_none, Int.toNat_natCast, nat_nonneg, Nat.zero_add, Nat.add_zero, Nat.succ_ne_self, Nat.reduceLeDiff, Nat.reduceEqDiff, Nat.reduceMul, Nat.reduceSub, Nat.le_refl, Nat.zero_le, List.getElem?_map, List.map_nil, fillS, zipP, evalPs, List.replicate_zero, List.replicate_succ, appendV, List.isEmpty_cons, Nat.mul_zero, Nat.zero_mul, true_or, or_true, or_false, false_or, List.take_length, ite_self, z0, z1, bq1, bq2, Int.toNat_zero, z00, Nat.le_add_right, m5, e6, e9, F7_eq, n4z, n5z, q1', q2', hnn, hmm, e8, z', q4', shI]
      refine a5 1 _ _ _ (by simp) (by simp at hlen; simp; omega) ⟨?_, ?_, ?_, ?_, ?_, ?_, ?_⟩ ?_ ?_
      case refine_9 =>
        intro s' ⟨h3, h9, h9', h10, h11, h12, h13⟩
        simp only [rv, List.map_cons] at h12
        cases hr : runF p steps nn with
        | none =>
          rw [hr] at e20
          dsimp only [runV] at e20
          simp only [vmr, vmw, vmp, ↓reduceIte, Nat.reduceBEq, Nat.reduceLT, Nat.reduceAdd, Nat.reduceEqDiff, reduceCtorEq, decide_true, decide_false, evalO, evalOs, ofValue, ofLeaf, params, tget, sub, aok, builtinV, overwrite, vlen, assignTo, settle1, settleL, newVarV, newArr, cellsAt, readT, storeAt, writeE, cellsV, vleaf, frz, frzs, refs, refsL, fitsE, binV, intOp, boolOp, nilOp, isNilS, unV, fillE, velems, callV_s, CR_some, CD, importV, import1, importL, importT, imm, immL, pureR, pureRL, shapeR, flatR, shares, sharesL, hand_cons, hand_nil, oks, vst, vmd, ty, List.all_cons, List.all_nil, List.length_cons, List.length_nil, List.drop_succ_cons, List.drop_zero, List.drop_nil, List.head?_cons, List.head?_nil, List.cons_append, List.nil_append, List.append_nil, List.getElem?_cons_zero, List.getElem?_cons_succ, List.take_succ_cons, List.take_zero, List.set_cons_zero, List.set_cons_succ, List.length_map, Bool.and_true, Bool.true_and, Bool.and_false, Bool.false_and, Bool.and_self, Bool.not_true, Bool.not_false, and_true, true_and, and_self, ne_eq, not_true_eq_false, not_false_eq_true, beq_self_eq_true, Option.isSome_none, Int.toNat_natCast, nat_nonneg, Nat.zero_add, Nat.add_zero, Nat.succ_ne_self, Nat.reduceLeDiff, Nat.reduceEqDiff, Nat.reduceMul, Nat.reduceSub, Nat.le_refl, Nat.zero_le, List.getElem?_map, List.map_nil, fillS, zipP, evalPs, List.replicate_zero, List.replicate_succ, appendV, List.isEmpty_cons, Nat.mul_zero, Nat.zero_mul, true_or, or_true, or_false, false_or, List.take_length, ite_self, z0, z1, bq1, bq2, Int.toNat_zero, z00, Nat.le_add_right, Fin_ret, Fin_nrm, Fin_pan, X_top, resV, exports, nodupK, exportT, exportA, exportL, export1, tupV, List.contains_nil, m5, F7_eq, h3, h9, h9', h10, h11, h12, h13, e20, shI]
        | some x =>
          obtain ⟨st, e1⟩ := x
          rw [hr] at e20
          dsimp only [runV] at e20
          by_cases qe1 : e1 = 0
          case neg =>
            have qe1' : (e1 == 0) = false := by simpa using qe1
            simp only [vmr, vmw, vmp, ↓reduceIte, Nat.reduceBEq, Nat.reduceLT, Nat.reduceAdd, Nat.reduceEqDiff, reduceCtorEq, decide_true, decide_false, evalO, evalOs, ofValue, ofLeaf, params, tget, sub, aok, builtinV, overwrite, vlen, assignTo, settle1, settleL, newVarV, newArr, cellsAt, readT, storeAt, writeE, cellsV, vleaf, frz, frzs, refs, refsL, fitsE, binV, intOp, boolOp, nilOp, isNilS, unV, fillE, velems, callV_s, CR_some, CD, importV, import1, importL, importT, imm, immL, pureR, pureRL, shapeR, flatR, shares, sharesL, hand_cons, hand_nil, oks, vst, vmd, ty, List.all_cons, List.all_nil, List.length_cons, List.length_nil, List.drop_succ_cons, List.drop_zero, List.drop_nil, List.head?_cons, List.head?_nil, List.cons_append, List.nil_append, List.append_nil, List.getElem?_cons_zero, List.getElem?_cons_succ, List.take_succ_cons, List.take_zero, List.set_cons_zero, List.set_cons_succ, List.length_map, Bool.and_true, Bool.true_and, Bool.and_false, Bool.false_and, Bool.and_self, Bool.not_true, Bool.not_false, and_true, true_and, and_self, ne_eq, not_true_eq_false, not_false_eq_true, beq_self_eq_true, Option.isSome_none, Int.toNat_natCast, nat_nonneg, Nat.zero_add, Nat.add_zero, Nat.succ_ne_self, Nat.reduceLeDiff, Nat.reduceEqDiff, Nat.reduceMul, Nat.reduceSub, Nat.le_refl, Nat.zero_le, List.getElem?_map, List.map_nil, fillS, zipP, evalPs, List.replicate_zero, List.replicate_succ, appendV, List.isEmpty_cons, Nat.mul_zero, Nat.zero_mul, true_or, or_true, or_false, false_or, List.take_length, ite_self, z0, z1, bq1, bq2, Int.toNat_zero, z00, Nat.le_add_right, Fin_ret, Fin_nrm, Fin_pan, X_top, resV, exports, nodupK, exportT, exportA, exportL, export1, tupV, List.contains_nil, m5, F7_eq, h3, h9, h9', h10, h11, h12, h13, e20, shI, qe1']
          subst qe1
          have e16 := F16_eq hp (runF_len hp hr)
          have hcon : ((steps.length : Int) < ((took.length + 1 : Nat) : Int)) → (isBadF p st).1 = false := fun h => fsh steps st hr (by simp; omega)
          cases hbd : isBadF p st with
          | mk bb ff =>
          rw [hbd] at e16 hcon
          dsimp only [badV] at e16 hcon
          by_cases qf : ff = 0
          case neg =>
            have qf' : (ff == 0) = false := by simpa using qf
            simp only [vmr, vmw, vmp, ↓reduceIte, Nat.reduceBEq, Nat.reduceLT, Nat.reduceAdd, Nat.reduceEqDiff, reduceCtorEq, decide_true, decide_false, evalO, evalOs, ofValue, ofLeaf, params, tget, sub, aok, builtinV, overwrite, vlen, assignTo, settle1, settleL, newVarV, newArr, cellsAt, readT, storeAt, writeE, cellsV, vleaf, frz, frzs, refs, refsL, fitsE, binV, intOp, boolOp, nilOp, isNilS, unV, fillE, velems, callV_s, CR_some, CD, importV, import1, importL, importT, imm, immL, pureR, pureRL, shapeR, flatR, shares, sharesL, hand_cons, hand_nil, oks, vst, vmd, ty, List.all_cons, List.all_nil, List.length_cons, List.length_nil, List.drop_succ_cons, List.drop_zero, List.drop_nil, List.head?_cons, List.head?_nil, List.cons_append, List.nil_append, List.append_nil, List.getElem?_cons_zero, List.getElem?_cons_succ, List.take_succ_cons, List.take_zero, List.set_cons_zero, List.set_cons_succ, List.length_map, Bool.and_true, Bool.true_and, Bool.and_false, Bool.false_and, Bool.and_self, Bool.not_true, Bool.not_false, and_true, true_and, and_self, ne_eq, not_true_eq_false, not_false_eq_true, beq_self_eq_true, Option.isSome_none, Int.toNat_natCast, nat_nonneg, Nat.zero_add, Nat.add_zero, Nat.succ_ne_self, Nat.reduceLeDiff, Nat.reduceEqDiff, Nat.reduceMul, Nat.reduceSub, Nat.le_refl, Nat.zero_le, List.getElem?_map, List.map_nil, fillS, zipP, evalPs, List.replicate_zero, List.replicate_succ, appendV, List.isEmpty_cons, Nat.mul_zero, Nat.zero_mul, true_or, or_true, or_false, false_or, List.take_length, ite_self, z0, z1, bq1, bq2, Int.toNat_zero, z00, Nat.le_add_right, Fin_ret, Fin_nrm, Fin_pan, X_top, resV, exports, nodupK, exportT, exportA, exportL, export1, tupV, List.contains_nil, m5, F7_eq, h3, h9, h9', h10, h11, h12, h13, e20, shI, z, e16, qf', List.isEmpty_nil]
          subst qf
          cases bb with
          | false => simp only [vmr, vmw, vmp, ↓reduceIte, Nat.reduceBEq, Nat.reduceLT, Nat.reduceAdd, Nat.reduceEqDiff, reduceCtorEq, decide_true, decide_false, evalO, evalOs, ofValue, ofLeaf, params, tget, sub, aok, builtinV, overwrite, vlen, assignTo, settle1, settleL, newVarV, newArr, cellsAt, readT, storeAt, writeE, cellsV, vleaf, frz, frzs, refs, refsL, fitsE, binV, intOp, boolOp, nilOp, isNilS, unV, fillE, velems, callV_s, CR_some, CD, importV, import1, importL, importT, imm, immL, pureR, pureRL, shapeR, flatR, shares, sharesL, hand_cons, hand_nil, oks, vst, vmd, ty, List.all_cons, List.all_nil, List.length_cons, List.length_nil, List.drop_succ_cons, List.drop_zero, List.drop_nil, List.head?_cons, List.head?_nil, List.cons_append, List.nil_append, List.append_nil, List.getElem?_cons_zero, List.getElem?_cons_succ, List.take_succ_cons, List.take_zero, List.set_cons_zero, List.set_cons_succ, List.length_map, Bool.and_true, Bool.true_and, Bool.and_false, Bool.false_and, Bool.and_self, Bool.not_true, Bool.not_false, and_true, true_and, and_self, ne_eq, not_true_eq_false, not_false_eq_true, beq_self_eq_true, Option.isSome_none, Int.toNat_natCast, nat_nonneg, Nat.zero_add, Nat.add_zero, Nat.succ_ne_self, Nat.reduceLeDiff, Nat.reduceEqDiff, Nat.reduceMul, Nat.reduceSub, Nat.le_refl, Nat.zero_le, List.getElem?_map, List.map_nil, fillS, zipP, evalPs, List.replicate_zero, List.replicate_succ, appendV, List.isEmpty_cons, Nat.mul_zero, Nat.zero_mul, true_or, or_true, or_false, false_or, List.take_length, ite_self, z0, z1, bq1, bq2, Int.toNat_zero, z00, Nat.le_add_right, Fin_ret, Fin_nrm, Fin_pan, X_top, resV, exports, nodupK, exportT, exportA, exportL, export1, tupV, List.contains_nil, m5, F7_eq, h3, h9, h9', h10, h11, h12, h13, e20, shI, z, e16, List.isEmpty_nil]
          | true =>
            have q3' := eq_false fun h => absurd (hcon h) (by simp)
            simp only [vmr, vmw, vmp, ↓reduceIte, Nat.reduceBEq, Nat.reduceLT, Nat.reduceAdd, Nat.reduceEqDiff, reduceCtorEq, decide_true, decide_false, evalO, evalOs, ofValue, ofLeaf, params, tget, sub, aok, builtinV, overwrite, vlen, assignTo, settle1, settleL, newVarV, newArr, cellsAt, readT, storeAt, writeE, cellsV, vleaf, frz, frzs, refs, refsL, fitsE, binV, intOp, boolOp, nilOp, isNilS, unV, fillE, velems, callV_s, CR_some, CD, importV, import1, importL, importT, imm, immL, pureR, pureRL, shapeR, flatR, shares, sharesL, hand_cons, hand_nil, oks, vst, vmd, ty, List.all_cons, List.all_nil, List.length_cons, List.length_nil, List.drop_succ_cons, List.drop_zero, List.drop_nil, List.head?_cons, List.head?_nil, List.cons_append, List.nil_append, List.append_nil, List.getElem?_cons_zero, List.getElem?_cons_succ, List.take_succ_cons, List.take_zero, List.set_cons_zero, List.set_cons_succ, List.length_map, Bool.and_true, Bool.true_and, Bool.and_false, Bool.false_and, Bool.and_self, Bool.not_true, Bool.not_false, and_true, true_and, and_self, ne_eq, not_true_eq_false, not_false_eq_true, beq_self_eq_true, Option.isSome_none, Int.toNat_natCast, nat_nonneg, Nat.zero_add, Nat.add_zero, Nat.succ_ne_self, Nat.reduceLeDiff, Nat.reduceEqDiff, Nat.reduceMul, Nat.reduceSub, Nat.le_refl, Nat.zero_le, List.getElem?_map, List.map_nil, fillS, zipP, evalPs, List.replicate_zero, List.replicate_succ, appendV, List.isEmpty_cons, Nat.mul_zero, Nat.zero_mul, true_or, or_true, or_false, false_or, List.take_length, ite_self, z0, z1, bq1, bq2, Int.toNat_zero, z00, Nat.le_add_right, Fin_ret, Fin_nrm, Fin_pan, X_top, resV, exports, nodupK, exportT, exportA, exportL, export1, tupV, List.contains_nil, m5, F7_eq, h3, h9, h9', h10, h11, h12, h13, e20, shI, z, e16, q3', List.isEmpty_nil]
      all_goals simp only [vmr, vmw, vmp, ↓reduceIte, Nat.reduceBEq, Nat.reduceLT, Nat.reduceAdd, Nat.reduceEqDiff, reduceCtorEq, decide_true, decide_false, evalO, evalOs, ofValue, ofLeaf, params, tget, sub, aok, builtinV, overwrite, vlen, assignTo, settle1, settleL, newVarV, newArr, cellsAt, readT, storeAt, writeE, cellsV, vleaf, frz, frzs, refs, refsL, fitsE, binV, intOp, boolOp, nilOp, isNilS, unV, fillE, velems, callV_s, CR_some, CD, importV, import1, importL, importT, imm, immL, pureR, pureRL, shapeR, flatR, shares, sharesL, hand_cons, hand_nil, oks, vst, vmd, ty, List.all_cons, List.all_nil, List.length_cons, List.length_nil, List.drop_succ_cons, List.drop_zero, List.drop_nil, List.head?_cons, List.head?_nil, List.cons_append, List.nil_append, List.append_nil, List.getElem?_cons_zero, List.getElem?_cons_succ, List.take_succ_cons, List.take_zero, List.set_cons_zero, List.set_cons_succ, List.length_map, Bool.and_true, Bool.true_and, Bool.and_false, Bool.false_and, Bool.and_self, Bool.not_true, Bool.not_false, and_true, true_and, and_self, ne_eq, not_true_eq_false, not_false_eq_true, beq_self_eq_true, Option.isSome_none, Int.toNat_natCast, nat_nonneg, Nat.zero_add, Nat.add_zero, Nat.succ_ne_self, Nat.reduceLeDiff, Nat.reduceEqDiff, Nat.reduceMul, Nat.reduceSub, Nat.le_refl, Nat.zero_le, List.getElem?_map, List.map_nil, fillS, zipP, evalPs, List.replicate_zero, List.replicate_succ, appendV, List.isEmpty_cons, Nat.mul_zero, Nat.zero_mul, true_or, or_true, or_false, false_or, List.take_length, ite_self, z0, z1, bq1, bq2, Int.toNat_zero, z00, Nat.le_add_right, m5, rv, List.map_cons]
end Go.Vi
