/-
  Walk of the closure of protocol's states: the outer loop, the call.
-/
import Derived.Test.YtkpcgnjjkaamgaaWG
set_option linter.unusedSimpArgs false
set_option linter.unusedVariables false
set_option maxRecDepth 100000
set_option maxHeartbeats 1000000
namespace Go.Vi
open Go Go.Proofs

theorem tn1 : Int.toNat 1 = 1 := rfl
theorem le01 : ((0:Int) ≤ 1) = True := by decide
theorem l37a {n : Nat} {k : K} {p τ more most} (hτ : tau8 τ) (hp : p.ok) (hck : checkF p = 0) (hn0 : 5000 < n) (hmost : most ≤ 12) : ∀ N i (l : List Met) vm v7 off len es n' s res, outerF p most N i l = some res → N ≤ n' → l.length ≤ 5000 → WFl p l → (∀ x ∈ l, (x.rules.length : Int) ≤ most) → S37 p τ more most i l vm v7 off len es none s →
    (∀ s', inv8 (hand S8) p τ .nilS (.bool false) (I 0) .ready none s'.O → Po p τ ([], false, 0) (X (A37 (hand S8) (n + 1)) (.exit 0) k s')) →
    Po p τ res (L (A37 (hand S8) (n + 1)) (sub [1, 1, 1, 0, 0] c37) n' k s)
  | 0, i, l, vm, v7, off, len, es, n', s, res, h, _, _, _, _, _, _ => by cases h
  | N + 1, i, l, vm, v7, off, len, es, n' + 1, s, res, h, hN, hl, hwf, hru, hS, hx => by
    obtain ⟨h0, h1, h2, h3, h6, h6', h7, h7', hes, hlen, hO⟩ := hS
    obtain ⟨g1, g2, g3, _, _, _, _, hri, hbd⟩ := checkF_facts hck
    have hll : len = l.length - i := by have := congrArg List.length hes; simp at this; omega
    simp only [outerF] at h
    rw [L_succ]
    cases hmi : l[i]? with
    | none =>
      rw [hmi] at h
      simp only [Option.some.injEq] at h
      subst h
      have hil := List.getElem?_eq_none_iff.1 hmi
      have hc : ((len : Int) > 0) = False := by simp; omega
      simp only [vmr, vmw, vmp, ↓reduceIte, Nat.reduceBEq, Nat.reduceLT, Nat.reduceAdd, Nat.reduceEqDiff, reduceCtorEq, decide_true, decide_false, evalO, evalOs, ofValue, ofLeaf, params, tget, sub, aok, builtinV, overwrite, vlen, assignTo, settle1, settleL, newVarV, newArr, cellsAt, readT, storeAt, writeE, cellsV, vleaf, frz, frzs, refs, refsL, fitsE, binV, intOp, boolOp, nilOp, isNilS, unV, fillE, velems, callV_s, CR_some, CD, importV, import1, importL, importT, imm, immL, pureR, pureRL, shapeR, flatR, shares, sharesL, hand_cons, hand_nil, oks, vst, vmd, ty, List.all_cons, List.all_nil, List.length_cons, List.length_nil, List.drop_succ_cons, List.drop_zero, List.drop_nil, List.head?_cons, List.head?_nil, List.cons_append, List.nil_append, List.append_nil, List.getElem?_cons_zero, List.getElem?_cons_succ, List.take_succ_cons, List.take_zero, List.set_cons_zero, List.set_cons_succ, List.length_map, Bool.and_true, Bool.true_and, Bool.and_false, Bool.false_and, Bool.and_self, Bool.not_true, Bool.not_false, and_true, true_and, and_self, ne_eq, not_true_eq_false, not_false_eq_true, beq_self_eq_true, Option.isSome_none, Int.toNat_natCast, nat_nonneg, Nat.zero_add, Nat.add_zero, Nat.succ_ne_self, Nat.reduceLeDiff, Nat.reduceEqDiff, Nat.reduceMul, Nat.reduceSub, Nat.le_refl, Nat.zero_le, List.getElem?_map, List.map_nil, fillS, zipP, evalPs, List.replicate_zero, List.replicate_succ, appendV, List.isEmpty_cons, Nat.mul_zero, Nat.zero_mul, true_or, or_true, or_false, false_or, List.take_length, ite_self, z0, z1, bq1, bq2, Int.toNat_zero, z00, Nat.le_add_right, c37, Try.f37, a37, h7, hc]
      exact hx _ hO
    | some m =>
      rw [hmi] at h
      dsimp only at h
      have hil : i < l.length := (List.getElem?_eq_some_iff.1 hmi).1
      have hc : ((len : Int) > 0) = True := by simp; omega
      have hmm := mem_of hmi
      have hwm := hwf _ hmm
      have hrm := hru _ hmm
      have hlm := withinF_len hwm
      obtain ⟨ms, mr⟩ := m
      dsimp only at h hwm hrm hlm
      have hge : es[off]? = some (Met.v ⟨ms, mr⟩) := by
        have h1 : (es.drop off)[0]? = some (Met.v ⟨ms, mr⟩) := by rw [hes, List.getElem?_map, List.getElem?_drop, Nat.add_zero, hmi]; rfl
        rwa [List.getElem?_drop, Nat.add_zero] at h1
      have hle1 : 1 ≤ len := by omega
      have a2 := fun k => @l37b n k p τ more most i res none hτ hp hck hn0 ms mr (by omega) hwm p.rules 0 l vm v7 (off + 1) (len - 1) es
      have ih := fun l vm v7 off len es s => @l37a n k p τ more most hτ hp hck hn0 hmost N (i+1) l vm v7 off len es n' s res
      simp only [sub, c37, Try.f37, gets] at a2 ih
      have hes' : es.drop (off + 1) = (l.drop (i + 1)).map Met.v := by
        have := congrArg (List.drop 1) hes
        rwa [List.drop_drop, ← List.map_drop, List.drop_drop] at this
      cases hbad : badF p ms with
      | true =>
        rw [hbad] at h
        simp only [if_true, Option.some.injEq] at h
        subst h
        have hbm := fun pd O c => @rnd_bad n p τ pd O c ms mr hp (fun x hx => by have := withinF_len (hbd x hx); omega) hbad hτ
        rcases mr with _ | ⟨y, mr⟩
        all_goals
          simp only [rv, Met.v, List.map_cons] at hge hbm
          simp only [vmr, vmw, vmp, ↓reduceIte, Nat.reduceBEq, Nat.reduceLT, Nat.reduceAdd, Nat.reduceEqDiff, reduceCtorEq, decide_true, decide_false, evalO, evalOs, ofValue, ofLeaf, params, tget, sub, aok, builtinV, overwrite, vlen, assignTo, settle1, settleL, newVarV, newArr, cellsAt, readT, storeAt, writeE, cellsV, vleaf, frz, frzs, refs, refsL, fitsE, binV, intOp, boolOp, nilOp, isNilS, unV, fillE, velems, callV_s, CR_some, CD, importV, import1, importL, importT, imm, immL, pureR, pureRL, shapeR, flatR, shares, sharesL, hand_cons, hand_nil, oks, vst, vmd, ty, List.all_cons, List.all_nil, List.length_cons, List.length_nil, List.drop_succ_cons, List.drop_zero, List.drop_nil, List.head?_cons, List.head?_nil, List.cons_append, List.nil_append, List.append_nil, List.getElem?_cons_zero, List.getElem?_cons_succ, List.take_succ_cons, List.take_zero, List.set_cons_zero, List.set_cons_succ, List.length_map, Bool.and_true, Bool.true_and, Bool.and_false, Bool.false_and, Bool.and_self, Bool.not_true, Bool.not_false, and_true, true_and, and_self, ne_eq, not_true_eq_false, not_false_eq_true, beq_self_eq_true, Option.isSome_none, Int.toNat_natCast, nat_nonneg, Nat.zero_add, Nat.add_zero, Nat.succ_ne_self, Nat.reduceLeDiff, Nat.reduceEqDiff, Nat.reduceMul, Nat.reduceSub, Nat.le_refl, Nat.zero_le, List.getElem?_map, List.map_nil, fillS, zipP, evalPs, List.replicate_zero, List.replicate_succ, appendV, List.isEmpty_cons, Nat.mul_zero, Nat.zero_mul, true_or, or_true, or_false, false_or, List.take_length, ite_self, z0, z1, bq1, bq2, Int.toNat_zero, z00, Nat.le_add_right, c37, Try.f37, a37, h0, h7, h7', hc, hge, hle1, sliceA, sliceV, boundOf, onone, tn1, le01]
          refine yield_of (by decide) (hbm none _ _ (inv_heap hO)) fun L' O' c' hL hO' => ?_
          simp only [vmr, vmw, vmp, ↓reduceIte, Nat.reduceBEq, Nat.reduceLT, Nat.reduceAdd, Nat.reduceEqDiff, reduceCtorEq, decide_true, decide_false, evalO, evalOs, ofValue, ofLeaf, params, tget, sub, aok, builtinV, overwrite, vlen, assignTo, settle1, settleL, newVarV, newArr, cellsAt, readT, storeAt, writeE, cellsV, vleaf, frz, frzs, refs, refsL, fitsE, binV, intOp, boolOp, nilOp, isNilS, unV, fillE, velems, callV_s, CR_some, CD, importV, import1, importL, importT, imm, immL, pureR, pureRL, shapeR, flatR, shares, sharesL, hand_cons, hand_nil, oks, vst, vmd, ty, List.all_cons, List.all_nil, List.length_cons, List.length_nil, List.drop_succ_cons, List.drop_zero, List.drop_nil, List.head?_cons, List.head?_nil, List.cons_append, List.nil_append, List.append_nil, List.getElem?_cons_zero, List.getElem?_cons_succ, List.take_succ_cons, List.take_zero, List.set_cons_zero, List.set_cons_succ, List.length_map, Bool.and_true, Bool.true_and, Bool.and_false, Bool.false_and, Bool.and_self, Bool.not_true, Bool.not_false, and_true, true_and, and_self, ne_eq, not_true_eq_false, not_false_eq_true, beq_self_eq_true, Option.isSome_none, Int.toNat_natCast, nat_nonneg, Nat.zero_add, Nat.add_zero, Nat.succ_ne_self, Nat.reduceLeDiff, Nat.reduceEqDiff, Nat.reduceMul, Nat.reduceSub, Nat.le_refl, Nat.zero_le, List.getElem?_map, List.map_nil, fillS, zipP, evalPs, List.replicate_zero, List.replicate_succ, appendV, List.isEmpty_cons, Nat.mul_zero, Nat.zero_mul, true_or, or_true, or_false, false_or, List.take_length, ite_self, z0, z1, bq1, bq2, Int.toNat_zero, z00, Nat.le_add_right, a37]
          exact ⟨_, _, _, .inr rfl, hO', .inr ⟨rfl, rfl⟩⟩
      | false =>
        rw [hbad] at h
        rw [if_neg (by simp)] at h
        have hgo := fun pd O c => @rnd_go n p τ pd O c ms mr hp (fun x hx => by have := withinF_len (hbd x hx); omega) hbad hτ
        by_cases hq : (mr.length : Int) = most
        · have hq' : ((mr.length : Int) == most) = true := by simp [hq]
          rw [if_pos hq] at h
          rcases mr with _ | ⟨y, mr⟩
          all_goals
            simp only [rv, Met.v, List.map_cons] at hge hgo
            simp only [List.length_cons, List.length_nil, z0] at hq'
            simp only [vmr, vmw, vmp, ↓reduceIte, Nat.reduceBEq, Nat.reduceLT, Nat.reduceAdd, Nat.reduceEqDiff, reduceCtorEq, decide_true, decide_false, evalO, evalOs, ofValue, ofLeaf, params, tget, sub, aok, builtinV, overwrite, vlen, assignTo, settle1, settleL, newVarV, newArr, cellsAt, readT, storeAt, writeE, cellsV, vleaf, frz, frzs, refs, refsL, fitsE, binV, intOp, boolOp, nilOp, isNilS, unV, fillE, velems, callV_s, CR_some, CD, importV, import1, importL, importT, imm, immL, pureR, pureRL, shapeR, flatR, shares, sharesL, hand_cons, hand_nil, oks, vst, vmd, ty, List.all_cons, List.all_nil, List.length_cons, List.length_nil, List.drop_succ_cons, List.drop_zero, List.drop_nil, List.head?_cons, List.head?_nil, List.cons_append, List.nil_append, List.append_nil, List.getElem?_cons_zero, List.getElem?_cons_succ, List.take_succ_cons, List.take_zero, List.set_cons_zero, List.set_cons_succ, List.length_map, Bool.and_true, Bool.true_and, Bool.and_false, Bool.false_and, Bool.and_self, Bool.not_true, Bool.not_false, and_true, true_and, and_self, ne_eq, not_true_eq_false, not_false_eq_true, beq_self_eq_true, Option.isSome_none, Int.toNat_natCast, nat_nonneg, Nat.zero_add, Nat.add_zero, Nat.succ_ne_self, Nat.reduceLeDiff, Nat.reduceEqDiff, Nat.reduceMul, Nat.reduceSub, Nat.le_refl, Nat.zero_le, List.getElem?_map, List.map_nil, fillS, zipP, evalPs, List.replicate_zero, List.replicate_succ, appendV, List.isEmpty_cons, Nat.mul_zero, Nat.zero_mul, true_or, or_true, or_false, false_or, List.take_length, ite_self, z0, z1, bq1, bq2, Int.toNat_zero, z00, Nat.le_add_right, c37, Try.f37, a37, h0, h7, h7', hc, hge, hle1, sliceA, sliceV, boundOf, onone, tn1, le01]
            refine yield_of (by decide) (hgo none _ _ (inv_heap hO)) fun L' O' c' hL hO' => ?_
            have g6 := hL 6 0 (vm, .map (entsV l)) (by simp only [vmr, vmw, vmp, ↓reduceIte, Nat.reduceBEq, Nat.reduceLT, Nat.reduceAdd, Nat.reduceEqDiff, reduceCtorEq, decide_true, decide_false, evalO, evalOs, ofValue, ofLeaf, params, tget, sub, aok, builtinV, overwrite, vlen, assignTo, settle1, settleL, newVarV, newArr, cellsAt, readT, storeAt, writeE, cellsV, vleaf, frz, frzs, refs, refsL, fitsE, binV, intOp, boolOp, nilOp, isNilS, unV, fillE, velems, callV_s, CR_some, CD, importV, import1, importL, importT, imm, immL, pureR, pureRL, shapeR, flatR, shares, sharesL, hand_cons, hand_nil, oks, vst, vmd, ty, List.all_cons, List.all_nil, List.length_cons, List.length_nil, List.drop_succ_cons, List.drop_zero, List.drop_nil, List.head?_cons, List.head?_nil, List.cons_append, List.nil_append, List.append_nil, List.getElem?_cons_zero, List.getElem?_cons_succ, List.take_succ_cons, List.take_zero, List.set_cons_zero, List.set_cons_succ, List.length_map, Bool.and_true, Bool.true_and, Bool.and_false, Bool.false_and, Bool.and_self, Bool.not_true, Bool.not_false, and_true, true_and, and_self, ne_eq, not_true_eq_false, not_false_eq_true, beq_self_eq_true, Option.isSome_none, Int.toNat_natCast, nat_nonneg, Nat.zero_add, Nat.add_zero, Nat.succ_ne_self, Nat.reduceLeDiff, Nat.reduceEqDiff, Nat.reduceMul, Nat.reduceSub, Nat.le_refl, Nat.zero_le, List.getElem?_map, List.map_nil, fillS, zipP, evalPs, List.replicate_zero, List.replicate_succ, appendV, List.isEmpty_cons, Nat.mul_zero, Nat.zero_mul, true_or, or_true, or_false, false_or, List.take_length, ite_self, z0, z1, bq1, bq2, Int.toNat_zero, z00, Nat.le_add_right, a37, h6'])
            have g7 := hL 7 0 (v7, .arr 2 es) (by simp only [vmr, vmw, vmp, ↓reduceIte, Nat.reduceBEq, Nat.reduceLT, Nat.reduceAdd, Nat.reduceEqDiff, reduceCtorEq, decide_true, decide_false, evalO, evalOs, ofValue, ofLeaf, params, tget, sub, aok, builtinV, overwrite, vlen, assignTo, settle1, settleL, newVarV, newArr, cellsAt, readT, storeAt, writeE, cellsV, vleaf, frz, frzs, refs, refsL, fitsE, binV, intOp, boolOp, nilOp, isNilS, unV, fillE, velems, callV_s, CR_some, CD, importV, import1, importL, importT, imm, immL, pureR, pureRL, shapeR, flatR, shares, sharesL, hand_cons, hand_nil, oks, vst, vmd, ty, List.all_cons, List.all_nil, List.length_cons, List.length_nil, List.drop_succ_cons, List.drop_zero, List.drop_nil, List.head?_cons, List.head?_nil, List.cons_append, List.nil_append, List.append_nil, List.getElem?_cons_zero, List.getElem?_cons_succ, List.take_succ_cons, List.take_zero, List.set_cons_zero, List.set_cons_succ, List.length_map, Bool.and_true, Bool.true_and, Bool.and_false, Bool.false_and, Bool.and_self, Bool.not_true, Bool.not_false, and_true, true_and, and_self, ne_eq, not_true_eq_false, not_false_eq_true, beq_self_eq_true, Option.isSome_none, Int.toNat_natCast, nat_nonneg, Nat.zero_add, Nat.add_zero, Nat.succ_ne_self, Nat.reduceLeDiff, Nat.reduceEqDiff, Nat.reduceMul, Nat.reduceSub, Nat.le_refl, Nat.zero_le, List.getElem?_map, List.map_nil, fillS, zipP, evalPs, List.replicate_zero, List.replicate_succ, appendV, List.isEmpty_cons, Nat.mul_zero, Nat.zero_mul, true_or, or_true, or_false, false_or, List.take_length, ite_self, z0, z1, bq1, bq2, Int.toNat_zero, z00, Nat.le_add_right, a37, h7'])
            have g8 := hL 8 0 (s.c, .var _) (by simp only [vmr, vmw, vmp, ↓reduceIte, Nat.reduceBEq, Nat.reduceLT, Nat.reduceAdd, Nat.reduceEqDiff, reduceCtorEq, decide_true, decide_false, evalO, evalOs, ofValue, ofLeaf, params, tget, sub, aok, builtinV, overwrite, vlen, assignTo, settle1, settleL, newVarV, newArr, cellsAt, readT, storeAt, writeE, cellsV, vleaf, frz, frzs, refs, refsL, fitsE, binV, intOp, boolOp, nilOp, isNilS, unV, fillE, velems, callV_s, CR_some, CD, importV, import1, importL, importT, imm, immL, pureR, pureRL, shapeR, flatR, shares, sharesL, hand_cons, hand_nil, oks, vst, vmd, ty, List.all_cons, List.all_nil, List.length_cons, List.length_nil, List.drop_succ_cons, List.drop_zero, List.drop_nil, List.head?_cons, List.head?_nil, List.cons_append, List.nil_append, List.append_nil, List.getElem?_cons_zero, List.getElem?_cons_succ, List.take_succ_cons, List.take_zero, List.set_cons_zero, List.set_cons_succ, List.length_map, Bool.and_true, Bool.true_and, Bool.and_false, Bool.false_and, Bool.and_self, Bool.not_true, Bool.not_false, and_true, true_and, and_self, ne_eq, not_true_eq_false, not_false_eq_true, beq_self_eq_true, Option.isSome_none, Int.toNat_natCast, nat_nonneg, Nat.zero_add, Nat.add_zero, Nat.succ_ne_self, Nat.reduceLeDiff, Nat.reduceEqDiff, Nat.reduceMul, Nat.reduceSub, Nat.le_refl, Nat.zero_le, List.getElem?_map, List.map_nil, fillS, zipP, evalPs, List.replicate_zero, List.replicate_succ, appendV, List.isEmpty_cons, Nat.mul_zero, Nat.zero_mul, true_or, or_true, or_false, false_or, List.take_length, ite_self, z0, z1, bq1, bq2, Int.toNat_zero, z00, Nat.le_add_right, a37]; rfl)
            simp only [vmr, vmw, vmp, ↓reduceIte, Nat.reduceBEq, Nat.reduceLT, Nat.reduceAdd, Nat.reduceEqDiff, reduceCtorEq, decide_true, decide_false, evalO, evalOs, ofValue, ofLeaf, params, tget, sub, aok, builtinV, overwrite, vlen, assignTo, settle1, settleL, newVarV, newArr, cellsAt, readT, storeAt, writeE, cellsV, vleaf, frz, frzs, refs, refsL, fitsE, binV, intOp, boolOp, nilOp, isNilS, unV, fillE, velems, callV_s, CR_some, CD, importV, import1, importL, importT, imm, immL, pureR, pureRL, shapeR, flatR, shares, sharesL, hand_cons, hand_nil, oks, vst, vmd, ty, List.all_cons, List.all_nil, List.length_cons, List.length_nil, List.drop_succ_cons, List.drop_zero, List.drop_nil, List.head?_cons, List.head?_nil, List.cons_append, List.nil_append, List.append_nil, List.getElem?_cons_zero, List.getElem?_cons_succ, List.take_succ_cons, List.take_zero, List.set_cons_zero, List.set_cons_succ, List.length_map, Bool.and_true, Bool.true_and, Bool.and_false, Bool.false_and, Bool.and_self, Bool.not_true, Bool.not_false, and_true, true_and, and_self, ne_eq, not_true_eq_false, not_false_eq_true, beq_self_eq_true, Option.isSome_none, Int.toNat_natCast, nat_nonneg, Nat.zero_add, Nat.add_zero, Nat.succ_ne_self, Nat.reduceLeDiff, Nat.reduceEqDiff, Nat.reduceMul, Nat.reduceSub, Nat.le_refl, Nat.zero_le, List.getElem?_map, List.map_nil, fillS, zipP, evalPs, List.replicate_zero, List.replicate_succ, appendV, List.isEmpty_cons, Nat.mul_zero, Nat.zero_mul, true_or, or_true, or_false, false_or, List.take_length, ite_self, z0, z1, bq1, bq2, Int.toNat_zero, z00, Nat.le_add_right, a37, g6, g7, g8, h3, hq', List.length_cons]
            refine ih l vm v7 (off + 1) (len - 1) es _ h (by omega) hl hwf hru ⟨?_, ?_, ?_, ?_, ?_, ?_, ?_, ?_, hes', by omega, hO'⟩ hx
            all_goals simp only [vmr, vmw, vmp, ↓reduceIte, Nat.reduceBEq, Nat.reduceLT, Nat.reduceAdd, Nat.reduceEqDiff, reduceCtorEq, decide_true, decide_false, evalO, evalOs, ofValue, ofLeaf, params, tget, sub, aok, builtinV, overwrite, vlen, assignTo, settle1, settleL, newVarV, newArr, cellsAt, readT, storeAt, writeE, cellsV, vleaf, frz, frzs, refs, refsL, fitsE, binV, intOp, boolOp, nilOp, isNilS, unV, fillE, velems, callV_s, CR_some, CD, importV, import1, importL, importT, imm, immL, pureR, pureRL, shapeR, flatR, shares, sharesL, hand_cons, hand_nil, oks, vst, vmd, ty, List.all_cons, List.all_nil, List.length_cons, List.length_nil, List.drop_succ_cons, List.drop_zero, List.drop_nil, List.head?_cons, List.head?_nil, List.cons_append, List.nil_append, List.append_nil, List.getElem?_cons_zero, List.getElem?_cons_succ, List.take_succ_cons, List.take_zero, List.set_cons_zero, List.set_cons_succ, List.length_map, Bool.and_true, Bool.true_and, Bool.and_false, Bool.false_and, Bool.and_self, Bool.not_true, Bool.not_false, and_true, true_and, and_self, ne_eq, not_true_eq_false, not_false_eq_true, beq_self_eq_true, Option.isSome_none, Int.toNat_natCast, nat_nonneg, Nat.zero_add, Nat.add_zero, Nat.succ_ne_self, Nat.reduceLeDiff, Nat.reduceEqDiff, Nat.reduceMul, Nat.reduceSub, Nat.le_refl, Nat.zero_le, List.getElem?_map, List.map_nil, fillS, zipP, evalPs, List.replicate_zero, List.replicate_succ, appendV, List.isEmpty_cons, Nat.mul_zero, Nat.zero_mul, true_or, or_true, or_false, false_or, List.take_length, ite_self, z0, z1, bq1, bq2, Int.toNat_zero, z00, Nat.le_add_right, a37, h0, h1, h2, h3, h6, g6, g7]
        · have hq' : ((mr.length : Int) == most) = false := by simp [hq]
          rw [if_neg hq] at h
          rcases mr with _ | ⟨y, mr⟩
          all_goals
            simp only [rv, Met.v, List.map_cons] at hge hgo
            simp only [List.length_cons, List.length_nil, z0] at hq'
            simp only [vmr, vmw, vmp, ↓reduceIte, Nat.reduceBEq, Nat.reduceLT, Nat.reduceAdd, Nat.reduceEqDiff, reduceCtorEq, decide_true, decide_false, evalO, evalOs, ofValue, ofLeaf, params, tget, sub, aok, builtinV, overwrite, vlen, assignTo, settle1, settleL, newVarV, newArr, cellsAt, readT, storeAt, writeE, cellsV, vleaf, frz, frzs, refs, refsL, fitsE, binV, intOp, boolOp, nilOp, isNilS, unV, fillE, velems, callV_s, CR_some, CD, importV, import1, importL, importT, imm, immL, pureR, pureRL, shapeR, flatR, shares, sharesL, hand_cons, hand_nil, oks, vst, vmd, ty, List.all_cons, List.all_nil, List.length_cons, List.length_nil, List.drop_succ_cons, List.drop_zero, List.drop_nil, List.head?_cons, List.head?_nil, List.cons_append, List.nil_append, List.append_nil, List.getElem?_cons_zero, List.getElem?_cons_succ, List.take_succ_cons, List.take_zero, List.set_cons_zero, List.set_cons_succ, List.length_map, Bool.and_true, Bool.true_and, Bool.and_false, Bool.false_and, Bool.and_self, Bool.not_true, Bool.not_false, and_true, true_and, and_self, ne_eq, not_true_eq_false, not_false_eq_true, beq_self_eq_true, Option.isSome_none, Int.toNat_natCast, nat_nonneg, Nat.zero_add, Nat.add_zero, Nat.succ_ne_self, Nat.reduceLeDiff, Nat.reduceEqDiff, Nat.reduceMul, Nat.reduceSub, Nat.le_refl, Nat.zero_le, List.getElem?_map, List.map_nil, fillS, zipP, evalPs, List.replicate_zero, List.replicate_succ, appendV, List.isEmpty_cons, Nat.mul_zero, Nat.zero_mul, true_or, or_true, or_false, false_or, List.take_length, ite_self, z0, z1, bq1, bq2, Int.toNat_zero, z00, Nat.le_add_right, c37, Try.f37, a37, h0, h7, h7', hc, hge, hle1, sliceA, sliceV, boundOf, onone, tn1, le01]
            refine yield_of (by decide) (hgo none _ _ (inv_heap hO)) fun L' O' c' hL hO' => ?_
            have g6 := hL 6 0 (vm, .map (entsV l)) (by simp only [vmr, vmw, vmp, ↓reduceIte, Nat.reduceBEq, Nat.reduceLT, Nat.reduceAdd, Nat.reduceEqDiff, reduceCtorEq, decide_true, decide_false, evalO, evalOs, ofValue, ofLeaf, params, tget, sub, aok, builtinV, overwrite, vlen, assignTo, settle1, settleL, newVarV, newArr, cellsAt, readT, storeAt, writeE, cellsV, vleaf, frz, frzs, refs, refsL, fitsE, binV, intOp, boolOp, nilOp, isNilS, unV, fillE, velems, callV_s, CR_some, CD, importV, import1, importL, importT, imm, immL, pureR, pureRL, shapeR, flatR, shares, sharesL, hand_cons, hand_nil, oks, vst, vmd, ty, List.all_cons, List.all_nil, List.length_cons, List.length_nil, List.drop_succ_cons, List.drop_zero, List.drop_nil, List.head?_cons, List.head?_nil, List.cons_append, List.nil_append, List.append_nil, List.getElem?_cons_zero, List.getElem?_cons_succ, List.take_succ_cons, List.take_zero, List.set_cons_zero, List.set_cons_succ, List.length_map, Bool.and_true, Bool.true_and, Bool.and_false, Bool.false_and, Bool.and_self, Bool.not_true, Bool.not_false, and_true, true_and, and_self, ne_eq, not_true_eq_false, not_false_eq_true, beq_self_eq_true, Option.isSome_none, Int.toNat_natCast, nat_nonneg, Nat.zero_add, Nat.add_zero, Nat.succ_ne_self, Nat.reduceLeDiff, Nat.reduceEqDiff, Nat.reduceMul, Nat.reduceSub, Nat.le_refl, Nat.zero_le, List.getElem?_map, List.map_nil, fillS, zipP, evalPs, List.replicate_zero, List.replicate_succ, appendV, List.isEmpty_cons, Nat.mul_zero, Nat.zero_mul, true_or, or_true, or_false, false_or, List.take_length, ite_self, z0, z1, bq1, bq2, Int.toNat_zero, z00, Nat.le_add_right, a37, h6'])
            have g7 := hL 7 0 (v7, .arr 2 es) (by simp only [vmr, vmw, vmp, ↓reduceIte, Nat.reduceBEq, Nat.reduceLT, Nat.reduceAdd, Nat.reduceEqDiff, reduceCtorEq, decide_true, decide_false, evalO, evalOs, ofValue, ofLeaf, params, tget, sub, aok, builtinV, overwrite, vlen, assignTo, settle1, settleL, newVarV, newArr, cellsAt, readT, storeAt, writeE, cellsV, vleaf, frz, frzs, refs, refsL, fitsE, binV, intOp, boolOp, nilOp, isNilS, unV, fillE, velems, callV_s, CR_some, CD, importV, import1, importL, importT, imm, immL, pureR, pureRL, shapeR, flatR, shares, sharesL, hand_cons, hand_nil, oks, vst, vmd, ty, List.all_cons, List.all_nil, List.length_cons, List.length_nil, List.drop_succ_cons, List.drop_zero, List.drop_nil, List.head?_cons, List.head?_nil, List.cons_append, List.nil_append, List.append_nil, List.getElem?_cons_zero, List.getElem?_cons_succ, List.take_succ_cons, List.take_zero, List.set_cons_zero, List.set_cons_succ, List.length_map, Bool.and_true, Bool.true_and, Bool.and_false, Bool.false_and, Bool.and_self, Bool.not_true, Bool.not_false, and_true, true_and, and_self, ne_eq, not_true_eq_false, not_false_eq_true, beq_self_eq_true, Option.isSome_none, Int.toNat_natCast, nat_nonneg, Nat.zero_add, Nat.add_zero, Nat.succ_ne_self, Nat.reduceLeDiff, Nat.reduceEqDiff, Nat.reduceMul, Nat.reduceSub, Nat.le_refl, Nat.zero_le, List.getElem?_map, List.map_nil, fillS, zipP, evalPs, List.replicate_zero, List.replicate_succ, appendV, List.isEmpty_cons, Nat.mul_zero, Nat.zero_mul, true_or, or_true, or_false, false_or, List.take_length, ite_self, z0, z1, bq1, bq2, Int.toNat_zero, z00, Nat.le_add_right, a37, h7'])
            have g8 := hL 8 0 (s.c, .var _) (by simp only [vmr, vmw, vmp, ↓reduceIte, Nat.reduceBEq, Nat.reduceLT, Nat.reduceAdd, Nat.reduceEqDiff, reduceCtorEq, decide_true, decide_false, evalO, evalOs, ofValue, ofLeaf, params, tget, sub, aok, builtinV, overwrite, vlen, assignTo, settle1, settleL, newVarV, newArr, cellsAt, readT, storeAt, writeE, cellsV, vleaf, frz, frzs, refs, refsL, fitsE, binV, intOp, boolOp, nilOp, isNilS, unV, fillE, velems, callV_s, CR_some, CD, importV, import1, importL, importT, imm, immL, pureR, pureRL, shapeR, flatR, shares, sharesL, hand_cons, hand_nil, oks, vst, vmd, ty, List.all_cons, List.all_nil, List.length_cons, List.length_nil, List.drop_succ_cons, List.drop_zero, List.drop_nil, List.head?_cons, List.head?_nil, List.cons_append, List.nil_append, List.append_nil, List.getElem?_cons_zero, List.getElem?_cons_succ, List.take_succ_cons, List.take_zero, List.set_cons_zero, List.set_cons_succ, List.length_map, Bool.and_true, Bool.true_and, Bool.and_false, Bool.false_and, Bool.and_self, Bool.not_true, Bool.not_false, and_true, true_and, and_self, ne_eq, not_true_eq_false, not_false_eq_true, beq_self_eq_true, Option.isSome_none, Int.toNat_natCast, nat_nonneg, Nat.zero_add, Nat.add_zero, Nat.succ_ne_self, Nat.reduceLeDiff, Nat.reduceEqDiff, Nat.reduceMul, Nat.reduceSub, Nat.le_refl, Nat.zero_le, List.getElem?_map, List.map_nil, fillS, zipP, evalPs, List.replicate_zero, List.replicate_succ, appendV, List.isEmpty_cons, Nat.mul_zero, Nat.zero_mul, true_or, or_true, or_false, false_or, List.take_length, ite_self, z0, z1, bq1, bq2, Int.toNat_zero, z00, Nat.le_add_right, a37]; rfl)
            simp only [vmr, vmw, vmp, ↓reduceIte, Nat.reduceBEq, Nat.reduceLT, Nat.reduceAdd, Nat.reduceEqDiff, reduceCtorEq, decide_true, decide_false, evalO, evalOs, ofValue, ofLeaf, params, tget, sub, aok, builtinV, overwrite, vlen, assignTo, settle1, settleL, newVarV, newArr, cellsAt, readT, storeAt, writeE, cellsV, vleaf, frz, frzs, refs, refsL, fitsE, binV, intOp, boolOp, nilOp, isNilS, unV, fillE, velems, callV_s, CR_some, CD, importV, import1, importL, importT, imm, immL, pureR, pureRL, shapeR, flatR, shares, sharesL, hand_cons, hand_nil, oks, vst, vmd, ty, List.all_cons, List.all_nil, List.length_cons, List.length_nil, List.drop_succ_cons, List.drop_zero, List.drop_nil, List.head?_cons, List.head?_nil, List.cons_append, List.nil_append, List.append_nil, List.getElem?_cons_zero, List.getElem?_cons_succ, List.take_succ_cons, List.take_zero, List.set_cons_zero, List.set_cons_succ, List.length_map, Bool.and_true, Bool.true_and, Bool.and_false, Bool.false_and, Bool.and_self, Bool.not_true, Bool.not_false, and_true, true_and, and_self, ne_eq, not_true_eq_false, not_false_eq_true, beq_self_eq_true, Option.isSome_none, Int.toNat_natCast, nat_nonneg, Nat.zero_add, Nat.add_zero, Nat.succ_ne_self, Nat.reduceLeDiff, Nat.reduceEqDiff, Nat.reduceMul, Nat.reduceSub, Nat.le_refl, Nat.zero_le, List.getElem?_map, List.map_nil, fillS, zipP, evalPs, List.replicate_zero, List.replicate_succ, appendV, List.isEmpty_cons, Nat.mul_zero, Nat.zero_mul, true_or, or_true, or_false, false_or, List.take_length, ite_self, z0, z1, bq1, bq2, Int.toNat_zero, z00, Nat.le_add_right, a37, g6, g7, g8, h1, h3, hq', List.length_cons]
            refine a2 _ s.c _ _ rfl (by omega) hl hwf hil ⟨?_, ?_, ?_, ?_, ?_, ?_, ?_, ?_, hes', by omega, hO'⟩ ?_ ?_ ?_ ?_ ?_ ?_ ?_
            case refine_14 =>
              intro hin
              rw [hin] at h
              simp only [Option.some.injEq] at h
              exact h.symm
            case refine_15 =>
              intro l' vm' v7' off' len' es' s1 hin hwf' hS'
              rw [hin] at h
              dsimp only at h
              have hle := innerF_len _ _ _ _ hin hl
              simp only [vmr, vmw, vmp, ↓reduceIte, Nat.reduceBEq, Nat.reduceLT, Nat.reduceAdd, Nat.reduceEqDiff, reduceCtorEq, decide_true, decide_false, evalO, evalOs, ofValue, ofLeaf, params, tget, sub, aok, builtinV, overwrite, vlen, assignTo, settle1, settleL, newVarV, newArr, cellsAt, readT, storeAt, writeE, cellsV, vleaf, frz, frzs, refs, refsL, fitsE, binV, intOp, boolOp, nilOp, isNilS, unV, fillE, velems, callV_s, CR_some, CD, importV, import1, importL, importT, imm, immL, pureR, pureRL, shapeR, flatR, shares, sharesL, hand_cons, hand_nil, oks, vst, vmd, ty, List.all_cons, List.all_nil, List.length_cons, List.length_nil, List.drop_succ_cons, List.drop_zero, List.drop_nil, List.head?_cons, List.head?_nil, List.cons_append, List.nil_append, List.append_nil, List.getElem?_cons_zero, List.getElem?_cons_succ, List.take_succ_cons, List.take_zero, List.set_cons_zero, List.set_cons_succ, List.length_map, Bool.and_true, Bool.true_and, Bool.and_false, Bool.false_and, Bool.and_self, Bool.not_true, Bool.not_false, and_true, true_and, and_self, ne_eq, not_true_eq_false, not_false_eq_true, beq_self_eq_true, Option.isSome_none, Int.toNat_natCast, nat_nonneg, Nat.zero_add, Nat.add_zero, Nat.succ_ne_self, Nat.reduceLeDiff, Nat.reduceEqDiff, Nat.reduceMul, Nat.reduceSub, Nat.le_refl, Nat.zero_le, List.getElem?_map, List.map_nil, fillS, zipP, evalPs, List.replicate_zero, List.replicate_succ, appendV, List.isEmpty_cons, Nat.mul_zero, Nat.zero_mul, true_or, or_true, or_false, false_or, List.take_length, ite_self, z0, z1, bq1, bq2, Int.toNat_zero, z00, Nat.le_add_right, a37]
              exact ih l' vm' v7' off' len' es' _ h (by omega) hle.2 hwf' (innerF_rules (by dsimp only; omega) _ _ _ _ hin hru) hS' hx
            all_goals simp only [vmr, vmw, vmp, ↓reduceIte, Nat.reduceBEq, Nat.reduceLT, Nat.reduceAdd, Nat.reduceEqDiff, reduceCtorEq, decide_true, decide_false, evalO, evalOs, ofValue, ofLeaf, params, tget, sub, aok, builtinV, overwrite, vlen, assignTo, settle1, settleL, newVarV, newArr, cellsAt, readT, storeAt, writeE, cellsV, vleaf, frz, frzs, refs, refsL, fitsE, binV, intOp, boolOp, nilOp, isNilS, unV, fillE, velems, callV_s, CR_some, CD, importV, import1, importL, importT, imm, immL, pureR, pureRL, shapeR, flatR, shares, sharesL, hand_cons, hand_nil, oks, vst, vmd, ty, List.all_cons, List.all_nil, List.length_cons, List.length_nil, List.drop_succ_cons, List.drop_zero, List.drop_nil, List.head?_cons, List.head?_nil, List.cons_append, List.nil_append, List.append_nil, List.getElem?_cons_zero, List.getElem?_cons_succ, List.take_succ_cons, List.take_zero, List.set_cons_zero, List.set_cons_succ, List.length_map, Bool.and_true, Bool.true_and, Bool.and_false, Bool.false_and, Bool.and_self, Bool.not_true, Bool.not_false, and_true, true_and, and_self, ne_eq, not_true_eq_false, not_false_eq_true, beq_self_eq_true, Option.isSome_none, Int.toNat_natCast, nat_nonneg, Nat.zero_add, Nat.add_zero, Nat.succ_ne_self, Nat.reduceLeDiff, Nat.reduceEqDiff, Nat.reduceMul, Nat.reduceSub, Nat.le_refl, Nat.zero_le, List.getElem?_map, List.map_nil, fillS, zipP, evalPs, List.replicate_zero, List.replicate_succ, appendV, List.isEmpty_cons, Nat.mul_zero, Nat.zero_mul, true_or, or_true, or_false, false_or, List.take_length, ite_self, z0, z1, bq1, bq2, Int.toNat_zero, z00, Nat.le_add_right, a37, h0, h1, h2, h3, h6, g6, g7, g8, rv, List.map_cons]
            all_goals trace_state
end Go.Vi
set_option maxRecDepth 100000
set_option maxHeartbeats 1000000
namespace Go.Vi
open Go Go.Proofs

theorem w37 {n : Nat} {p τ more most c O} (hτ : tau8 τ) (hp : p.ok) (hck : checkF p = 0) (hm : 0 ≤ more ∧ more ≤ 1000) (hn0 : 6000 < n) (hmost : 0 ≤ most ∧ most ≤ 12) (hO : inv8 (hand S8) p τ .nilS (.bool false) (I 0) .ready none O) :
    ∃ c' O' st pd, (evF (Cx (hand S8)) (n + 2)).fn 37 [.mref ⟨0, 52, 0⟩ 4, .iptr p.cs, .iptr [I more], .iptr [I most]] 1 c O = some (.ret (.tup []), c', O') ∧
      inv8 (hand S8) p τ (rv ((outerF p most 5002 0 [⟨startF p more, []⟩]).getD ([], false, 0)).1) (.bool ((outerF p most 5002 0 [⟨startF p more, []⟩]).getD ([], false, 0)).2.1) (I ((outerF p most 5002 0 [⟨startF p more, []⟩]).getD ([], false, 0)).2.2) st pd O' ∧ (st = .ready ∧ pd = none ∨ st = .done ∧ pd = some (.exit 0)) := by
  obtain ⟨res, hres⟩ := outerF_total (p := p) (most := most) 5002 0 [⟨startF p more, []⟩] (by simp) (by simp) (by omega)
  rw [hres]
  simp only [gets]
  have key : Po p τ res (R (A37 (hand S8) (n + 1)) c37 .top ⟨params 0 [.mref ⟨0, 52, 0⟩ 4, .iptr p.cs, .iptr [I more], .iptr [I most]], [], O, c⟩) := by
    obtain ⟨g1, g2, g3, _, hbe, hf0, hf1, hri, hbd⟩ := checkF_facts hck
    have a1 := fun k => @l37a n k p τ more most hτ hp hck (by omega) hmost.2 5002 0 [⟨startF p more, []⟩]
    have hsw := start_within hck hm
    have hsl := withinF_len hsw
    have e36 := F36_eq (p := p) (more := more) hp ⟨hf0, hf1⟩
    have e38 := F38_eq (st := startF p more) (by omega) (by omega)
    have hko := keyOk_key (o := startF p more) (by omega)
    have htl := take_len I (startF p more)
    have h60 := @room60 1 (by omega)
    have hwf : WFl p [⟨startF p more, []⟩] := fun m hm => by
      simp only [List.mem_singleton] at hm; subst hm; exact hsw
    simp only [sub, c37, Try.f37, gets] at a1
    simp only [vmr, vmw, vmp, ↓reduceIte, Nat.reduceBEq, Nat.reduceLT, Nat.reduceAdd, Nat.reduceEqDiff, reduceCtorEq, decide_true, decide_false, evalO, evalOs, ofValue, ofLeaf, params, tget, sub, aok, builtinV, overwrite, vlen, assignTo, settle1, settleL, newVarV, newArr, cellsAt, readT, storeAt, writeE, cellsV, vleaf, frz, frzs, refs, refsL, fitsE, binV, intOp, boolOp, nilOp, isNilS, unV, fillE, velems, callV_s, CR_some, CD, importV, import1, importL, importT, imm, immL, pureR, pureRL, shapeR, flatR, shares, sharesL, hand_cons, hand_nil, oks, vst, vmd, ty, List.all_cons, List.all_nil, List.length_cons, List.length_nil, List.drop_succ_cons, List.drop_zero, List.drop_nil, List.head?_cons, List.head?_nil, List.cons_append, List.nil_append, List.append_nil, List.getElem?_cons_zero, List.getElem?_cons_succ, List.take_succ_cons, List.take_zero, List.set_cons_zero, List.set_cons_succ, List.length_map, Bool.and_true, Bool.true_and, Bool.and_false, Bool.false_and, Bool.and_self, Bool.not_true, Bool.not_false, and_true, true_and, and_self, ne_eq, not_true_eq_false, not_false_eq_true, beq_self_eq_true, Option.isSome_none, Int.toNat_natCast, nat_nonneg, Nat.zero_add, Nat.add_zero, Nat.succ_ne_self, Nat.reduceLeDiff, Nat.reduceEqDiff, Nat.reduceMul, Nat.reduceSub, Nat.le_refl, Nat.zero_le, List.getElem?_map, List.map_nil, fillS, zipP, evalPs, List.replicate_zero, List.replicate_succ, appendV, List.isEmpty_cons, Nat.mul_zero, Nat.zero_mul, true_or, or_true, or_false, false_or, List.take_length, ite_self, z0, z1, bq1, bq2, Int.toNat_zero, z00, Nat.le_add_right, c37, Try.f37, a37, e36, e38, hko, htl, shI, pureLI, import_I, allflatI, mapPut, newMap, mput, mfind, h60, fits60, List.map_cons]
    refine a1 _ (c + 1 + 1 + 1 + 1) (c + 1 + 1 + 1 + 1 + 1 + 1) 0 1 [Met.v ⟨startF p more, []⟩] _ _ _ hres (by omega) (by simp) hwf (fun x hx => by simp only [List.mem_singleton] at hx; subst hx; simp; omega) ⟨?_, ?_, ?_, ?_, ?_, ?_, ?_, ?_, ?_, ?_, hO⟩ ?_
    all_goals simp only [vmr, vmw, vmp, ↓reduceIte, Nat.reduceBEq, Nat.reduceLT, Nat.reduceAdd, Nat.reduceEqDiff, reduceCtorEq, decide_true, decide_false, evalO, evalOs, ofValue, ofLeaf, params, tget, sub, aok, builtinV, overwrite, vlen, assignTo, settle1, settleL, newVarV, newArr, cellsAt, readT, storeAt, writeE, cellsV, vleaf, frz, frzs, refs, refsL, fitsE, binV, intOp, boolOp, nilOp, isNilS, unV, fillE, velems, callV_s, CR_some, CD, importV, import1, importL, importT, imm, immL, pureR, pureRL, shapeR, flatR, shares, sharesL, hand_cons, hand_nil, oks, vst, vmd, ty, List.all_cons, List.all_nil, List.length_cons, List.length_nil, List.drop_succ_cons, List.drop_zero, List.drop_nil, List.head?_cons, List.head?_nil, List.cons_append, List.nil_append, List.append_nil, List.getElem?_cons_zero, List.getElem?_cons_succ, List.take_succ_cons, List.take_zero, List.set_cons_zero, List.set_cons_succ, List.length_map, Bool.and_true, Bool.true_and, Bool.and_false, Bool.false_and, Bool.and_self, Bool.not_true, Bool.not_false, and_true, true_and, and_self, ne_eq, not_true_eq_false, not_false_eq_true, beq_self_eq_true, Option.isSome_none, Int.toNat_natCast, nat_nonneg, Nat.zero_add, Nat.add_zero, Nat.succ_ne_self, Nat.reduceLeDiff, Nat.reduceEqDiff, Nat.reduceMul, Nat.reduceSub, Nat.le_refl, Nat.zero_le, List.getElem?_map, List.map_nil, fillS, zipP, evalPs, List.replicate_zero, List.replicate_succ, appendV, List.isEmpty_cons, Nat.mul_zero, Nat.zero_mul, true_or, or_true, or_false, false_or, List.take_length, ite_self, z0, z1, bq1, bq2, Int.toNat_zero, z00, Nat.le_add_right, a37, rv, Met.v, List.map_cons]
    case refine_6 => rfl
    case refine_11 => intro s' h; exact ⟨s', _, _, .inl rfl, h, .inl ⟨rfl, rfl⟩⟩
  obtain ⟨s', st, pd, hr, hi, hst⟩ := key
  refine ⟨_, _, st, pd, evF_at (C := Cx (hand S8)) (n := n + 1) (fn := Try.f37) (b := c37) (s' := s') Try.func37 rfl (show 4 ≤ 91 by omega) rfl ?_, ?_, hst⟩
  · exact hr
  · unfold inv8 at hi ⊢
    simp only [lower_get, Nat.reduceLT, if_true]
    exact hi
end Go.Vi
set_option maxRecDepth 100000
set_option maxHeartbeats 1000000
namespace Go.Vi
open Go Go.Proofs

noncomputable abbrev ops13 : Array Oper := opsAt (sub [1, 0, 1, 1, 1, 1, 0] c8)
def allAt (f : Oper → Nat → Bool) : List Oper → Nat → Bool
  | [], _ => true
  | o :: r, i => f o i && allAt f r (i + 1)
theorem est_of {E : Env} {ops : Array Oper} {s : St} {i t : Nat} {p x : Operand} {k : Key} {v a b : Nat} (h : (ops[i]?).map (·.op) = some (.store t p x)) (hp : evalO s p = .ptr k v a b) : estAt E ops s i = some [k] := by
  unfold estAt
  cases ho : ops[i]? with
  | none => rw [ho] at h; cases h
  | some o =>
    rw [ho] at h
    injection h with h
    simp only [Option.bind_some, estK, h, hp]
theorem draw8 {n : Nat} {s : St} {a : V} {b : Bool} {e : Int} (hτ : tau8 s.τ) (h6 : lget s.L (6, 0) = some (1, .var [a])) (h7 : lget s.L (7, 0) = some (2, .var [.bool b])) (h8 : lget s.L (8, 0) = some (3, .var [I e]))
    (ha : a = .nilS ∨ ∃ l : List Int, a = .lst (l.map I)) :
    drawR (M8 (hand S8) n).call (M8 (hand S8) n).E (M8 (hand S8) n).C ops13 s = some ⟨tset (tset (tset s.τ 48 a) 49 (.bool b)) 50 (I e), lput (lput (lput s.L (6, 0) (1, .var [a])) (7, 0) (2, .var [.bool b])) (8, 0) (3, .var [I e]), s.O, s.c⟩ := by
  obtain ⟨t3, t6, t7, t8⟩ := hτ
  unfold drawR
  have hac : actorsOf (M8 (hand S8) n).E ops13.toList 0 = [3, 4, 5] := by kernel_rfl
  have f0 : [3, 4, 5].filter (apartI (ancTab ops13.toList []) 0) = [] := by kernel_rfl
  have f1 : [3, 4, 5].filter (apartI (ancTab ops13.toList []) 1) = [3] := by kernel_rfl
  have f2 : [3, 4, 5].filter (apartI (ancTab ops13.toList []) 2) = [3, 4] := by kernel_rfl
  have hst : allAt (fun o i => staticOk (M8 (hand S8) n).E ops13 (ancTab ops13.toList []) [3, 4, 5] o i) ops13.toList 0 = true := by kernel_rfl
  have hlk : ops13.toList.map (Oper.looksAt ops13) = [[6], [7], [8], [6, 48], [7, 49], [8, 50]] := by kernel_rfl
  rw [hac]
  generalize ancTab ops13.toList [] = T at f0 f1 f2 hst
  have q3 : estAt (M8 (hand S8) n).E ops13 s 3 = some [⟨0, 6, 0⟩] := by
    exact est_of (x := .tmp 48) (t := 22) (p := .tmp 6) (by kernel_rfl) t6
  have q4 : estAt (M8 (hand S8) n).E ops13 s 4 = some [⟨0, 7, 0⟩] := by
    exact est_of (x := .tmp 49) (t := 4) (p := .tmp 7) (by kernel_rfl) t7
  have q5 : estAt (M8 (hand S8) n).E ops13 s 5 = some [⟨0, 8, 0⟩] := by
    exact est_of (x := .tmp 50) (t := 29) (p := .tmp 8) (by kernel_rfl) t8
  have Q0 : ∀ s1, qState (M8 (hand S8) n).E ops13 T [3, 4, 5] s s1 0 = ⟨s1.τ, s1.L, s1.O, s1.c + slack⟩ := fun s1 => by
    unfold qState; rw [f0]; rfl
  have Q1 : ∀ s1, qState (M8 (hand S8) n).E ops13 T [3, 4, 5] s s1 1 = ⟨s1.τ, ldel s1.L (6, 0), s1.O, s1.c + slack⟩ := fun s1 => by
    unfold qState; rw [f1]; simp only [gatherK, q3]; rfl
  have Q2 : ∀ s1, qState (M8 (hand S8) n).E ops13 T [3, 4, 5] s s1 2 = ⟨s1.τ, ldel (ldel s1.L (6, 0)) (7, 0), s1.O, s1.c + slack⟩ := fun s1 => by
    unfold qState; rw [f2]; simp only [gatherK, q3, q4]; rfl
  simp only [ops13, sub, c8, Try.f8, gets, opsAt, allAt, Bool.and_eq_true, List.map_cons, List.map_nil, List.cons.injEq, Nat.zero_add, Nat.reduceAdd, and_true] at hst hlk q3 q4 q5 Q0 Q1 Q2 ⊢
  obtain ⟨s0, s1, s2, s3, s4, s5⟩ := hst
  obtain ⟨l0, l1, l2, l3, l4, l5⟩ := hlk
  rcases ha with rfl | ⟨l, rfl⟩
  all_goals
    simp only [vmr, vmw, vmp, ↓reduceIte, Nat.reduceBEq, Nat.reduceLT, Nat.reduceAdd, Nat.reduceEqDiff, reduceCtorEq, decide_true, decide_false, evalO, evalOs, ofValue, ofLeaf, params, tget, sub, aok, builtinV, overwrite, vlen, assignTo, settle1, settleL, newVarV, newArr, cellsAt, readT, storeAt, writeE, cellsV, vleaf, frz, frzs, refs, refsL, fitsE, binV, intOp, boolOp, nilOp, isNilS, unV, fillE, velems, callV_s, CR_some, CD, importV, import1, importL, importT, imm, immL, pureR, pureRL, shapeR, flatR, shares, sharesL, hand_cons, hand_nil, oks, vst, vmd, ty, List.all_cons, List.all_nil, List.length_cons, List.length_nil, List.drop_succ_cons, List.drop_zero, List.drop_nil, List.head?_cons, List.head?_nil, List.cons_append, List.nil_append, List.append_nil, List.getElem?_cons_zero, List.getElem?_cons_succ, List.take_succ_cons, List.take_zero, List.set_cons_zero, List.set_cons_succ, List.length_map, Bool.and_true, Bool.true_and, Bool.and_false, Bool.false_and, Bool.and_self, Bool.not_true, Bool.not_false, and_true, true_and, and_self, ne_eq, not_true_eq_false, not_false_eq_true, beq_self_eq_true, Option.isSome_none, Int.toNat_natCast, nat_nonneg, Nat.zero_add, Nat.add_zero, Nat.succ_ne_self, Nat.reduceLeDiff, Nat.reduceEqDiff, Nat.reduceMul, Nat.reduceSub, Nat.le_refl, Nat.zero_le, List.getElem?_map, List.map_nil, fillS, zipP, evalPs, List.replicate_zero, List.replicate_succ, appendV, List.isEmpty_cons, Nat.mul_zero, Nat.zero_mul, true_or, or_true, or_false, false_or, List.take_length, ite_self, z0, z1, bq1, bq2, Int.toNat_zero, z00, Nat.le_add_right, drawOps, s0, s1, s2, s3, s4, s5, l0, l1, l2, l3, l4, l5, wantedV, focus, fget, m8, qop, quietK, Q0, Q1, Q2, q3, q4, q5, aop, t6, t7, t8, h6, h7, h8, setD, touchOk, List.contains_cons, List.isEmpty_nil, Bool.or_true]
end Go.Vi
set_option maxRecDepth 100000
set_option maxHeartbeats 1000000
namespace Go.Vi
open Go Go.Proofs

theorem range8 {n : Nat} {k : K} {s : St} {p more most res} (hp : p.ok) (hck : checkF p = 0) (hm : 0 ≤ more ∧ more ≤ 1000) (hn0 : 6000 < n) (hmost : 0 ≤ most ∧ most ≤ 12)
    (hres : outerF p most 5002 0 [⟨startF p more, []⟩] = some res) (hτ : tau8 s.τ) (h34 : tget s.τ 34 = .fn (.func 37) [] [.iptr p.cs, .iptr [I more], .iptr [I most]]) (hc : s.c = 4)
    (h3 : lget s.L (3, 0) = some (0, .var p.cs)) (h6 : lget s.L (6, 0) = some (1, .var [.nilS])) (h7 : lget s.L (7, 0) = some (2, .var [.bool false])) (h8 : lget s.L (8, 0) = some (3, .var [I 0])) {P : Option (Ex × St) → Prop}
    (h : ∀ s' : St, s'.τ = s.τ → lget s'.L (6, 0) = some (1, .var [rv res.1]) → lget s'.L (7, 0) = some (2, .var [.bool res.2.1]) → lget s'.L (8, 0) = some (3, .var [I res.2.2]) → P (X (M8 (hand S8) (n + 2)) .norm k s')) :
    P (R (M8 (hand S8) (n + 2)) (.rangeFunc (.tmp 34) #[35, 36] as8 bd8) (.blk 0 k) s) := by
  obtain ⟨τ, L, O, c⟩ := s
  dsimp only at hτ h34 hc h3 h6 h7 h8 h
  subst hc
  have hO : inv8 (hand S8) p τ .nilS (.bool false) (I 0) .ready none (heapOf 0 (lput L (52, 0) (4, .loop (lp8 (hand S8)) τ [35, 36] as8 bd8 .ready none)) O) := by
    unfold inv8
    simp only [heapOf_get, if_true, lget_lput, pair_eq, Nat.reduceEqDiff, false_and, if_false, and_self, h3, h6, h7, h8]
  obtain ⟨c', O', st, pd, hcall, hi, hst⟩ := w37 (n := n) (c := 5) hτ hp hck hm hn0 hmost hO
  rw [hres] at hi
  simp only [gets] at hi
  obtain ⟨i1, i2, i3, i4, i5⟩ := hi
  have key : ∀ e, jumpEx pd = some e → R (M8 (hand S8) (n + 2)) (.rangeFunc (.tmp 34) #[35, 36] as8 bd8) (.blk 0 k) ⟨τ, L, O, 4⟩ = X (M8 (hand S8) (n + 2)) e (.blk 0 k) _ := fun e he =>
    R_range (M := M8 (hand S8) (n + 2)) (g := 37) (first := []) (c' := c') (O' := O') h34 (show okL.contains 37 = true by decide) rfl hcall i1 (by rcases hst with ⟨rfl, _⟩ | ⟨rfl, _⟩ <;> simp) he
  have hg : ∀ (sl v : Nat) (x y : Nat × Obj), sl ≠ 52 → lget L (sl, 0) = some x → O' ⟨0, sl, 0⟩ = some y → lget ((back (M8 (hand S8) (n + 2)).E ⟨τ, lput L (52, 0) (4, .loop (lp8 (hand S8)) τ [35, 36] as8 bd8 .ready none), O, 5⟩ c' O').del (M8 (hand S8) (n + 2)).E ⟨0, 52, 0⟩).L (sl, 0) = some y := by
    intro sl v x y hs hx hy
    have hb := back_get (E := (M8 (hand S8) (n + 2)).E) (s := ⟨τ, lput L (52, 0) (4, .loop (lp8 (hand S8)) τ [35, 36] as8 bd8 .ready none), O, 5⟩) (c' := c') (O' := O') (sl := sl) (off := 0) (x := x) (y := y)
      (by show lget (lput L (52, 0) _) (sl, 0) = some x; rw [lget_lput, if_neg (by simp [hs]), hx]) hy
    rw [del_s (show 0 = (M8 (hand S8) (n + 2)).E.lvl from rfl)]
    show lget (ldel _ (52, 0)) (sl, 0) = some y
    rw [lget_ldel, if_neg (by simp [hs])]
    exact hb
  have g6 := hg 6 1 _ _ (by omega) h6 i3
  have g7 := hg 7 1 _ _ (by omega) h7 i4
  have g8 := hg 8 1 _ _ (by omega) h8 i5
  rcases hst with ⟨_, rfl⟩ | ⟨_, rfl⟩
  · rw [key .norm rfl, X_blk]
    exact h _ rfl g6 g7 g8
  · rw [key (.exit 0) rfl, X_blk_exit, if_pos rfl]
    exact h _ rfl g6 g7 g8
theorem R_drawn {M : Mc} {k : K} {s s' : St} {id : Nat} {ops : Array Oper} (h : drawR M.call M.E M.C ops s = some s') : R M (.region id ops true) k s = X M .norm k ⟨tkeep s'.τ M.E.keep, lkeep s'.L M.E.keep, s'.O, s'.c⟩ := by
  unfold R X evM
  conv => lhs; unfold evC
  rw [h]
  rfl
def FinIs (M : Mc) (rs : List ResultVar) (v : COut) (r : Option (Ex × St)) : Prop := Fin M rs r = some v
theorem searchF_pure (x : List Int × Bool × Int) : pureR (srV x) = true := by
  obtain ⟨r, b, e⟩ := x
  cases r <;> rfl
theorem w8 (p : Prot) (more most : Int) (hp : p.ok) : SoundPure Try.prog 8 [p.v, I more, I most] (.ret (srV (searchF p more most))) := by
  refine s8 hS8 6003 (by simp) (searchF_pure _) ?_
  have e14 := F14_eq hp
  have e21 := F21_eq p more most
  simp only [c8, Try.f8, gets]
  unfold searchF
  by_cases q1 : checkF p = 0
  · rw [if_neg (by simp [q1])]
    rw [q1] at e14
    by_cases q2 : more < 0
    · rw [if_pos (.inl q2)]
      have q2' := eq_true q2
      simp only [vmr, vmw, vmp, ↓reduceIte, Nat.reduceBEq, Nat.reduceLT, Nat.reduceAdd, Nat.reduceEqDiff, reduceCtorEq, decide_true, decide_false, evalO, evalOs, ofValue, ofLeaf, params, tget, sub, aok, builtinV, overwrite, vlen, assignTo, settle1, settleL, newVarV, newArr, cellsAt, readT, storeAt, writeE, cellsV, vleaf, frz, frzs, refs, refsL, fitsE, binV, intOp, boolOp, nilOp, isNilS, unV, fillE, velems, callV_s, CR_some, CD, importV, import1, importL, importT, imm, immL, pureR, pureRL, shapeR, flatR, shares, sharesL, hand_cons, hand_nil, oks, vst, vmd, ty, List.all_cons, List.all_nil, List.length_cons, List.length_nil, List.drop_succ_cons, List.drop_zero, List.drop_nil, List.head?_cons, List.head?_nil, List.cons_append, List.nil_append, List.append_nil, List.getElem?_cons_zero, List.getElem?_cons_succ, List.take_succ_cons, List.take_zero, List.set_cons_zero, List.set_cons_succ, List.length_map, Bool.and_true, Bool.true_and, Bool.and_false, Bool.false_and, Bool.and_self, Bool.not_true, Bool.not_false, and_true, true_and, and_self, ne_eq, not_true_eq_false, not_false_eq_true, beq_self_eq_true, Option.isSome_none, Int.toNat_natCast, nat_nonneg, Nat.zero_add, Nat.add_zero, Nat.succ_ne_self, Nat.reduceLeDiff, Nat.reduceEqDiff, Nat.reduceMul, Nat.reduceSub, Nat.le_refl, Nat.zero_le, List.getElem?_map, List.map_nil, fillS, zipP, evalPs, List.replicate_zero, List.replicate_succ, appendV, List.isEmpty_cons, Nat.mul_zero, Nat.zero_mul, true_or, or_true, or_false, false_or, List.take_length, ite_self, z0, z1, bq1, bq2, Int.toNat_zero, z00, Nat.le_add_right, Fin_ret, Fin_nrm, Fin_pan, X_top, resV, exports, nodupK, exportT, exportA, exportL, export1, tupV, List.contains_nil, m8, e14, n00, q2', rv]
      rfl
    have q2' := eq_false q2
    by_cases q3 : more > 1000
    · rw [if_pos (.inr q3)]
      have q3' := eq_true q3
      simp only [vmr, vmw, vmp, ↓reduceIte, Nat.reduceBEq, Nat.reduceLT, Nat.reduceAdd, Nat.reduceEqDiff, reduceCtorEq, decide_true, decide_false, evalO, evalOs, ofValue, ofLeaf, params, tget, sub, aok, builtinV, overwrite, vlen, assignTo, settle1, settleL, newVarV, newArr, cellsAt, readT, storeAt, writeE, cellsV, vleaf, frz, frzs, refs, refsL, fitsE, binV, intOp, boolOp, nilOp, isNilS, unV, fillE, velems, callV_s, CR_some, CD, importV, import1, importL, importT, imm, immL, pureR, pureRL, shapeR, flatR, shares, sharesL, hand_cons, hand_nil, oks, vst, vmd, ty, List.all_cons, List.all_nil, List.length_cons, List.length_nil, List.drop_succ_cons, List.drop_zero, List.drop_nil, List.head?_cons, List.head?_nil, List.cons_append, List.nil_append, List.append_nil, List.getElem?_cons_zero, List.getElem?_cons_succ, List.take_succ_cons, List.take_zero, List.set_cons_zero, List.set_cons_succ, List.length_map, Bool.and_true, Bool.true_and, Bool.and_false, Bool.false_and, Bool.and_self, Bool.not_true, Bool.not_false, and_true, true_and, and_self, ne_eq, not_true_eq_false, not_false_eq_true, beq_self_eq_true, Option.isSome_none, Int.toNat_natCast, nat_nonneg, Nat.zero_add, Nat.add_zero, Nat.succ_ne_self, Nat.reduceLeDiff, Nat.reduceEqDiff, Nat.reduceMul, Nat.reduceSub, Nat.le_refl, Nat.zero_le, List.getElem?_map, List.map_nil, fillS, zipP, evalPs, List.replicate_zero, List.replicate_succ, appendV, List.isEmpty_cons, Nat.mul_zero, Nat.zero_mul, true_or, or_true, or_false, false_or, List.take_length, ite_self, z0, z1, bq1, bq2, Int.toNat_zero, z00, Nat.le_add_right, Fin_ret, Fin_nrm, Fin_pan, X_top, resV, exports, nodupK, exportT, exportA, exportL, export1, tupV, List.contains_nil, m8, e14, n00, q2', q3', rv]
      rfl
    have q3' := eq_false q3
    rw [if_neg (by omega)]
    by_cases q4 : most < 0
    · rw [if_pos (.inl q4)]
      have q4' := eq_true q4
      simp only [vmr, vmw, vmp, ↓reduceIte, Nat.reduceBEq, Nat.reduceLT, Nat.reduceAdd, Nat.reduceEqDiff, reduceCtorEq, decide_true, decide_false, evalO, evalOs, ofValue, ofLeaf, params, tget, sub, aok, builtinV, overwrite, vlen, assignTo, settle1, settleL, newVarV, newArr, cellsAt, readT, storeAt, writeE, cellsV, vleaf, frz, frzs, refs, refsL, fitsE, binV, intOp, boolOp, nilOp, isNilS, unV, fillE, velems, callV_s, CR_some, CD, importV, import1, importL, importT, imm, immL, pureR, pureRL, shapeR, flatR, shares, sharesL, hand_cons, hand_nil, oks, vst, vmd, ty, List.all_cons, List.all_nil, List.length_cons, List.length_nil, List.drop_succ_cons, List.drop_zero, List.drop_nil, List.head?_cons, List.head?_nil, List.cons_append, List.nil_append, List.append_nil, List.getElem?_cons_zero, List.getElem?_cons_succ, List.take_succ_cons, List.take_zero, List.set_cons_zero, List.set_cons_succ, List.length_map, Bool.and_true, Bool.true_and, Bool.and_false, Bool.false_and, Bool.and_self, Bool.not_true, Bool.not_false, and_true, true_and, and_self, ne_eq, not_true_eq_false, not_false_eq_true, beq_self_eq_true, Option.isSome_none, Int.toNat_natCast, nat_nonneg, Nat.zero_add, Nat.add_zero, Nat.succ_ne_self, Nat.reduceLeDiff, Nat.reduceEqDiff, Nat.reduceMul, Nat.reduceSub, Nat.le_refl, Nat.zero_le, List.getElem?_map, List.map_nil, fillS, zipP, evalPs, List.replicate_zero, List.replicate_succ, appendV, List.isEmpty_cons, Nat.mul_zero, Nat.zero_mul, true_or, or_true, or_false, false_or, List.take_length, ite_self, z0, z1, bq1, bq2, Int.toNat_zero, z00, Nat.le_add_right, Fin_ret, Fin_nrm, Fin_pan, X_top, resV, exports, nodupK, exportT, exportA, exportL, export1, tupV, List.contains_nil, m8, e14, n00, q2', q3', q4', rv]
      rfl
    have q4' := eq_false q4
    by_cases q5 : most > 12
    · rw [if_pos (.inr q5)]
      have q5' := eq_true q5
      simp only [vmr, vmw, vmp, ↓reduceIte, Nat.reduceBEq, Nat.reduceLT, Nat.reduceAdd, Nat.reduceEqDiff, reduceCtorEq, decide_true, decide_false, evalO, evalOs, ofValue, ofLeaf, params, tget, sub, aok, builtinV, overwrite, vlen, assignTo, settle1, settleL, newVarV, newArr, cellsAt, readT, storeAt, writeE, cellsV, vleaf, frz, frzs, refs, refsL, fitsE, binV, intOp, boolOp, nilOp, isNilS, unV, fillE, velems, callV_s, CR_some, CD, importV, import1, importL, importT, imm, immL, pureR, pureRL, shapeR, flatR, shares, sharesL, hand_cons, hand_nil, oks, vst, vmd, ty, List.all_cons, List.all_nil, List.length_cons, List.length_nil, List.drop_succ_cons, List.drop_zero, List.drop_nil, List.head?_cons, List.head?_nil, List.cons_append, List.nil_append, List.append_nil, List.getElem?_cons_zero, List.getElem?_cons_succ, List.take_succ_cons, List.take_zero, List.set_cons_zero, List.set_cons_succ, List.length_map, Bool.and_true, Bool.true_and, Bool.and_false, Bool.false_and, Bool.and_self, Bool.not_true, Bool.not_false, and_true, true_and, and_self, ne_eq, not_true_eq_false, not_false_eq_true, beq_self_eq_true, Option.isSome_none, Int.toNat_natCast, nat_nonneg, Nat.zero_add, Nat.add_zero, Nat.succ_ne_self, Nat.reduceLeDiff, Nat.reduceEqDiff, Nat.reduceMul, Nat.reduceSub, Nat.le_refl, Nat.zero_le, List.getElem?_map, List.map_nil, fillS, zipP, evalPs, List.replicate_zero, List.replicate_succ, appendV, List.isEmpty_cons, Nat.mul_zero, Nat.zero_mul, true_or, or_true, or_false, false_or, List.take_length, ite_self, z0, z1, bq1, bq2, Int.toNat_zero, z00, Nat.le_add_right, Fin_ret, Fin_nrm, Fin_pan, X_top, resV, exports, nodupK, exportT, exportA, exportL, export1, tupV, List.contains_nil, m8, e14, n00, q2', q3', q4', q5', rv]
      rfl
    have q5' := eq_false q5
    rw [if_neg (by omega)]
    obtain ⟨res, hres⟩ := outerF_total (p := p) (most := most) 5002 0 [⟨startF p more, []⟩] (by simp) (by simp) (by omega)
    rw [hres]
    have a8 := fun k s => @range8 6001 k s p more most res hp q1 (by omega) (by omega) (by omega) hres
    have d8 := fun s a => @draw8 6003 s a res.2.1 res.2.2
    simp only [as8, bd8, rfA, sub, c8, Try.f8, gets, ops13, opsAt] at a8 d8
    simp only [vmr, vmw, vmp, ↓reduceIte, Nat.reduceBEq, Nat.reduceLT, Nat.reduceAdd, Nat.reduceEqDiff, reduceCtorEq, decide_true, decide_false, evalO, evalOs, ofValue, ofLeaf, params, tget, sub, aok, builtinV, overwrite, vlen, assignTo, settle1, settleL, newVarV, newArr, cellsAt, readT, storeAt, writeE, cellsV, vleaf, frz, frzs, refs, refsL, fitsE, binV, intOp, boolOp, nilOp, isNilS, unV, fillE, velems, callV_s, CR_some, CD, importV, import1, importL, importT, imm, immL, pureR, pureRL, shapeR, flatR, shares, sharesL, hand_cons, hand_nil, oks, vst, vmd, ty, List.all_cons, List.all_nil, List.length_cons, List.length_nil, List.drop_succ_cons, List.drop_zero, List.drop_nil, List.head?_cons, List.head?_nil, List.cons_append, List.nil_append, List.append_nil, List.getElem?_cons_zero, List.getElem?_cons_succ, List.take_succ_cons, List.take_zero, List.set_cons_zero, List.set_cons_succ, List.length_map, Bool.and_true, Bool.true_and, Bool.and_false, Bool.false_and, Bool.and_self, Bool.not_true, Bool.not_false, and_true, true_and, and_self, ne_eq, not_true_eq_false, not_false_eq_true, beq_self_eq_true, Option.isSome_none, Int.toNat_natCast, nat_nonneg, Nat.zero_add, Nat.add_zero, Nat.succ_ne_self, Nat.reduceLeDiff, Nat.reduceEqDiff, Nat.reduceMul, Nat.reduceSub, Nat.le_refl, Nat.zero_le, List.getElem?_map, List.map_nil, fillS, zipP, evalPs, List.replicate_zero, List.replicate_succ, appendV, List.isEmpty_cons, Nat.mul_zero, Nat.zero_mul, true_or, or_true, or_false, false_or, List.take_length, ite_self, z0, z1, bq1, bq2, Int.toNat_zero, z00, Nat.le_add_right, m8, e14, e21, n00, q2', q3', q4', q5']
    refine (?_ : FinIs (M8 (hand S8) 6003) _ _ _)
    refine a8 _ _ ⟨?_, ?_, ?_, ?_⟩ ?_ rfl ?_ ?_ ?_ ?_ ?_
    case refine_10 =>
      intro s' hτ h6 h7 h8
      have ht : tau8 s'.τ := by rw [hτ]; exact ⟨by simp only [vmr, vmw, vmp, ↓reduceIte, Nat.reduceBEq, Nat.reduceLT, Nat.reduceAdd, Nat.reduceEqDiff, reduceCtorEq, decide_true, decide_false, evalO, evalOs, ofValue, ofLeaf, params, tget, sub, aok, builtinV, overwrite, vlen, assignTo, settle1, settleL, newVarV, newArr, cellsAt, readT, storeAt, writeE, cellsV, vleaf, frz, frzs, refs, refsL, fitsE, binV, intOp, boolOp, nilOp, isNilS, unV, fillE, velems, callV_s, CR_some, CD, importV, import1, importL, importT, imm, immL, pureR, pureRL, shapeR, flatR, shares, sharesL, hand_cons, hand_nil, oks, vst, vmd, ty, List.all_cons, List.all_nil, List.length_cons, List.length_nil, List.drop_succ_cons, List.drop_zero, List.drop_nil, List.head?_cons, List.head?_nil, List.cons_append, List.nil_append, List.append_nil, List.getElem?_cons_zero, List.getElem?_cons_succ, List.take_succ_cons, List.take_zero, List.set_cons_zero, List.set_cons_succ, List.length_map, Bool.and_true, Bool.true_and, Bool.and_false, Bool.false_and, Bool.and_self, Bool.not_true, Bool.not_false, and_true, true_and, and_self, ne_eq, not_true_eq_false, not_false_eq_true, beq_self_eq_true, Option.isSome_none, Int.toNat_natCast, nat_nonneg, Nat.zero_add, Nat.add_zero, Nat.succ_ne_self, Nat.reduceLeDiff, Nat.reduceEqDiff, Nat.reduceMul, Nat.reduceSub, Nat.le_refl, Nat.zero_le, List.getElem?_map, List.map_nil, fillS, zipP, evalPs, List.replicate_zero, List.replicate_succ, appendV, List.isEmpty_cons, Nat.mul_zero, Nat.zero_mul, true_or, or_true, or_false, false_or, List.take_length, ite_self, z0, z1, bq1, bq2, Int.toNat_zero, z00, Nat.le_add_right, m8], by simp only [vmr, vmw, vmp, ↓reduceIte, Nat.reduceBEq, Nat.reduceLT, Nat.reduceAdd, Nat.reduceEqDiff, reduceCtorEq, decide_true, decide_false, evalO, evalOs, ofValue, ofLeaf, params, tget, sub, aok, builtinV, overwrite, vlen, assignTo, settle1, settleL, newVarV, newArr, cellsAt, readT, storeAt, writeE, cellsV, vleaf, frz, frzs, refs, refsL, fitsE, binV, intOp, boolOp, nilOp, isNilS, unV, fillE, velems, callV_s, CR_some, CD, importV, import1, importL, importT, imm, immL, pureR, pureRL, shapeR, flatR, shares, sharesL, hand_cons, hand_nil, oks, vst, vmd, ty, List.all_cons, List.all_nil, List.length_cons, List.length_nil, List.drop_succ_cons, List.drop_zero, List.drop_nil, List.head?_cons, List.head?_nil, List.cons_append, List.nil_append, List.append_nil, List.getElem?_cons_zero, List.getElem?_cons_succ, List.take_succ_cons, List.take_zero, List.set_cons_zero, List.set_cons_succ, List.length_map, Bool.and_true, Bool.true_and, Bool.and_false, Bool.false_and, Bool.and_self, Bool.not_true, Bool.not_false, and_true, true_and, and_self, ne_eq, not_true_eq_false, not_false_eq_true, beq_self_eq_true, Option.isSome_none, Int.toNat_natCast, nat_nonneg, Nat.zero_add, Nat.add_zero, Nat.succ_ne_self, Nat.reduceLeDiff, Nat.reduceEqDiff, Nat.reduceMul, Nat.reduceSub, Nat.le_refl, Nat.zero_le, List.getElem?_map, List.map_nil, fillS, zipP, evalPs, List.replicate_zero, List.replicate_succ, appendV, List.isEmpty_cons, Nat.mul_zero, Nat.zero_mul, true_or, or_true, or_false, false_or, List.take_length, ite_self, z0, z1, bq1, bq2, Int.toNat_zero, z00, Nat.le_add_right, m8], by simp only [vmr, vmw, vmp, ↓reduceIte, Nat.reduceBEq, Nat.reduceLT, Nat.reduceAdd, Nat.reduceEqDiff, reduceCtorEq, decide_true, decide_false, evalO, evalOs, ofValue, ofLeaf, params, tget, sub, aok, builtinV, overwrite, vlen, assignTo, settle1, settleL, newVarV, newArr, cellsAt, readT, storeAt, writeE, cellsV, vleaf, frz, frzs, refs, refsL, fitsE, binV, intOp, boolOp, nilOp, isNilS, unV, fillE, velems, callV_s, CR_some, CD, importV, import1, importL, importT, imm, immL, pureR, pureRL, shapeR, flatR, shares, sharesL, hand_cons, hand_nil, oks, vst, vmd, ty, List.all_cons, List.all_nil, List.length_cons, List.length_nil, List.drop_succ_cons, List.drop_zero, List.drop_nil, List.head?_cons, List.head?_nil, List.cons_append, List.nil_append, List.append_nil, List.getElem?_cons_zero, List.getElem?_cons_succ, List.take_succ_cons, List.take_zero, List.set_cons_zero, List.set_cons_succ, List.length_map, Bool.and_true, Bool.true_and, Bool.and_false, Bool.false_and, Bool.and_self, Bool.not_true, Bool.not_false, and_true, true_and, and_self, ne_eq, not_true_eq_false, not_false_eq_true, beq_self_eq_true, Option.isSome_none, Int.toNat_natCast, nat_nonneg, Nat.zero_add, Nat.add_zero, Nat.succ_ne_self, Nat.reduceLeDiff, Nat.reduceEqDiff, Nat.reduceMul, Nat.reduceSub, Nat.le_refl, Nat.zero_le, List.getElem?_map, List.map_nil, fillS, zipP, evalPs, List.replicate_zero, List.replicate_succ, appendV, List.isEmpty_cons, Nat.mul_zero, Nat.zero_mul, true_or, or_true, or_false, false_or, List.take_length, ite_self, z0, z1, bq1, bq2, Int.toNat_zero, z00, Nat.le_add_right, m8], by simp only [vmr, vmw, vmp, ↓reduceIte, Nat.reduceBEq, Nat.reduceLT, Nat.reduceAdd, Nat.reduceEqDiff, reduceCtorEq, decide_true, decide_false, evalO, evalOs, ofValue, ofLeaf, params, tget, sub, aok, builtinV, overwrite, vlen, assignTo, settle1, settleL, newVarV, newArr, cellsAt, readT, storeAt, writeE, cellsV, vleaf, frz, frzs, refs, refsL, fitsE, binV, intOp, boolOp, nilOp, isNilS, unV, fillE, velems, callV_s, CR_some, CD, importV, import1, importL, importT, imm, immL, pureR, pureRL, shapeR, flatR, shares, sharesL, hand_cons, hand_nil, oks, vst, vmd, ty, List.all_cons, List.all_nil, List.length_cons, List.length_nil, List.drop_succ_cons, List.drop_zero, List.drop_nil, List.head?_cons, List.head?_nil, List.cons_append, List.nil_append, List.append_nil, List.getElem?_cons_zero, List.getElem?_cons_succ, List.take_succ_cons, List.take_zero, List.set_cons_zero, List.set_cons_succ, List.length_map, Bool.and_true, Bool.true_and, Bool.and_false, Bool.false_and, Bool.and_self, Bool.not_true, Bool.not_false, and_true, true_and, and_self, ne_eq, not_true_eq_false, not_false_eq_true, beq_self_eq_true, Option.isSome_none, Int.toNat_natCast, nat_nonneg, Nat.zero_add, Nat.add_zero, Nat.succ_ne_self, Nat.reduceLeDiff, Nat.reduceEqDiff, Nat.reduceMul, Nat.reduceSub, Nat.le_refl, Nat.zero_le, List.getElem?_map, List.map_nil, fillS, zipP, evalPs, List.replicate_zero, List.replicate_succ, appendV, List.isEmpty_cons, Nat.mul_zero, Nat.zero_mul, true_or, or_true, or_false, false_or, List.take_length, ite_self, z0, z1, bq1, bq2, Int.toNat_zero, z00, Nat.le_add_right, m8]⟩
      have hd := d8 s' _ ht h6 h7 h8 (rv_cases _)
      obtain ⟨t3, t6, t7, t8⟩ := ht
      rw [X_seq, R_seq, R_drawn hd]
      unfold FinIs
      rcases res with ⟨_ | ⟨y, r⟩, b, e⟩
      all_goals
        simp only [vmr, vmw, vmp, ↓reduceIte, Nat.reduceBEq, Nat.reduceLT, Nat.reduceAdd, Nat.reduceEqDiff, reduceCtorEq, decide_true, decide_false, evalO, evalOs, ofValue, ofLeaf, params, tget, sub, aok, builtinV, overwrite, vlen, assignTo, settle1, settleL, newVarV, newArr, cellsAt, readT, storeAt, writeE, cellsV, vleaf, frz, frzs, refs, refsL, fitsE, binV, intOp, boolOp, nilOp, isNilS, unV, fillE, velems, callV_s, CR_some, CD, importV, import1, importL, importT, imm, immL, pureR, pureRL, shapeR, flatR, shares, sharesL, hand_cons, hand_nil, oks, vst, vmd, ty, List.all_cons, List.all_nil, List.length_cons, List.length_nil, List.drop_succ_cons, List.drop_zero, List.drop_nil, List.head?_cons, List.head?_nil, List.cons_append, List.nil_append, List.append_nil, List.getElem?_cons_zero, List.getElem?_cons_succ, List.take_succ_cons, List.take_zero, List.set_cons_zero, List.set_cons_succ, List.length_map, Bool.and_true, Bool.true_and, Bool.and_false, Bool.false_and, Bool.and_self, Bool.not_true, Bool.not_false, and_true, true_and, and_self, ne_eq, not_true_eq_false, not_false_eq_true, beq_self_eq_true, Option.isSome_none, Int.toNat_natCast, nat_nonneg, Nat.zero_add, Nat.add_zero, Nat.succ_ne_self, Nat.reduceLeDiff, Nat.reduceEqDiff, Nat.reduceMul, Nat.reduceSub, Nat.le_refl, Nat.zero_le, List.getElem?_map, List.map_nil, fillS, zipP, evalPs, List.replicate_zero, List.replicate_succ, appendV, List.isEmpty_cons, Nat.mul_zero, Nat.zero_mul, true_or, or_true, or_false, false_or, List.take_length, ite_self, z0, z1, bq1, bq2, Int.toNat_zero, z00, Nat.le_add_right, Fin_ret, Fin_nrm, Fin_pan, X_top, resV, exports, nodupK, exportT, exportA, exportL, export1, tupV, List.contains_nil, m8, t6, t7, t8, rv, srV, List.map_cons]
    all_goals simp only [vmr, vmw, vmp, ↓reduceIte, Nat.reduceBEq, Nat.reduceLT, Nat.reduceAdd, Nat.reduceEqDiff, reduceCtorEq, decide_true, decide_false, evalO, evalOs, ofValue, ofLeaf, params, tget, sub, aok, builtinV, overwrite, vlen, assignTo, settle1, settleL, newVarV, newArr, cellsAt, readT, storeAt, writeE, cellsV, vleaf, frz, frzs, refs, refsL, fitsE, binV, intOp, boolOp, nilOp, isNilS, unV, fillE, velems, callV_s, CR_some, CD, importV, import1, importL, importT, imm, immL, pureR, pureRL, shapeR, flatR, shares, sharesL, hand_cons, hand_nil, oks, vst, vmd, ty, List.all_cons, List.all_nil, List.length_cons, List.length_nil, List.drop_succ_cons, List.drop_zero, List.drop_nil, List.head?_cons, List.head?_nil, List.cons_append, List.nil_append, List.append_nil, List.getElem?_cons_zero, List.getElem?_cons_succ, List.take_succ_cons, List.take_zero, List.set_cons_zero, List.set_cons_succ, List.length_map, Bool.and_true, Bool.true_and, Bool.and_false, Bool.false_and, Bool.and_self, Bool.not_true, Bool.not_false, and_true, true_and, and_self, ne_eq, not_true_eq_false, not_false_eq_true, beq_self_eq_true, Option.isSome_none, Int.toNat_natCast, nat_nonneg, Nat.zero_add, Nat.add_zero, Nat.succ_ne_self, Nat.reduceLeDiff, Nat.reduceEqDiff, Nat.reduceMul, Nat.reduceSub, Nat.le_refl, Nat.zero_le, List.getElem?_map, List.map_nil, fillS, zipP, evalPs, List.replicate_zero, List.replicate_succ, appendV, List.isEmpty_cons, Nat.mul_zero, Nat.zero_mul, true_or, or_true, or_false, false_or, List.take_length, ite_self, z0, z1, bq1, bq2, Int.toNat_zero, z00, Nat.le_add_right, m8]
  · have q1' : (checkF p != 0) = true := by simp [q1]
    rw [if_pos (by simpa using q1)]
    simp only [vmr, vmw, vmp, ↓reduceIte, Nat.reduceBEq, Nat.reduceLT, Nat.reduceAdd, Nat.reduceEqDiff, reduceCtorEq, decide_true, decide_false, evalO, evalOs, ofValue, ofLeaf, params, tget, sub, aok, builtinV, overwrite, vlen, assignTo, settle1, settleL, newVarV, newArr, cellsAt, readT, storeAt, writeE, cellsV, vleaf, frz, frzs, refs, refsL, fitsE, binV, intOp, boolOp, nilOp, isNilS, unV, fillE, velems, callV_s, CR_some, CD, importV, import1, importL, importT, imm, immL, pureR, pureRL, shapeR, flatR, shares, sharesL, hand_cons, hand_nil, oks, vst, vmd, ty, List.all_cons, List.all_nil, List.length_cons, List.length_nil, List.drop_succ_cons, List.drop_zero, List.drop_nil, List.head?_cons, List.head?_nil, List.cons_append, List.nil_append, List.append_nil, List.getElem?_cons_zero, List.getElem?_cons_succ, List.take_succ_cons, List.take_zero, List.set_cons_zero, List.set_cons_succ, List.length_map, Bool.and_true, Bool.true_and, Bool.and_false, Bool.false_and, Bool.and_self, Bool.not_true, Bool.not_false, and_true, true_and, and_self, ne_eq, not_true_eq_false, not_false_eq_true, beq_self_eq_true, Option.isSome_none, Int.toNat_natCast, nat_nonneg, Nat.zero_add, Nat.add_zero, Nat.succ_ne_self, Nat.reduceLeDiff, Nat.reduceEqDiff, Nat.reduceMul, Nat.reduceSub, Nat.le_refl, Nat.zero_le, List.getElem?_map, List.map_nil, fillS, zipP, evalPs, List.replicate_zero, List.replicate_succ, appendV, List.isEmpty_cons, Nat.mul_zero, Nat.zero_mul, true_or, or_true, or_false, false_or, List.take_length, ite_self, z0, z1, bq1, bq2, Int.toNat_zero, z00, Nat.le_add_right, Fin_ret, Fin_nrm, Fin_pan, X_top, resV, exports, nodupK, exportT, exportA, exportL, export1, tupV, List.contains_nil, m8, e14, q1', rv]
    rfl
end Go.Vi
set_option maxRecDepth 100000
set_option maxHeartbeats 1000000
namespace Go.Vi
open Go Go.Proofs

theorem outerF_rules {p : Prot} {most : Int} : ∀ (n i : Nat) (l : List Met) (res : List Int × Bool × Int), outerF p most n i l = some res → (∀ x ∈ l, (x.rules.length : Int) ≤ most) → res.1.length = 0 ∨ (res.1.length : Int) ≤ most
  | 0, i, l, res, h, _ => by cases h
  | n + 1, i, l, res, h, hl => by
    simp only [outerF] at h
    split at h
    · injection h with h; subst h; exact .inl rfl
    · rename_i m hm
      have hmm := hl _ (mem_of hm)
      split at h
      · injection h with h; subst h; exact .inr hmm
      · split at h
        · exact outerF_rules n _ l res h hl
        · rename_i hne
          split at h
          · injection h with h; subst h; exact .inl rfl
          · rename_i l' hl'
            exact outerF_rules n _ l' res h (innerF_rules (by omega) _ _ _ _ hl' hl)
theorem searchF_len (p : Prot) (more most : Int) : (searchF p more most).1.length ≤ 12 := by
  unfold searchF
  split
  · exact Nat.zero_le _
  · split
    · exact Nat.zero_le _
    · split
      · exact Nat.zero_le _
      · cases h : outerF p most 5002 0 [⟨startF p more, []⟩] with
        | none => exact Nat.zero_le _
        | some res =>
          rcases outerF_rules _ _ _ _ h (fun x hx => by simp only [List.mem_singleton] at hx; subst hx; simp; omega) with h1 | h1
          · simp only [gets]; omega
          · simp only [gets]; omega
theorem pmm_inj : ∀ a b : Prot × Int × Int, ([a.1.v, I a.2.1, I a.2.2] : List V) = [b.1.v, I b.2.1, I b.2.2] → a = b := three_inj (fun _ _ => Prot_inj) (fun _ _ => I_inj) (fun _ _ => I_inj)
noncomputable def F8 : List V → Option V := hF (α := Prot × Int × Int) (fun a => [a.1.v, I a.2.1, I a.2.2]) (fun a => a.1.ok) (fun a => srV (searchF a.1 a.2.1 a.2.2))
theorem F8_eq {p : Prot} (more most : Int) (hp : p.ok) : F8 [p.v, I more, I most] = some (srV (searchF p more most)) :=
  hF_eq (a := (p, more, most)) pmm_inj (by simp only [cans, canProt, canI]) hp
noncomputable def F10 : List V → Option V := hF (α := Prot × Int × Int) (fun a => [a.1.v, I a.2.1, I a.2.2]) (fun a => a.1.ok) (fun a => srV (searchF a.1 a.2.1 a.2.2))
theorem F10_eq {p : Prot} (more most : Int) (hp : p.ok) : F10 [p.v, I more, I most] = some (srV (searchF p more most)) :=
  hF_eq (a := (p, more, most)) pmm_inj (by simp only [cans, canProt, canI]) hp
theorem F11_rv {a : List Int} (h : a.length ≤ 12) : F11 [rv a, rv a] = some (.bool true) := by
  have := hF_eq (a := (a, a)) (enc := fun a : List Int × List Int => [Is a.1, Is a.2]) (ok := fun a => a.1.length ≤ 1000000) (out := fun a => .bool (decide (a.1 = a.2))) (args := [rv a, rv a]) (two_inj (fun _ _ => Is_inj) (fun _ _ => Is_inj)) (by simp only [cans, can_rv]) (by dsimp only; omega)
  rw [decide_eq_true rfl] at this
  exact this
noncomputable abbrev U9 : List (FuncId × (List V → Option V)) := (6, F6) :: (7, F7) :: (8, F8) :: (9, F9) :: (10, F10) :: (11, F11) :: []
theorem hU9 : SoundHand Try.prog (hand U9) :=
  sound_cons (hF_sound fun a _ => w6 a) <| sound_cons (hF_sound fun _ _ => w7) <| sound_cons (hF_sound fun a h => w8 a.1 a.2.1 a.2.2 h) <| sound_cons (hF_sound fun a h => w9 a h) <|
  sound_cons (hF_sound fun a h => w10 a.1 a.2.1 a.2.2 h) <| sound_cons (hF_sound fun a h => w11 a.1 a.2 h) sound_nil
theorem w3 (p : Prot) (more most : Int) : SoundPure Try.prog 3 [p.v, I more, I most] (.ret (.bool true)) := by
  refine s3 hU9 1 (by simp) rfl ?_
  have e6 := F6_eq p
  simp only [c3, Try.f3, gets]
  cases hf : fewF p with
  | false =>
    rw [hf] at e6
    simp only [vmr, vmw, vmp, ↓reduceIte, Nat.reduceBEq, Nat.reduceLT, Nat.reduceAdd, Nat.reduceEqDiff, reduceCtorEq, decide_true, decide_false, evalO, evalOs, ofValue, ofLeaf, params, tget, sub, aok, builtinV, overwrite, vlen, assignTo, settle1, settleL, newVarV, newArr, cellsAt, readT, storeAt, writeE, cellsV, vleaf, frz, frzs, refs, refsL, fitsE, binV, intOp, boolOp, nilOp, isNilS, unV, fillE, velems, callV_s, CR_some, CD, importV, import1, importL, importT, imm, immL, pureR, pureRL, shapeR, flatR, shares, sharesL, hand_cons, hand_nil, oks, vst, vmd, ty, List.all_cons, List.all_nil, List.length_cons, List.length_nil, List.drop_succ_cons, List.drop_zero, List.drop_nil, List.head?_cons, List.head?_nil, List.cons_append, List.nil_append, List.append_nil, List.getElem?_cons_zero, List.getElem?_cons_succ, List.take_succ_cons, List.take_zero, List.set_cons_zero, List.set_cons_succ, List.length_map, Bool.and_true, Bool.true_and, Bool.and_false, Bool.false_and, Bool.and_self, Bool.not_true, Bool.not_false, and_true, true_and, and_self, ne_eq, not_true_eq_false, not_false_eq_true, beq_self_eq_true, Option.isSome_none, Int.toNat_natCast, nat_nonneg, Nat.zero_add, Nat.add_zero, Nat.succ_ne_self, Nat.reduceLeDiff, Nat.reduceEqDiff, Nat.reduceMul, Nat.reduceSub, Nat.le_refl, Nat.zero_le, List.getElem?_map, List.map_nil, fillS, zipP, evalPs, List.replicate_zero, List.replicate_succ, appendV, List.isEmpty_cons, Nat.mul_zero, Nat.zero_mul, true_or, or_true, or_false, false_or, List.take_length, ite_self, z0, z1, bq1, bq2, Int.toNat_zero, z00, Nat.le_add_right, Fin_ret, Fin_nrm, Fin_pan, X_top, resV, exports, nodupK, exportT, exportA, exportL, export1, tupV, List.contains_nil, m3, e6, F7_eq]
  | true =>
  rw [hf] at e6
  have hp := few_ok hf
  have e8 := F8_eq more most hp
  have e10 := F10_eq more most hp
  have e9 := F9_eq hp
  have e11 := F11_rv (searchF_len p more most)
  generalize searchF p more most = x at e8 e10 e11
  obtain ⟨a, b, e⟩ := x
  dsimp only [srV] at e8 e10 e11
  have n1 : (e == e) = true := beq_self_eq_true e
  have n2 : (b == b) = true := beq_self_eq_true b
  by_cases q1 : (p.rules.length : Int) > 4
  · have q1' := eq_true q1
    simp only [vmr, vmw, vmp, ↓reduceIte, Nat.reduceBEq, Nat.reduceLT, Nat.reduceAdd, Nat.reduceEqDiff, reduceCtorEq, decide_true, decide_false, evalO, evalOs, ofValue, ofLeaf, params, tget, sub, aok, builtinV, overwrite, vlen, assignTo, settle1, settleL, newVarV, newArr, cellsAt, readT, storeAt, writeE, cellsV, vleaf, frz, frzs, refs, refsL, fitsE, binV, intOp, boolOp, nilOp, isNilS, unV, fillE, velems, callV_s, CR_some, CD, importV, import1, importL, importT, imm, immL, pureR, pureRL, shapeR, flatR, shares, sharesL, hand_cons, hand_nil, oks, vst, vmd, ty, List.all_cons, List.all_nil, List.length_cons, List.length_nil, List.drop_succ_cons, List.drop_zero, List.drop_nil, List.head?_cons, List.head?_nil, List.cons_append, List.nil_append, List.append_nil, List.getElem?_cons_zero, List.getElem?_cons_succ, List.take_succ_cons, List.take_zero, List.set_cons_zero, List.set_cons_succ, List.length_map, Bool.and_true, Bool.true_and, Bool.and_false, Bool.false_and, Bool.and_self, Bool.not_true, Bool.not_false, and_true, true_and, and_self, ne_eq, not_true_eq_false, not_false_eq_true, beq_self_eq_true, Option.isSome_none, Int.toNat_natCast, nat_nonneg, Nat.zero_add, Nat.add_zero, Nat.succ_ne_self, Nat.reduceLeDiff, Nat.reduceEqDiff, Nat.reduceMul, Nat.reduceSub, Nat.le_refl, Nat.zero_le, List.getElem?_map, List.map_nil, fillS, zipP, evalPs, List.replicate_zero, List.replicate_succ, appendV, List.isEmpty_cons, Nat.mul_zero, Nat.zero_mul, true_or, or_true, or_false, false_or, List.take_length, ite_self, z0, z1, bq1, bq2, Int.toNat_zero, z00, Nat.le_add_right, Fin_ret, Fin_nrm, Fin_pan, X_top, resV, exports, nodupK, exportT, exportA, exportL, export1, tupV, List.contains_nil, m3, e6, F7_eq, q1']
  have q1' := eq_false q1
  rcases a with _ | ⟨y, a⟩
  all_goals
    simp only [rv, List.map_cons] at e8 e10 e11
    rcases Classical.propComplete (more > 3) with q2 | q2 <;> rcases Classical.propComplete (more ≤ 1000) with q3 | q3 <;> rcases Classical.propComplete (most > 4) with q4 | q4 <;> rcases Classical.propComplete (most ≤ 12) with q5 | q5
    all_goals
      simp only [vmr, vmw, vmp, ↓reduceIte, Nat.reduceBEq, Nat.reduceLT, Nat.reduceAdd, Nat.reduceEqDiff, reduceCtorEq, decide_true, decide_false, evalO, evalOs, ofValue, ofLeaf, params, tget, sub, aok, builtinV, overwrite, vlen, assignTo, settle1, settleL, newVarV, newArr, cellsAt, readT, storeAt, writeE, cellsV, vleaf, frz, frzs, refs, refsL, fitsE, binV, intOp, boolOp, nilOp, isNilS, unV, fillE, velems, callV_s, CR_some, CD, importV, import1, importL, importT, imm, immL, pureR, pureRL, shapeR, flatR, shares, sharesL, hand_cons, hand_nil, oks, vst, vmd, ty, List.all_cons, List.all_nil, List.length_cons, List.length_nil, List.drop_succ_cons, List.drop_zero, List.drop_nil, List.head?_cons, List.head?_nil, List.cons_append, List.nil_append, List.append_nil, List.getElem?_cons_zero, List.getElem?_cons_succ, List.take_succ_cons, List.take_zero, List.set_cons_zero, List.set_cons_succ, List.length_map, Bool.and_true, Bool.true_and, Bool.and_false, Bool.false_and, Bool.and_self, Bool.not_true, Bool.not_false, and_true, true_and, and_self, ne_eq, not_true_eq_false, not_false_eq_true, beq_self_eq_true, Option.isSome_none, Int.toNat_natCast, nat_nonneg, Nat.zero_add, Nat.add_zero, Nat.succ_ne_self, Nat.reduceLeDiff, Nat.reduceEqDiff, Nat.reduceMul, Nat.reduceSub, Nat.le_refl, Nat.zero_le, List.getElem?_map, List.map_nil, fillS, zipP, evalPs, List.replicate_zero, List.replicate_succ, appendV, List.isEmpty_cons, Nat.mul_zero, Nat.zero_mul, true_or, or_true, or_false, false_or, List.take_length, ite_self, z0, z1, bq1, bq2, Int.toNat_zero, z00, Nat.le_add_right, Fin_ret, Fin_nrm, Fin_pan, X_top, resV, exports, nodupK, exportT, exportA, exportL, export1, tupV, List.contains_nil, m3, e6, F7_eq, q1', q2, q3, q4, q5, e8, e9, e10, e11, n1, n2, shI]
end Go.Vi
