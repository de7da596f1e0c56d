/-
  Walks of package chiasmusref34: bad, IsBad, Start.
-/
import Derived.Test.YtkpcgnjjkaamgaaWC
set_option linter.unusedSimpArgs false
set_option linter.unusedVariables false
set_option maxRecDepth 100000
set_option maxHeartbeats 4000000
namespace Go.Vi
open Go Go.Proofs

theorem l23b {H n out v2} {k : K} (p : Prot) (hp : p.ok) (st : List Int) (hl : ∀ l ∈ p.bad, l.length = st.length) (hb : st.length ≤ 1000) (hn0 : st.length < n) : ∀ r i n' s, p.bad.drop i = r → r.length < n' → tget s.τ 1 = Is st → tget s.τ 2 = .ptr ⟨0, 2, 0⟩ v2 0 0 → lget s.L (2, 0) = some (v2, .var p.cs) → tget s.τ 5 = I (i : Nat) →
    ((r.any fun le => covF st le 0) = true → out = some (.ret (.bool true))) →
    ((r.any fun le => covF st le 0) = false → ∀ s', Fin (M23 H n) [.tmp 4] (X (M23 H n) (.exit 0) k s') = out) →
    Fin (M23 H n) [.tmp 4] (L (M23 H n) (sub [1, 0, 1, 0, 0] c23) n' k s) = out
  | [], i, n' + 1, s, hi, hn, h1, h2, h2', h5, ho, hx => by
    have hc := inlt (drop_nil' hi)
    have := hx rfl
    rw [L_succ]
    simp only [vmr, vmw, vmp, ↓reduceIte, Nat.reduceBEq, Nat.reduceLT, Nat.reduceAdd, Nat.reduceEqDiff, reduceCtorEq, decide_true, decide_false, evalO, evalOs, ofValue, ofLeaf, params, tget, sub, aok, builtinV, overwrite, vlen, assignTo, settle1, settleL, newVarV, newArr, cellsAt, readT, storeAt, writeE, cellsV, vleaf, frz, frzs, refs, refsL, fitsE, binV, intOp, boolOp, nilOp, isNilS, unV, fillE, velems, callV_s, CR_some, CD, importV, import1, importL, importT, imm, immL, pureR, pureRL, shapeR, flatR, shares, sharesL, hand_cons, hand_nil, oks, vst, vmd, ty, List.all_cons, List.all_nil, List.length_cons, List.length_nil, List.drop_succ_cons, List.drop_zero, List.drop_nil, List.head?_cons, List.head?_nil, List.cons_append, List.nil_append, List.append_nil, List.getElem?_cons_zero, List.getElem?_cons_succ, List.take_succ_cons, List.take_zero, List.set_cons_zero, List.set_cons_succ, List.length_map, Bool.and_true, Bool.true_and, Bool.and_false, Bool.false_and, Bool.and_self, Bool.not_true, Bool.not_false, and_true, true_and, and_self, ne_eq, not_true_eq_false, not_false_eq_true, beq_self_eq_true, Option.isSome_none, Int.toNat_natCast, nat_nonneg, Nat.zero_add, Nat.add_zero, Nat.succ_ne_self, Nat.reduceLeDiff, Nat.reduceEqDiff, Nat.reduceMul, Nat.reduceSub, Nat.le_refl, Nat.zero_le, List.getElem?_map, List.map_nil, fillS, zipP, evalPs, List.replicate_zero, List.replicate_succ, appendV, List.isEmpty_cons, Nat.mul_zero, Nat.zero_mul, true_or, or_true, or_false, false_or, List.take_length, ite_self, z0, z1, bq1, bq2, Int.toNat_zero, z00, Nat.le_add_right, c23, Try.f23, m23, h1, h2, h2', h5, hc, this]
  | x :: r, i, n' + 1, s, hi, hn, h1, h2, h2', h5, ho, hx => by
    obtain ⟨hg, hd, hlt⟩ := drop_cons hi
    have hc := ilt hlt
    have hw := wsucc hlt (by have := hp.bad; omega)
    have a1 := fun k out => @l23a H n k out v2 p st x i hg (hl x (mem_of hg)) hb st 0 true n
    rw [L_succ]
    simp only [vmr, vmw, vmp, ↓reduceIte, Nat.reduceBEq, Nat.reduceLT, Nat.reduceAdd, Nat.reduceEqDiff, reduceCtorEq, decide_true, decide_false, evalO, evalOs, ofValue, ofLeaf, params, tget, sub, aok, builtinV, overwrite, vlen, assignTo, settle1, settleL, newVarV, newArr, cellsAt, readT, storeAt, writeE, cellsV, vleaf, frz, frzs, refs, refsL, fitsE, binV, intOp, boolOp, nilOp, isNilS, unV, fillE, velems, callV_s, CR_some, CD, importV, import1, importL, importT, imm, immL, pureR, pureRL, shapeR, flatR, shares, sharesL, hand_cons, hand_nil, oks, vst, vmd, ty, List.all_cons, List.all_nil, List.length_cons, List.length_nil, List.drop_succ_cons, List.drop_zero, List.drop_nil, List.head?_cons, List.head?_nil, List.cons_append, List.nil_append, List.append_nil, List.getElem?_cons_zero, List.getElem?_cons_succ, List.take_succ_cons, List.take_zero, List.set_cons_zero, List.set_cons_succ, List.length_map, Bool.and_true, Bool.true_and, Bool.and_false, Bool.false_and, Bool.and_self, Bool.not_true, Bool.not_false, and_true, true_and, and_self, ne_eq, not_true_eq_false, not_false_eq_true, beq_self_eq_true, Option.isSome_none, Int.toNat_natCast, nat_nonneg, Nat.zero_add, Nat.add_zero, Nat.succ_ne_self, Nat.reduceLeDiff, Nat.reduceEqDiff, Nat.reduceMul, Nat.reduceSub, Nat.le_refl, Nat.zero_le, List.getElem?_map, List.map_nil, fillS, zipP, evalPs, List.replicate_zero, List.replicate_succ, appendV, List.isEmpty_cons, Nat.mul_zero, Nat.zero_mul, true_or, or_true, or_false, false_or, List.take_length, ite_self, z0, z1, bq1, bq2, Int.toNat_zero, z00, Nat.le_add_right, c23, Try.f23, m23, h1, h2, h2', h5, hc, hw, hg]
    simp only [sub, c23, Try.f23, gets] at a1
    refine a1 _ _ _ rfl hn0 ?_ ?_ ?_ ?_ ?_ ?_ ?_
    case refine_7 =>
      intro s' g1 g2 g2' g5 g6
      simp only [Bool.true_and, List.drop_zero] at g6
      cases hcv : covF st x 0 with
      | true =>
        rw [hcv] at g6
        rw [ho (by simp [hcv])]
        simp only [vmr, vmw, vmp, ↓reduceIte, Nat.reduceBEq, Nat.reduceLT, Nat.reduceAdd, Nat.reduceEqDiff, reduceCtorEq, decide_true, decide_false, evalO, evalOs, ofValue, ofLeaf, params, tget, sub, aok, builtinV, overwrite, vlen, assignTo, settle1, settleL, newVarV, newArr, cellsAt, readT, storeAt, writeE, cellsV, vleaf, frz, frzs, refs, refsL, fitsE, binV, intOp, boolOp, nilOp, isNilS, unV, fillE, velems, callV_s, CR_some, CD, importV, import1, importL, importT, imm, immL, pureR, pureRL, shapeR, flatR, shares, sharesL, hand_cons, hand_nil, oks, vst, vmd, ty, List.all_cons, List.all_nil, List.length_cons, List.length_nil, List.drop_succ_cons, List.drop_zero, List.drop_nil, List.head?_cons, List.head?_nil, List.cons_append, List.nil_append, List.append_nil, List.getElem?_cons_zero, List.getElem?_cons_succ, List.take_succ_cons, List.take_zero, List.set_cons_zero, List.set_cons_succ, List.length_map, Bool.and_true, Bool.true_and, Bool.and_false, Bool.false_and, Bool.and_self, Bool.not_true, Bool.not_false, and_true, true_and, and_self, ne_eq, not_true_eq_false, not_false_eq_true, beq_self_eq_true, Option.isSome_none, Int.toNat_natCast, nat_nonneg, Nat.zero_add, Nat.add_zero, Nat.succ_ne_self, Nat.reduceLeDiff, Nat.reduceEqDiff, Nat.reduceMul, Nat.reduceSub, Nat.le_refl, Nat.zero_le, List.getElem?_map, List.map_nil, fillS, zipP, evalPs, List.replicate_zero, List.replicate_succ, appendV, List.isEmpty_cons, Nat.mul_zero, Nat.zero_mul, true_or, or_true, or_false, false_or, List.take_length, ite_self, z0, z1, bq1, bq2, Int.toNat_zero, z00, Nat.le_add_right, Fin_ret, Fin_nrm, Fin_pan, X_top, resV, exports, nodupK, exportT, exportA, exportL, export1, tupV, List.contains_nil, m23, g1, g2, g2', g5, g6]
      | false =>
        rw [hcv] at g6
        simp only [vmr, vmw, vmp, ↓reduceIte, Nat.reduceBEq, Nat.reduceLT, Nat.reduceAdd, Nat.reduceEqDiff, reduceCtorEq, decide_true, decide_false, evalO, evalOs, ofValue, ofLeaf, params, tget, sub, aok, builtinV, overwrite, vlen, assignTo, settle1, settleL, newVarV, newArr, cellsAt, readT, storeAt, writeE, cellsV, vleaf, frz, frzs, refs, refsL, fitsE, binV, intOp, boolOp, nilOp, isNilS, unV, fillE, velems, callV_s, CR_some, CD, importV, import1, importL, importT, imm, immL, pureR, pureRL, shapeR, flatR, shares, sharesL, hand_cons, hand_nil, oks, vst, vmd, ty, List.all_cons, List.all_nil, List.length_cons, List.length_nil, List.drop_succ_cons, List.drop_zero, List.drop_nil, List.head?_cons, List.head?_nil, List.cons_append, List.nil_append, List.append_nil, List.getElem?_cons_zero, List.getElem?_cons_succ, List.take_succ_cons, List.take_zero, List.set_cons_zero, List.set_cons_succ, List.length_map, Bool.and_true, Bool.true_and, Bool.and_false, Bool.false_and, Bool.and_self, Bool.not_true, Bool.not_false, and_true, true_and, and_self, ne_eq, not_true_eq_false, not_false_eq_true, beq_self_eq_true, Option.isSome_none, Int.toNat_natCast, nat_nonneg, Nat.zero_add, Nat.add_zero, Nat.succ_ne_self, Nat.reduceLeDiff, Nat.reduceEqDiff, Nat.reduceMul, Nat.reduceSub, Nat.le_refl, Nat.zero_le, List.getElem?_map, List.map_nil, fillS, zipP, evalPs, List.replicate_zero, List.replicate_succ, appendV, List.isEmpty_cons, Nat.mul_zero, Nat.zero_mul, true_or, or_true, or_false, false_or, List.take_length, ite_self, z0, z1, bq1, bq2, Int.toNat_zero, z00, Nat.le_add_right, m23, g1, g2, g2', g5, g6, hw]
        simp only [List.any_cons, hcv, Bool.false_or] at ho hx
        have := fun s => @l23b H n out v2 k p hp st hl hb hn0 r (i+1) n' s hd (by simp at hn; omega)
        simp only [sub, c23, Try.f23, gets] at this
        refine this _ ?_ ?_ ?_ ?_ ho hx
        all_goals simp only [vmr, vmw, vmp, ↓reduceIte, Nat.reduceBEq, Nat.reduceLT, Nat.reduceAdd, Nat.reduceEqDiff, reduceCtorEq, decide_true, decide_false, evalO, evalOs, ofValue, ofLeaf, params, tget, sub, aok, builtinV, overwrite, vlen, assignTo, settle1, settleL, newVarV, newArr, cellsAt, readT, storeAt, writeE, cellsV, vleaf, frz, frzs, refs, refsL, fitsE, binV, intOp, boolOp, nilOp, isNilS, unV, fillE, velems, callV_s, CR_some, CD, importV, import1, importL, importT, imm, immL, pureR, pureRL, shapeR, flatR, shares, sharesL, hand_cons, hand_nil, oks, vst, vmd, ty, List.all_cons, List.all_nil, List.length_cons, List.length_nil, List.drop_succ_cons, List.drop_zero, List.drop_nil, List.head?_cons, List.head?_nil, List.cons_append, List.nil_append, List.append_nil, List.getElem?_cons_zero, List.getElem?_cons_succ, List.take_succ_cons, List.take_zero, List.set_cons_zero, List.set_cons_succ, List.length_map, Bool.and_true, Bool.true_and, Bool.and_false, Bool.false_and, Bool.and_self, Bool.not_true, Bool.not_false, and_true, true_and, and_self, ne_eq, not_true_eq_false, not_false_eq_true, beq_self_eq_true, Option.isSome_none, Int.toNat_natCast, nat_nonneg, Nat.zero_add, Nat.add_zero, Nat.succ_ne_self, Nat.reduceLeDiff, Nat.reduceEqDiff, Nat.reduceMul, Nat.reduceSub, Nat.le_refl, Nat.zero_le, List.getElem?_map, List.map_nil, fillS, zipP, evalPs, List.replicate_zero, List.replicate_succ, appendV, List.isEmpty_cons, Nat.mul_zero, Nat.zero_mul, true_or, or_true, or_false, false_or, List.take_length, ite_self, z0, z1, bq1, bq2, Int.toNat_zero, z00, Nat.le_add_right, m23, g1, g2, g2', g5, g6]
    all_goals simp only [vmr, vmw, vmp, ↓reduceIte, Nat.reduceBEq, Nat.reduceLT, Nat.reduceAdd, Nat.reduceEqDiff, reduceCtorEq, decide_true, decide_false, evalO, evalOs, ofValue, ofLeaf, params, tget, sub, aok, builtinV, overwrite, vlen, assignTo, settle1, settleL, newVarV, newArr, cellsAt, readT, storeAt, writeE, cellsV, vleaf, frz, frzs, refs, refsL, fitsE, binV, intOp, boolOp, nilOp, isNilS, unV, fillE, velems, callV_s, CR_some, CD, importV, import1, importL, importT, imm, immL, pureR, pureRL, shapeR, flatR, shares, sharesL, hand_cons, hand_nil, oks, vst, vmd, ty, List.all_cons, List.all_nil, List.length_cons, List.length_nil, List.drop_succ_cons, List.drop_zero, List.drop_nil, List.head?_cons, List.head?_nil, List.cons_append, List.nil_append, List.append_nil, List.getElem?_cons_zero, List.getElem?_cons_succ, List.take_succ_cons, List.take_zero, List.set_cons_zero, List.set_cons_succ, List.length_map, Bool.and_true, Bool.true_and, Bool.and_false, Bool.false_and, Bool.and_self, Bool.not_true, Bool.not_false, and_true, true_and, and_self, ne_eq, not_true_eq_false, not_false_eq_true, beq_self_eq_true, Option.isSome_none, Int.toNat_natCast, nat_nonneg, Nat.zero_add, Nat.add_zero, Nat.succ_ne_self, Nat.reduceLeDiff, Nat.reduceEqDiff, Nat.reduceMul, Nat.reduceSub, Nat.le_refl, Nat.zero_le, List.getElem?_map, List.map_nil, fillS, zipP, evalPs, List.replicate_zero, List.replicate_succ, appendV, List.isEmpty_cons, Nat.mul_zero, Nat.zero_mul, true_or, or_true, or_false, false_or, List.take_length, ite_self, z0, z1, bq1, bq2, Int.toNat_zero, z00, Nat.le_add_right, m23, h1, h2, h2', h5]
theorem w23 (p : Prot) (st : List Int) (hp : p.ok) (hl : ∀ l ∈ p.bad, l.length = st.length) (hb : st.length ≤ 1000) : SoundPure Try.prog 23 [p.v, Is st] (.ret (.bool (badF p st))) := by
  refine s23 hU4 (p.bad.length + st.length + 1) (by simp) rfl ?_
  have a1 := fun k out => @l23b (hand U4) (p.bad.length + st.length + 1) out 0 k p hp st hl hb (by omega) p.bad 0 (p.bad.length + st.length + 1)
  simp only [sub, c23, Try.f23, gets] at a1 ⊢
  unfold badF
  simp only [vmr, vmw, vmp, ↓reduceIte, Nat.reduceBEq, Nat.reduceLT, Nat.reduceAdd, Nat.reduceEqDiff, reduceCtorEq, decide_true, decide_false, evalO, evalOs, ofValue, ofLeaf, params, tget, sub, aok, builtinV, overwrite, vlen, assignTo, settle1, settleL, newVarV, newArr, cellsAt, readT, storeAt, writeE, cellsV, vleaf, frz, frzs, refs, refsL, fitsE, binV, intOp, boolOp, nilOp, isNilS, unV, fillE, velems, callV_s, CR_some, CD, importV, import1, importL, importT, imm, immL, pureR, pureRL, shapeR, flatR, shares, sharesL, hand_cons, hand_nil, oks, vst, vmd, ty, List.all_cons, List.all_nil, List.length_cons, List.length_nil, List.drop_succ_cons, List.drop_zero, List.drop_nil, List.head?_cons, List.head?_nil, List.cons_append, List.nil_append, List.append_nil, List.getElem?_cons_zero, List.getElem?_cons_succ, List.take_succ_cons, List.take_zero, List.set_cons_zero, List.set_cons_succ, List.length_map, Bool.and_true, Bool.true_and, Bool.and_false, Bool.false_and, Bool.and_self, Bool.not_true, Bool.not_false, and_true, true_and, and_self, ne_eq, not_true_eq_false, not_false_eq_true, beq_self_eq_true, Option.isSome_none, Int.toNat_natCast, nat_nonneg, Nat.zero_add, Nat.add_zero, Nat.succ_ne_self, Nat.reduceLeDiff, Nat.reduceEqDiff, Nat.reduceMul, Nat.reduceSub, Nat.le_refl, Nat.zero_le, List.getElem?_map, List.map_nil, fillS, zipP, evalPs, List.replicate_zero, List.replicate_succ, appendV, List.isEmpty_cons, Nat.mul_zero, Nat.zero_mul, true_or, or_true, or_false, false_or, List.take_length, ite_self, z0, z1, bq1, bq2, Int.toNat_zero, z00, Nat.le_add_right, m23]
  refine a1 _ _ _ rfl (by omega) ?_ ?_ ?_ ?_ ?_ ?_
  case refine_5 => intro h; rw [h]
  case refine_6 => intro h s'; rw [h]; simp only [vmr, vmw, vmp, ↓reduceIte, Nat.reduceBEq, Nat.reduceLT, Nat.reduceAdd, Nat.reduceEqDiff, reduceCtorEq, decide_true, decide_false, evalO, evalOs, ofValue, ofLeaf, params, tget, sub, aok, builtinV, overwrite, vlen, assignTo, settle1, settleL, newVarV, newArr, cellsAt, readT, storeAt, writeE, cellsV, vleaf, frz, frzs, refs, refsL, fitsE, binV, intOp, boolOp, nilOp, isNilS, unV, fillE, velems, callV_s, CR_some, CD, importV, import1, importL, importT, imm, immL, pureR, pureRL, shapeR, flatR, shares, sharesL, hand_cons, hand_nil, oks, vst, vmd, ty, List.all_cons, List.all_nil, List.length_cons, List.length_nil, List.drop_succ_cons, List.drop_zero, List.drop_nil, List.head?_cons, List.head?_nil, List.cons_append, List.nil_append, List.append_nil, List.getElem?_cons_zero, List.getElem?_cons_succ, List.take_succ_cons, List.take_zero, List.set_cons_zero, List.set_cons_succ, List.length_map, Bool.and_true, Bool.true_and, Bool.and_false, Bool.false_and, Bool.and_self, Bool.not_true, Bool.not_false, and_true, true_and, and_self, ne_eq, not_true_eq_false, not_false_eq_true, beq_self_eq_true, Option.isSome_none, Int.toNat_natCast, nat_nonneg, Nat.zero_add, Nat.add_zero, Nat.succ_ne_self, Nat.reduceLeDiff, Nat.reduceEqDiff, Nat.reduceMul, Nat.reduceSub, Nat.le_refl, Nat.zero_le, List.getElem?_map, List.map_nil, fillS, zipP, evalPs, List.replicate_zero, List.replicate_succ, appendV, List.isEmpty_cons, Nat.mul_zero, Nat.zero_mul, true_or, or_true, or_false, false_or, List.take_length, ite_self, z0, z1, bq1, bq2, Int.toNat_zero, z00, Nat.le_add_right, Fin_ret, Fin_nrm, Fin_pan, X_top, resV, exports, nodupK, exportT, exportA, exportL, export1, tupV, List.contains_nil, m23]
  all_goals simp only [vmr, vmw, vmp, ↓reduceIte, Nat.reduceBEq, Nat.reduceLT, Nat.reduceAdd, Nat.reduceEqDiff, reduceCtorEq, decide_true, decide_false, evalO, evalOs, ofValue, ofLeaf, params, tget, sub, aok, builtinV, overwrite, vlen, assignTo, settle1, settleL, newVarV, newArr, cellsAt, readT, storeAt, writeE, cellsV, vleaf, frz, frzs, refs, refsL, fitsE, binV, intOp, boolOp, nilOp, isNilS, unV, fillE, velems, callV_s, CR_some, CD, importV, import1, importL, importT, imm, immL, pureR, pureRL, shapeR, flatR, shares, sharesL, hand_cons, hand_nil, oks, vst, vmd, ty, List.all_cons, List.all_nil, List.length_cons, List.length_nil, List.drop_succ_cons, List.drop_zero, List.drop_nil, List.head?_cons, List.head?_nil, List.cons_append, List.nil_append, List.append_nil, List.getElem?_cons_zero, List.getElem?_cons_succ, List.take_succ_cons, List.take_zero, List.set_cons_zero, List.set_cons_succ, List.length_map, Bool.and_true, Bool.true_and, Bool.and_false, Bool.false_and, Bool.and_self, Bool.not_true, Bool.not_false, and_true, true_and, and_self, ne_eq, not_true_eq_false, not_false_eq_true, beq_self_eq_true, Option.isSome_none, Int.toNat_natCast, nat_nonneg, Nat.zero_add, Nat.add_zero, Nat.succ_ne_self, Nat.reduceLeDiff, Nat.reduceEqDiff, Nat.reduceMul, Nat.reduceSub, Nat.le_refl, Nat.zero_le, List.getElem?_map, List.map_nil, fillS, zipP, evalPs, List.replicate_zero, List.replicate_succ, appendV, List.isEmpty_cons, Nat.mul_zero, Nat.zero_mul, true_or, or_true, or_false, false_or, List.take_length, ite_self, z0, z1, bq1, bq2, Int.toNat_zero, z00, Nat.le_add_right, m23, Prot.cs]
noncomputable def F23 : List V → Option V := hF (α := Prot × List Int) (fun a => [a.1.v, Is a.2]) (fun a => a.1.ok ∧ (∀ l ∈ a.1.bad, l.length = a.2.length) ∧ a.2.length ≤ 1000) (fun a => .bool (badF a.1 a.2))
theorem F23_eq {p : Prot} {st : List Int} (hp : p.ok) (hl : ∀ l ∈ p.bad, l.length = st.length) (hb : st.length ≤ 1000) : F23 [p.v, Is st] = some (.bool (badF p st)) :=
  hF_eq (a := (p, st)) (two_inj (fun _ _ => Prot_inj) (fun _ _ => Is_inj)) (by simp only [cans, canProt, canIs]) ⟨hp, hl, hb⟩
noncomputable abbrev U5 : List (FuncId × (List V → Option V)) := (23, F23) :: U4
theorem hU5 : SoundHand Try.prog (hand U5) := sound_cons (hF_sound fun a h => w23 a.1 a.2 h.1 h.2.1 h.2.2) hU4

theorem w17 (p : Prot) (st : List Int) (hp : p.ok) (hs : st.length ≤ 1000) : SoundPure Try.prog 17 [p.v, Is st] (.ret (.tup [.bool (isBadF p st).1, I (isBadF p st).2])) := by
  refine s17 hU5 1 (by simp) rfl ?_
  simp only [c17, Try.f17, gets]
  have e1 := F15_eq hp
  have e2 := F25_eq (p := p) (l := st) (by omega)
  unfold isBadF
  by_cases q1 : checkF p = 0
  · have q1' : (checkF p != 0) = false := by simp [q1]
    have q1'' : (checkF p = 0) = True := eq_true q1
    cases g : withinF st p.begin.length 1000000 with
    | false => simp only [vmr, vmw, vmp, ↓reduceIte, Nat.reduceBEq, Nat.reduceLT, Nat.reduceAdd, Nat.reduceEqDiff, reduceCtorEq, decide_true, decide_false, evalO, evalOs, ofValue, ofLeaf, params, tget, sub, aok, builtinV, overwrite, vlen, assignTo, settle1, settleL, newVarV, newArr, cellsAt, readT, storeAt, writeE, cellsV, vleaf, frz, frzs, refs, refsL, fitsE, binV, intOp, boolOp, nilOp, isNilS, unV, fillE, velems, callV_s, CR_some, CD, importV, import1, importL, importT, imm, immL, pureR, pureRL, shapeR, flatR, shares, sharesL, hand_cons, hand_nil, oks, vst, vmd, ty, List.all_cons, List.all_nil, List.length_cons, List.length_nil, List.drop_succ_cons, List.drop_zero, List.drop_nil, List.head?_cons, List.head?_nil, List.cons_append, List.nil_append, List.append_nil, List.getElem?_cons_zero, List.getElem?_cons_succ, List.take_succ_cons, List.take_zero, List.set_cons_zero, List.set_cons_succ, List.length_map, Bool.and_true, Bool.true_and, Bool.and_false, Bool.false_and, Bool.and_self, Bool.not_true, Bool.not_false, and_true, true_and, and_self, ne_eq, not_true_eq_false, not_false_eq_true, beq_self_eq_true, Option.isSome_none, Int.toNat_natCast, nat_nonneg, Nat.zero_add, Nat.add_zero, Nat.succ_ne_self, Nat.reduceLeDiff, Nat.reduceEqDiff, Nat.reduceMul, Nat.reduceSub, Nat.le_refl, Nat.zero_le, List.getElem?_map, List.map_nil, fillS, zipP, evalPs, List.replicate_zero, List.replicate_succ, appendV, List.isEmpty_cons, Nat.mul_zero, Nat.zero_mul, true_or, or_true, or_false, false_or, List.take_length, ite_self, z0, z1, bq1, bq2, Int.toNat_zero, z00, Nat.le_add_right, Fin_ret, Fin_nrm, Fin_pan, X_top, resV, exports, nodupK, exportT, exportA, exportL, export1, tupV, List.contains_nil, m17, e1, q1', q1'', e2, g]
    | true =>
      obtain ⟨_, _, _, _, _, _, _, _, hb⟩ := checkF_facts q1
      have h1 := withinF_len g
      have e3 := F23_eq (p := p) (st := st) hp (fun l hl => by have := withinF_len (hb l hl); omega) hs
      simp only [vmr, vmw, vmp, ↓reduceIte, Nat.reduceBEq, Nat.reduceLT, Nat.reduceAdd, Nat.reduceEqDiff, reduceCtorEq, decide_true, decide_false, evalO, evalOs, ofValue, ofLeaf, params, tget, sub, aok, builtinV, overwrite, vlen, assignTo, settle1, settleL, newVarV, newArr, cellsAt, readT, storeAt, writeE, cellsV, vleaf, frz, frzs, refs, refsL, fitsE, binV, intOp, boolOp, nilOp, isNilS, unV, fillE, velems, callV_s, CR_some, CD, importV, import1, importL, importT, imm, immL, pureR, pureRL, shapeR, flatR, shares, sharesL, hand_cons, hand_nil, oks, vst, vmd, ty, List.all_cons, List.all_nil, List.length_cons, List.length_nil, List.drop_succ_cons, List.drop_zero, List.drop_nil, List.head?_cons, List.head?_nil, List.cons_append, List.nil_append, List.append_nil, List.getElem?_cons_zero, List.getElem?_cons_succ, List.take_succ_cons, List.take_zero, List.set_cons_zero, List.set_cons_succ, List.length_map, Bool.and_true, Bool.true_and, Bool.and_false, Bool.false_and, Bool.and_self, Bool.not_true, Bool.not_false, and_true, true_and, and_self, ne_eq, not_true_eq_false, not_false_eq_true, beq_self_eq_true, Option.isSome_none, Int.toNat_natCast, nat_nonneg, Nat.zero_add, Nat.add_zero, Nat.succ_ne_self, Nat.reduceLeDiff, Nat.reduceEqDiff, Nat.reduceMul, Nat.reduceSub, Nat.le_refl, Nat.zero_le, List.getElem?_map, List.map_nil, fillS, zipP, evalPs, List.replicate_zero, List.replicate_succ, appendV, List.isEmpty_cons, Nat.mul_zero, Nat.zero_mul, true_or, or_true, or_false, false_or, List.take_length, ite_self, z0, z1, bq1, bq2, Int.toNat_zero, z00, Nat.le_add_right, Fin_ret, Fin_nrm, Fin_pan, X_top, resV, exports, nodupK, exportT, exportA, exportL, export1, tupV, List.contains_nil, m17, e1, q1', q1'', e2, g, e3]
  · have q1' : (checkF p != 0) = true := by simp [q1]
    have q1'' : (checkF p = 0) = False := eq_false q1
    simp only [vmr, vmw, vmp, ↓reduceIte, Nat.reduceBEq, Nat.reduceLT, Nat.reduceAdd, Nat.reduceEqDiff, reduceCtorEq, decide_true, decide_false, evalO, evalOs, ofValue, ofLeaf, params, tget, sub, aok, builtinV, overwrite, vlen, assignTo, settle1, settleL, newVarV, newArr, cellsAt, readT, storeAt, writeE, cellsV, vleaf, frz, frzs, refs, refsL, fitsE, binV, intOp, boolOp, nilOp, isNilS, unV, fillE, velems, callV_s, CR_some, CD, importV, import1, importL, importT, imm, immL, pureR, pureRL, shapeR, flatR, shares, sharesL, hand_cons, hand_nil, oks, vst, vmd, ty, List.all_cons, List.all_nil, List.length_cons, List.length_nil, List.drop_succ_cons, List.drop_zero, List.drop_nil, List.head?_cons, List.head?_nil, List.cons_append, List.nil_append, List.append_nil, List.getElem?_cons_zero, List.getElem?_cons_succ, List.take_succ_cons, List.take_zero, List.set_cons_zero, List.set_cons_succ, List.length_map, Bool.and_true, Bool.true_and, Bool.and_false, Bool.false_and, Bool.and_self, Bool.not_true, Bool.not_false, and_true, true_and, and_self, ne_eq, not_true_eq_false, not_false_eq_true, beq_self_eq_true, Option.isSome_none, Int.toNat_natCast, nat_nonneg, Nat.zero_add, Nat.add_zero, Nat.succ_ne_self, Nat.reduceLeDiff, Nat.reduceEqDiff, Nat.reduceMul, Nat.reduceSub, Nat.le_refl, Nat.zero_le, List.getElem?_map, List.map_nil, fillS, zipP, evalPs, List.replicate_zero, List.replicate_succ, appendV, List.isEmpty_cons, Nat.mul_zero, Nat.zero_mul, true_or, or_true, or_false, false_or, List.take_length, ite_self, z0, z1, bq1, bq2, Int.toNat_zero, z00, Nat.le_add_right, Fin_ret, Fin_nrm, Fin_pan, X_top, resV, exports, nodupK, exportT, exportA, exportL, export1, tupV, List.contains_nil, m17, e1, q1', q1'']
theorem w19 (p : Prot) (more : Int) (hp : p.ok) : SoundPure Try.prog 19 [p.v, I more] (.ret (.tup [ownO (StartF p more).1, I (StartF p more).2])) := by
  refine s19 hU5 1 (by simp) (by cases (StartF p more).1 <;> rfl) ?_
  simp only [c19, Try.f19, gets]
  have e1 := F15_eq hp
  unfold StartF
  by_cases q1 : checkF p = 0
  · have q1' : (checkF p != 0) = false := by simp [q1]
    have q1'' : (checkF p = 0) = True := eq_true q1
    by_cases q2 : more < 0
    · have q2' := eq_true q2
      simp only [vmr, vmw, vmp, ↓reduceIte, Nat.reduceBEq, Nat.reduceLT, Nat.reduceAdd, Nat.reduceEqDiff, reduceCtorEq, decide_true, decide_false, evalO, evalOs, ofValue, ofLeaf, params, tget, sub, aok, builtinV, overwrite, vlen, assignTo, settle1, settleL, newVarV, newArr, cellsAt, readT, storeAt, writeE, cellsV, vleaf, frz, frzs, refs, refsL, fitsE, binV, intOp, boolOp, nilOp, isNilS, unV, fillE, velems, callV_s, CR_some, CD, importV, import1, importL, importT, imm, immL, pureR, pureRL, shapeR, flatR, shares, sharesL, hand_cons, hand_nil, oks, vst, vmd, ty, List.all_cons, List.all_nil, List.length_cons, List.length_nil, List.drop_succ_cons, List.drop_zero, List.drop_nil, List.head?_cons, List.head?_nil, List.cons_append, List.nil_append, List.append_nil, List.getElem?_cons_zero, List.getElem?_cons_succ, List.take_succ_cons, List.take_zero, List.set_cons_zero, List.set_cons_succ, List.length_map, Bool.and_true, Bool.true_and, Bool.and_false, Bool.false_and, Bool.and_self, Bool.not_true, Bool.not_false, and_true, true_and, and_self, ne_eq, not_true_eq_false, not_false_eq_true, beq_self_eq_true, Option.isSome_none, Int.toNat_natCast, nat_nonneg, Nat.zero_add, Nat.add_zero, Nat.succ_ne_self, Nat.reduceLeDiff, Nat.reduceEqDiff, Nat.reduceMul, Nat.reduceSub, Nat.le_refl, Nat.zero_le, List.getElem?_map, List.map_nil, fillS, zipP, evalPs, List.replicate_zero, List.replicate_succ, appendV, List.isEmpty_cons, Nat.mul_zero, Nat.zero_mul, true_or, or_true, or_false, false_or, List.take_length, ite_self, z0, z1, bq1, bq2, Int.toNat_zero, z00, Nat.le_add_right, Fin_ret, Fin_nrm, Fin_pan, X_top, resV, exports, nodupK, exportT, exportA, exportL, export1, tupV, List.contains_nil, m19, e1, q1', q1'', q2', ownO]
    have q2' := eq_false q2
    by_cases q3 : more > 1000
    · have q3' := eq_true q3
      simp only [vmr, vmw, vmp, ↓reduceIte, Nat.reduceBEq, Nat.reduceLT, Nat.reduceAdd, Nat.reduceEqDiff, reduceCtorEq, decide_true, decide_false, evalO, evalOs, ofValue, ofLeaf, params, tget, sub, aok, builtinV, overwrite, vlen, assignTo, settle1, settleL, newVarV, newArr, cellsAt, readT, storeAt, writeE, cellsV, vleaf, frz, frzs, refs, refsL, fitsE, binV, intOp, boolOp, nilOp, isNilS, unV, fillE, velems, callV_s, CR_some, CD, importV, import1, importL, importT, imm, immL, pureR, pureRL, shapeR, flatR, shares, sharesL, hand_cons, hand_nil, oks, vst, vmd, ty, List.all_cons, List.all_nil, List.length_cons, List.length_nil, List.drop_succ_cons, List.drop_zero, List.drop_nil, List.head?_cons, List.head?_nil, List.cons_append, List.nil_append, List.append_nil, List.getElem?_cons_zero, List.getElem?_cons_succ, List.take_succ_cons, List.take_zero, List.set_cons_zero, List.set_cons_succ, List.length_map, Bool.and_true, Bool.true_and, Bool.and_false, Bool.false_and, Bool.and_self, Bool.not_true, Bool.not_false, and_true, true_and, and_self, ne_eq, not_true_eq_false, not_false_eq_true, beq_self_eq_true, Option.isSome_none, Int.toNat_natCast, nat_nonneg, Nat.zero_add, Nat.add_zero, Nat.succ_ne_self, Nat.reduceLeDiff, Nat.reduceEqDiff, Nat.reduceMul, Nat.reduceSub, Nat.le_refl, Nat.zero_le, List.getElem?_map, List.map_nil, fillS, zipP, evalPs, List.replicate_zero, List.replicate_succ, appendV, List.isEmpty_cons, Nat.mul_zero, Nat.zero_mul, true_or, or_true, or_false, false_or, List.take_length, ite_self, z0, z1, bq1, bq2, Int.toNat_zero, z00, Nat.le_add_right, Fin_ret, Fin_nrm, Fin_pan, X_top, resV, exports, nodupK, exportT, exportA, exportL, export1, tupV, List.contains_nil, m19, e1, q1', q1'', q2', q3', ownO]
    have q3' := eq_false q3
    obtain ⟨_, _, _, _, _, h1, h2, _, _⟩ := checkF_facts q1
    have hr := @room3 p.begin.length (by have := hp.begin; omega)
    have hr0 := @room3 0 (by omega)
    have g1 := eq_true h1
    have g2 := eq_true h2
    have g3 := getI (l := p.begin) (i := p.free.toNat) (by omega)
    have hl : (startF p more).length = p.begin.length := by simp [startF]
    have ht := take_of (startF p more) hl
    have hs : p.begin.set p.free.toNat (IntKind.i64.wrap (p.begin.getD p.free.toNat 0 + more)) = startF p more := rfl
    simp only [vmr, vmw, vmp, ↓reduceIte, Nat.reduceBEq, Nat.reduceLT, Nat.reduceAdd, Nat.reduceEqDiff, reduceCtorEq, decide_true, decide_false, evalO, evalOs, ofValue, ofLeaf, params, tget, sub, aok, builtinV, overwrite, vlen, assignTo, settle1, settleL, newVarV, newArr, cellsAt, readT, storeAt, writeE, cellsV, vleaf, frz, frzs, refs, refsL, fitsE, binV, intOp, boolOp, nilOp, isNilS, unV, fillE, velems, callV_s, CR_some, CD, importV, import1, importL, importT, imm, immL, pureR, pureRL, shapeR, flatR, shares, sharesL, hand_cons, hand_nil, oks, vst, vmd, ty, List.all_cons, List.all_nil, List.length_cons, List.length_nil, List.drop_succ_cons, List.drop_zero, List.drop_nil, List.head?_cons, List.head?_nil, List.cons_append, List.nil_append, List.append_nil, List.getElem?_cons_zero, List.getElem?_cons_succ, List.take_succ_cons, List.take_zero, List.set_cons_zero, List.set_cons_succ, List.length_map, Bool.and_true, Bool.true_and, Bool.and_false, Bool.false_and, Bool.and_self, Bool.not_true, Bool.not_false, and_true, true_and, and_self, ne_eq, not_true_eq_false, not_false_eq_true, beq_self_eq_true, Option.isSome_none, Int.toNat_natCast, nat_nonneg, Nat.zero_add, Nat.add_zero, Nat.succ_ne_self, Nat.reduceLeDiff, Nat.reduceEqDiff, Nat.reduceMul, Nat.reduceSub, Nat.le_refl, Nat.zero_le, List.getElem?_map, List.map_nil, fillS, zipP, evalPs, List.replicate_zero, List.replicate_succ, appendV, List.isEmpty_cons, Nat.mul_zero, Nat.zero_mul, true_or, or_true, or_false, false_or, List.take_length, ite_self, z0, z1, bq1, bq2, Int.toNat_zero, z00, Nat.le_add_right, Fin_ret, Fin_nrm, Fin_pan, X_top, resV, exports, nodupK, exportT, exportA, exportL, export1, tupV, List.contains_nil, m19, e1, q1', q1'', q2', q3', ownO, hr, hr0, fitsI, allfitsI, shI, g1, g2, g3, setI, hs, ht, hl]
  · have q1' : (checkF p != 0) = true := by simp [q1]
    have q1'' : (checkF p = 0) = False := eq_false q1
    simp only [vmr, vmw, vmp, ↓reduceIte, Nat.reduceBEq, Nat.reduceLT, Nat.reduceAdd, Nat.reduceEqDiff, reduceCtorEq, decide_true, decide_false, evalO, evalOs, ofValue, ofLeaf, params, tget, sub, aok, builtinV, overwrite, vlen, assignTo, settle1, settleL, newVarV, newArr, cellsAt, readT, storeAt, writeE, cellsV, vleaf, frz, frzs, refs, refsL, fitsE, binV, intOp, boolOp, nilOp, isNilS, unV, fillE, velems, callV_s, CR_some, CD, importV, import1, importL, importT, imm, immL, pureR, pureRL, shapeR, flatR, shares, sharesL, hand_cons, hand_nil, oks, vst, vmd, ty, List.all_cons, List.all_nil, List.length_cons, List.length_nil, List.drop_succ_cons, List.drop_zero, List.drop_nil, List.head?_cons, List.head?_nil, List.cons_append, List.nil_append, List.append_nil, List.getElem?_cons_zero, List.getElem?_cons_succ, List.take_succ_cons, List.take_zero, List.set_cons_zero, List.set_cons_succ, List.length_map, Bool.and_true, Bool.true_and, Bool.and_false, Bool.false_and, Bool.and_self, Bool.not_true, Bool.not_false, and_true, true_and, and_self, ne_eq, not_true_eq_false, not_false_eq_true, beq_self_eq_true, Option.isSome_none, Int.toNat_natCast, nat_nonneg, Nat.zero_add, Nat.add_zero, Nat.succ_ne_self, Nat.reduceLeDiff, Nat.reduceEqDiff, Nat.reduceMul, Nat.reduceSub, Nat.le_refl, Nat.zero_le, List.getElem?_map, List.map_nil, fillS, zipP, evalPs, List.replicate_zero, List.replicate_succ, appendV, List.isEmpty_cons, Nat.mul_zero, Nat.zero_mul, true_or, or_true, or_false, false_or, List.take_length, ite_self, z0, z1, bq1, bq2, Int.toNat_zero, z00, Nat.le_add_right, Fin_ret, Fin_nrm, Fin_pan, X_top, resV, exports, nodupK, exportT, exportA, exportL, export1, tupV, List.contains_nil, m19, e1, q1', q1'', ownO]
end Go.Vi
set_option maxRecDepth 100000
set_option maxHeartbeats 4000000
namespace Go.Vi
open Go Go.Proofs

def sumF : List Int → Int → List Int → List Int × Int
  | out, sum, [] => (out, sum)
  | out, sum, c :: r => sumF (out.set c.toNat 0) (w64 (sum + out.getD c.toNat 0)) r
theorem sumF_len : ∀ r out sum, (sumF out sum r).1.length = out.length
  | [], out, i => rfl
  | x :: r, out, sum => by simp only [sumF]; rw [sumF_len r, List.length_set]

theorem l24a {H n k out v2 vo} (st : List Int) (hb : st.length ≤ 1000000) (rule : Rule) (hl2 : rule.take.length = st.length) : ∀ r i (o : List Int) n' s, rule.take.drop i = r → r.length < n' → o.length = st.length →
    tget s.τ 1 = Is st → tget s.τ 2 = .ptr ⟨0, 2, 0⟩ v2 0 0 → lget s.L (2, 0) = some (v2, .var rule.cs) → tget s.τ 6 = .ref ⟨0, 6, 0⟩ vo 0 st.length → lget s.L (6, 0) = some (vo, .arr 1 (o.map I)) → tget s.τ 7 = I (i : Nat) →
    (covF st r i = false → out = some (.ret (.tup [.nilS, .bool false]))) →
    (covF st r i = true → ∀ s', tget s'.τ 1 = Is st → tget s'.τ 2 = .ptr ⟨0, 2, 0⟩ v2 0 0 → lget s'.L (2, 0) = some (v2, .var rule.cs) → tget s'.τ 6 = .ref ⟨0, 6, 0⟩ vo 0 st.length → lget s'.L (6, 0) = some (vo, .arr 1 ((subF o r i).map I)) →
      Fin (M24 H n) [.tmp 4, .tmp 5] (X (M24 H n) (.exit 0) k s') = out) →
    Fin (M24 H n) [.tmp 4, .tmp 5] (L (M24 H n) (sub [1, 1, 0, 1, 0, 0] c24) n' k s) = out
  | [], i, o, n' + 1, s, hi, hn, hl, h1, h2, h2', h6, h6', hI, ho, hx => by
    have hc := inlt (n := st.length) (i := i) (by have := drop_nil' hi; omega)
    rw [L_succ]
    simp only [vmr, vmw, vmp, ↓reduceIte, Nat.reduceBEq, Nat.reduceLT, Nat.reduceAdd, Nat.reduceEqDiff, reduceCtorEq, decide_true, decide_false, evalO, evalOs, ofValue, ofLeaf, params, tget, sub, aok, builtinV, overwrite, vlen, assignTo, settle1, settleL, newVarV, newArr, cellsAt, readT, storeAt, writeE, cellsV, vleaf, frz, frzs, refs, refsL, fitsE, binV, intOp, boolOp, nilOp, isNilS, unV, fillE, velems, callV_s, CR_some, CD, importV, import1, importL, importT, imm, immL, pureR, pureRL, shapeR, flatR, shares, sharesL, hand_cons, hand_nil, oks, vst, vmd, ty, List.all_cons, List.all_nil, List.length_cons, List.length_nil, List.drop_succ_cons, List.drop_zero, List.drop_nil, List.head?_cons, List.head?_nil, List.cons_append, List.nil_append, List.append_nil, List.getElem?_cons_zero, List.getElem?_cons_succ, List.take_succ_cons, List.take_zero, List.set_cons_zero, List.set_cons_succ, List.length_map, Bool.and_true, Bool.true_and, Bool.and_false, Bool.false_and, Bool.and_self, Bool.not_true, Bool.not_false, and_true, true_and, and_self, ne_eq, not_true_eq_false, not_false_eq_true, beq_self_eq_true, Option.isSome_none, Int.toNat_natCast, nat_nonneg, Nat.zero_add, Nat.add_zero, Nat.succ_ne_self, Nat.reduceLeDiff, Nat.reduceEqDiff, Nat.reduceMul, Nat.reduceSub, Nat.le_refl, Nat.zero_le, List.getElem?_map, List.map_nil, fillS, zipP, evalPs, List.replicate_zero, List.replicate_succ, appendV, List.isEmpty_cons, Nat.mul_zero, Nat.zero_mul, true_or, or_true, or_false, false_or, List.take_length, ite_self, z0, z1, bq1, bq2, Int.toNat_zero, z00, Nat.le_add_right, c24, Try.f24, m24, h1, hI, hc]
    refine hx rfl _ ?_ ?_ ?_ ?_ ?_
    all_goals simp only [vmr, vmw, vmp, ↓reduceIte, Nat.reduceBEq, Nat.reduceLT, Nat.reduceAdd, Nat.reduceEqDiff, reduceCtorEq, decide_true, decide_false, evalO, evalOs, ofValue, ofLeaf, params, tget, sub, aok, builtinV, overwrite, vlen, assignTo, settle1, settleL, newVarV, newArr, cellsAt, readT, storeAt, writeE, cellsV, vleaf, frz, frzs, refs, refsL, fitsE, binV, intOp, boolOp, nilOp, isNilS, unV, fillE, velems, callV_s, CR_some, CD, importV, import1, importL, importT, imm, immL, pureR, pureRL, shapeR, flatR, shares, sharesL, hand_cons, hand_nil, oks, vst, vmd, ty, List.all_cons, List.all_nil, List.length_cons, List.length_nil, List.drop_succ_cons, List.drop_zero, List.drop_nil, List.head?_cons, List.head?_nil, List.cons_append, List.nil_append, List.append_nil, List.getElem?_cons_zero, List.getElem?_cons_succ, List.take_succ_cons, List.take_zero, List.set_cons_zero, List.set_cons_succ, List.length_map, Bool.and_true, Bool.true_and, Bool.and_false, Bool.false_and, Bool.and_self, Bool.not_true, Bool.not_false, and_true, true_and, and_self, ne_eq, not_true_eq_false, not_false_eq_true, beq_self_eq_true, Option.isSome_none, Int.toNat_natCast, nat_nonneg, Nat.zero_add, Nat.add_zero, Nat.succ_ne_self, Nat.reduceLeDiff, Nat.reduceEqDiff, Nat.reduceMul, Nat.reduceSub, Nat.le_refl, Nat.zero_le, List.getElem?_map, List.map_nil, fillS, zipP, evalPs, List.replicate_zero, List.replicate_succ, appendV, List.isEmpty_cons, Nat.mul_zero, Nat.zero_mul, true_or, or_true, or_false, false_or, List.take_length, ite_self, z0, z1, bq1, bq2, Int.toNat_zero, z00, Nat.le_add_right, m24, h1, h2, h2', h6, h6', subF]
  | x :: r, i, o, n' + 1, s, hi, hn, hl, h1, h2, h2', h6, h6', hI, ho, hx => by
    obtain ⟨hg, hd, hlt⟩ := drop_cons hi
    have hc := ilt (show i < st.length by omega)
    have hgo := getI (l := o) (i := i) (by omega)
    have hgs := getI (l := st) (i := i) (by omega)
    have hw := wsucc hlt (show rule.take.length ≤ 1000000 by omega)
    have hs1 : calm (M24 H n).E (opsAt (sub [1, 1, 0, 1, 0, 0, 1, 0, 0, 0, 0] c24)) = true := by kernel_rfl
    have hs2 : calm (M24 H n).E (opsAt (sub [1, 1, 0, 1, 0, 0, 1, 0, 0, 1] c24)) = true := by kernel_rfl
    simp only [sub, c24, Try.f24, gets, opsAt] at hs1 hs2
    rw [L_succ]
    by_cases q : st.getD i 0 < x
    · have q' := eq_true q
      rw [ho (by simp only [covF, if_pos q])]
      simp only [vmr, vmw, vmp, ↓reduceIte, Nat.reduceBEq, Nat.reduceLT, Nat.reduceAdd, Nat.reduceEqDiff, reduceCtorEq, decide_true, decide_false, evalO, evalOs, ofValue, ofLeaf, params, tget, sub, aok, builtinV, overwrite, vlen, assignTo, settle1, settleL, newVarV, newArr, cellsAt, readT, storeAt, writeE, cellsV, vleaf, frz, frzs, refs, refsL, fitsE, binV, intOp, boolOp, nilOp, isNilS, unV, fillE, velems, callV_s, CR_some, CD, importV, import1, importL, importT, imm, immL, pureR, pureRL, shapeR, flatR, shares, sharesL, hand_cons, hand_nil, oks, vst, vmd, ty, List.all_cons, List.all_nil, List.length_cons, List.length_nil, List.drop_succ_cons, List.drop_zero, List.drop_nil, List.head?_cons, List.head?_nil, List.cons_append, List.nil_append, List.append_nil, List.getElem?_cons_zero, List.getElem?_cons_succ, List.take_succ_cons, List.take_zero, List.set_cons_zero, List.set_cons_succ, List.length_map, Bool.and_true, Bool.true_and, Bool.and_false, Bool.false_and, Bool.and_self, Bool.not_true, Bool.not_false, and_true, true_and, and_self, ne_eq, not_true_eq_false, not_false_eq_true, beq_self_eq_true, Option.isSome_none, Int.toNat_natCast, nat_nonneg, Nat.zero_add, Nat.add_zero, Nat.succ_ne_self, Nat.reduceLeDiff, Nat.reduceEqDiff, Nat.reduceMul, Nat.reduceSub, Nat.le_refl, Nat.zero_le, List.getElem?_map, List.map_nil, fillS, zipP, evalPs, List.replicate_zero, List.replicate_succ, appendV, List.isEmpty_cons, Nat.mul_zero, Nat.zero_mul, true_or, or_true, or_false, false_or, List.take_length, ite_self, z0, z1, bq1, bq2, Int.toNat_zero, z00, Nat.le_add_right, Fin_ret, Fin_nrm, Fin_pan, X_top, resV, exports, nodupK, exportT, exportA, exportL, export1, tupV, List.contains_nil, c24, Try.f24, m24, h1, hI, hc, hg, h2, h2', h6, h6', hw, hgo, hgs, hs1, hs2, q']
    · have q' := eq_false q
      simp only [vmr, vmw, vmp, ↓reduceIte, Nat.reduceBEq, Nat.reduceLT, Nat.reduceAdd, Nat.reduceEqDiff, reduceCtorEq, decide_true, decide_false, evalO, evalOs, ofValue, ofLeaf, params, tget, sub, aok, builtinV, overwrite, vlen, assignTo, settle1, settleL, newVarV, newArr, cellsAt, readT, storeAt, writeE, cellsV, vleaf, frz, frzs, refs, refsL, fitsE, binV, intOp, boolOp, nilOp, isNilS, unV, fillE, velems, callV_s, CR_some, CD, importV, import1, importL, importT, imm, immL, pureR, pureRL, shapeR, flatR, shares, sharesL, hand_cons, hand_nil, oks, vst, vmd, ty, List.all_cons, List.all_nil, List.length_cons, List.length_nil, List.drop_succ_cons, List.drop_zero, List.drop_nil, List.head?_cons, List.head?_nil, List.cons_append, List.nil_append, List.append_nil, List.getElem?_cons_zero, List.getElem?_cons_succ, List.take_succ_cons, List.take_zero, List.set_cons_zero, List.set_cons_succ, List.length_map, Bool.and_true, Bool.true_and, Bool.and_false, Bool.false_and, Bool.and_self, Bool.not_true, Bool.not_false, and_true, true_and, and_self, ne_eq, not_true_eq_false, not_false_eq_true, beq_self_eq_true, Option.isSome_none, Int.toNat_natCast, nat_nonneg, Nat.zero_add, Nat.add_zero, Nat.succ_ne_self, Nat.reduceLeDiff, Nat.reduceEqDiff, Nat.reduceMul, Nat.reduceSub, Nat.le_refl, Nat.zero_le, List.getElem?_map, List.map_nil, fillS, zipP, evalPs, List.replicate_zero, List.replicate_succ, appendV, List.isEmpty_cons, Nat.mul_zero, Nat.zero_mul, true_or, or_true, or_false, false_or, List.take_length, ite_self, z0, z1, bq1, bq2, Int.toNat_zero, z00, Nat.le_add_right, c24, Try.f24, m24, h1, hI, hc, hg, h2, h2', h6, h6', hw, hgo, hgs, hs1, hs2, q', setI]
      simp only [covF, if_neg q, subF] at ho hx
      have := fun s => @l24a H n k out v2 vo st hb rule hl2 r (i+1) (o.set i (w64 (o.getD i 0 - x))) n' s hd (by simp at hn; omega) (by simp [hl])
      simp only [sub, c24, Try.f24, gets] at this
      refine this _ ?_ ?_ ?_ ?_ ?_ ?_ ho hx
      all_goals simp only [vmr, vmw, vmp, ↓reduceIte, Nat.reduceBEq, Nat.reduceLT, Nat.reduceAdd, Nat.reduceEqDiff, reduceCtorEq, decide_true, decide_false, evalO, evalOs, ofValue, ofLeaf, params, tget, sub, aok, builtinV, overwrite, vlen, assignTo, settle1, settleL, newVarV, newArr, cellsAt, readT, storeAt, writeE, cellsV, vleaf, frz, frzs, refs, refsL, fitsE, binV, intOp, boolOp, nilOp, isNilS, unV, fillE, velems, callV_s, CR_some, CD, importV, import1, importL, importT, imm, immL, pureR, pureRL, shapeR, flatR, shares, sharesL, hand_cons, hand_nil, oks, vst, vmd, ty, List.all_cons, List.all_nil, List.length_cons, List.length_nil, List.drop_succ_cons, List.drop_zero, List.drop_nil, List.head?_cons, List.head?_nil, List.cons_append, List.nil_append, List.append_nil, List.getElem?_cons_zero, List.getElem?_cons_succ, List.take_succ_cons, List.take_zero, List.set_cons_zero, List.set_cons_succ, List.length_map, Bool.and_true, Bool.true_and, Bool.and_false, Bool.false_and, Bool.and_self, Bool.not_true, Bool.not_false, and_true, true_and, and_self, ne_eq, not_true_eq_false, not_false_eq_true, beq_self_eq_true, Option.isSome_none, Int.toNat_natCast, nat_nonneg, Nat.zero_add, Nat.add_zero, Nat.succ_ne_self, Nat.reduceLeDiff, Nat.reduceEqDiff, Nat.reduceMul, Nat.reduceSub, Nat.le_refl, Nat.zero_le, List.getElem?_map, List.map_nil, fillS, zipP, evalPs, List.replicate_zero, List.replicate_succ, appendV, List.isEmpty_cons, Nat.mul_zero, Nat.zero_mul, true_or, or_true, or_false, false_or, List.take_length, ite_self, z0, z1, bq1, bq2, Int.toNat_zero, z00, Nat.le_add_right, m24, h1, h2, h2', h6, h6', hI, setI]
theorem l24b {H n k out v2 vo} (st : List Int) (hb : st.length ≤ 1000000) (rule : Rule) (hcl : rule.clear.length ≤ 1000000) (hcr : ∀ c ∈ rule.clear, 0 ≤ c ∧ c < st.length) : ∀ r i (o : List Int) sum n' s, rule.clear.drop i = r → r.length < n' → o.length = st.length →
    tget s.τ 1 = Is st → tget s.τ 2 = .ptr ⟨0, 2, 0⟩ v2 0 0 → lget s.L (2, 0) = some (v2, .var rule.cs) → tget s.τ 6 = .ref ⟨0, 6, 0⟩ vo 0 st.length → lget s.L (6, 0) = some (vo, .arr 1 (o.map I)) → tget s.τ 8 = I sum → tget s.τ 9 = I (i : Nat) →
    (∀ s', tget s'.τ 1 = Is st → tget s'.τ 2 = .ptr ⟨0, 2, 0⟩ v2 0 0 → lget s'.L (2, 0) = some (v2, .var rule.cs) → tget s'.τ 6 = .ref ⟨0, 6, 0⟩ vo 0 st.length → lget s'.L (6, 0) = some (vo, .arr 1 ((sumF o sum r).1.map I)) → tget s'.τ 8 = I (sumF o sum r).2 →
      Fin (M24 H n) [.tmp 4, .tmp 5] (X (M24 H n) (.exit 2) k s') = out) →
    Fin (M24 H n) [.tmp 4, .tmp 5] (L (M24 H n) (sub [1, 1, 1, 1, 0, 1, 0, 0] c24) n' k s) = out
  | [], i, o, sum, n' + 1, s, hi, hn, hl, h1, h2, h2', h6, h6', h8, hI, hx => by
    have hc := inlt (drop_nil' hi)
    rw [L_succ]
    simp only [vmr, vmw, vmp, ↓reduceIte, Nat.reduceBEq, Nat.reduceLT, Nat.reduceAdd, Nat.reduceEqDiff, reduceCtorEq, decide_true, decide_false, evalO, evalOs, ofValue, ofLeaf, params, tget, sub, aok, builtinV, overwrite, vlen, assignTo, settle1, settleL, newVarV, newArr, cellsAt, readT, storeAt, writeE, cellsV, vleaf, frz, frzs, refs, refsL, fitsE, binV, intOp, boolOp, nilOp, isNilS, unV, fillE, velems, callV_s, CR_some, CD, importV, import1, importL, importT, imm, immL, pureR, pureRL, shapeR, flatR, shares, sharesL, hand_cons, hand_nil, oks, vst, vmd, ty, List.all_cons, List.all_nil, List.length_cons, List.length_nil, List.drop_succ_cons, List.drop_zero, List.drop_nil, List.head?_cons, List.head?_nil, List.cons_append, List.nil_append, List.append_nil, List.getElem?_cons_zero, List.getElem?_cons_succ, List.take_succ_cons, List.take_zero, List.set_cons_zero, List.set_cons_succ, List.length_map, Bool.and_true, Bool.true_and, Bool.and_false, Bool.false_and, Bool.and_self, Bool.not_true, Bool.not_false, and_true, true_and, and_self, ne_eq, not_true_eq_false, not_false_eq_true, beq_self_eq_true, Option.isSome_none, Int.toNat_natCast, nat_nonneg, Nat.zero_add, Nat.add_zero, Nat.succ_ne_self, Nat.reduceLeDiff, Nat.reduceEqDiff, Nat.reduceMul, Nat.reduceSub, Nat.le_refl, Nat.zero_le, List.getElem?_map, List.map_nil, fillS, zipP, evalPs, List.replicate_zero, List.replicate_succ, appendV, List.isEmpty_cons, Nat.mul_zero, Nat.zero_mul, true_or, or_true, or_false, false_or, List.take_length, ite_self, z0, z1, bq1, bq2, Int.toNat_zero, z00, Nat.le_add_right, c24, Try.f24, m24, h2, h2', hI, hc]
    refine hx _ ?_ ?_ ?_ ?_ ?_ ?_
    all_goals simp only [vmr, vmw, vmp, ↓reduceIte, Nat.reduceBEq, Nat.reduceLT, Nat.reduceAdd, Nat.reduceEqDiff, reduceCtorEq, decide_true, decide_false, evalO, evalOs, ofValue, ofLeaf, params, tget, sub, aok, builtinV, overwrite, vlen, assignTo, settle1, settleL, newVarV, newArr, cellsAt, readT, storeAt, writeE, cellsV, vleaf, frz, frzs, refs, refsL, fitsE, binV, intOp, boolOp, nilOp, isNilS, unV, fillE, velems, callV_s, CR_some, CD, importV, import1, importL, importT, imm, immL, pureR, pureRL, shapeR, flatR, shares, sharesL, hand_cons, hand_nil, oks, vst, vmd, ty, List.all_cons, List.all_nil, List.length_cons, List.length_nil, List.drop_succ_cons, List.drop_zero, List.drop_nil, List.head?_cons, List.head?_nil, List.cons_append, List.nil_append, List.append_nil, List.getElem?_cons_zero, List.getElem?_cons_succ, List.take_succ_cons, List.take_zero, List.set_cons_zero, List.set_cons_succ, List.length_map, Bool.and_true, Bool.true_and, Bool.and_false, Bool.false_and, Bool.and_self, Bool.not_true, Bool.not_false, and_true, true_and, and_self, ne_eq, not_true_eq_false, not_false_eq_true, beq_self_eq_true, Option.isSome_none, Int.toNat_natCast, nat_nonneg, Nat.zero_add, Nat.add_zero, Nat.succ_ne_self, Nat.reduceLeDiff, Nat.reduceEqDiff, Nat.reduceMul, Nat.reduceSub, Nat.le_refl, Nat.zero_le, List.getElem?_map, List.map_nil, fillS, zipP, evalPs, List.replicate_zero, List.replicate_succ, appendV, List.isEmpty_cons, Nat.mul_zero, Nat.zero_mul, true_or, or_true, or_false, false_or, List.take_length, ite_self, z0, z1, bq1, bq2, Int.toNat_zero, z00, Nat.le_add_right, m24, h1, h2, h2', h6, h6', h8, sumF]
  | c :: r, i, o, sum, n' + 1, s, hi, hn, hl, h1, h2, h2', h6, h6', h8, hI, hx => by
    obtain ⟨hg, hd, hlt⟩ := drop_cons hi
    have hc := ilt hlt
    have hcb := hcr c (mem_of hg)
    have hc0 : (0 ≤ c) = True := by simp [hcb.1]
    have hc2 : (c < (st.length:Int)) = True := by simp [hcb.2]
    have ho := getI (l := o) (i := c.toNat) (by omega)
    have hw := wsucc hlt hcl
    rw [L_succ]
    simp only [vmr, vmw, vmp, ↓reduceIte, Nat.reduceBEq, Nat.reduceLT, Nat.reduceAdd, Nat.reduceEqDiff, reduceCtorEq, decide_true, decide_false, evalO, evalOs, ofValue, ofLeaf, params, tget, sub, aok, builtinV, overwrite, vlen, assignTo, settle1, settleL, newVarV, newArr, cellsAt, readT, storeAt, writeE, cellsV, vleaf, frz, frzs, refs, refsL, fitsE, binV, intOp, boolOp, nilOp, isNilS, unV, fillE, velems, callV_s, CR_some, CD, importV, import1, importL, importT, imm, immL, pureR, pureRL, shapeR, flatR, shares, sharesL, hand_cons, hand_nil, oks, vst, vmd, ty, List.all_cons, List.all_nil, List.length_cons, List.length_nil, List.drop_succ_cons, List.drop_zero, List.drop_nil, List.head?_cons, List.head?_nil, List.cons_append, List.nil_append, List.append_nil, List.getElem?_cons_zero, List.getElem?_cons_succ, List.take_succ_cons, List.take_zero, List.set_cons_zero, List.set_cons_succ, List.length_map, Bool.and_true, Bool.true_and, Bool.and_false, Bool.false_and, Bool.and_self, Bool.not_true, Bool.not_false, and_true, true_and, and_self, ne_eq, not_true_eq_false, not_false_eq_true, beq_self_eq_true, Option.isSome_none, Int.toNat_natCast, nat_nonneg, Nat.zero_add, Nat.add_zero, Nat.succ_ne_self, Nat.reduceLeDiff, Nat.reduceEqDiff, Nat.reduceMul, Nat.reduceSub, Nat.le_refl, Nat.zero_le, List.getElem?_map, List.map_nil, fillS, zipP, evalPs, List.replicate_zero, List.replicate_succ, appendV, List.isEmpty_cons, Nat.mul_zero, Nat.zero_mul, true_or, or_true, or_false, false_or, List.take_length, ite_self, z0, z1, bq1, bq2, Int.toNat_zero, z00, Nat.le_add_right, c24, Try.f24, m24, h1, hI, hc, hg, h2, h2', h6, h6', h8, hw, ho, hc0, hc2, setI]
    simp only [sumF] at hx
    have := fun s => @l24b H n k out v2 vo st hb rule hcl hcr r (i+1) (o.set c.toNat 0) (w64 (sum + o.getD c.toNat 0)) n' s hd (by simp at hn; omega) (by simp [hl])
    simp only [sub, c24, Try.f24, gets] at this
    refine this _ ?_ ?_ ?_ ?_ ?_ ?_ ?_ hx
    all_goals simp only [vmr, vmw, vmp, ↓reduceIte, Nat.reduceBEq, Nat.reduceLT, Nat.reduceAdd, Nat.reduceEqDiff, reduceCtorEq, decide_true, decide_false, evalO, evalOs, ofValue, ofLeaf, params, tget, sub, aok, builtinV, overwrite, vlen, assignTo, settle1, settleL, newVarV, newArr, cellsAt, readT, storeAt, writeE, cellsV, vleaf, frz, frzs, refs, refsL, fitsE, binV, intOp, boolOp, nilOp, isNilS, unV, fillE, velems, callV_s, CR_some, CD, importV, import1, importL, importT, imm, immL, pureR, pureRL, shapeR, flatR, shares, sharesL, hand_cons, hand_nil, oks, vst, vmd, ty, List.all_cons, List.all_nil, List.length_cons, List.length_nil, List.drop_succ_cons, List.drop_zero, List.drop_nil, List.head?_cons, List.head?_nil, List.cons_append, List.nil_append, List.append_nil, List.getElem?_cons_zero, List.getElem?_cons_succ, List.take_succ_cons, List.take_zero, List.set_cons_zero, List.set_cons_succ, List.length_map, Bool.and_true, Bool.true_and, Bool.and_false, Bool.false_and, Bool.and_self, Bool.not_true, Bool.not_false, and_true, true_and, and_self, ne_eq, not_true_eq_false, not_false_eq_true, beq_self_eq_true, Option.isSome_none, Int.toNat_natCast, nat_nonneg, Nat.zero_add, Nat.add_zero, Nat.succ_ne_self, Nat.reduceLeDiff, Nat.reduceEqDiff, Nat.reduceMul, Nat.reduceSub, Nat.le_refl, Nat.zero_le, List.getElem?_map, List.map_nil, fillS, zipP, evalPs, List.replicate_zero, List.replicate_succ, appendV, List.isEmpty_cons, Nat.mul_zero, Nat.zero_mul, true_or, or_true, or_false, false_or, List.take_length, ite_self, z0, z1, bq1, bq2, Int.toNat_zero, z00, Nat.le_add_right, m24, h1, h2, h2', h6, h6', h8, hI, setI]
theorem l24c {H n k out v2 vo} (st : List Int) (hb : st.length ≤ 1000000) (rule : Rule) (hl2 : rule.give.length = st.length) : ∀ r i (o : List Int) n' s, rule.give.drop i = r → r.length < n' → o.length = st.length →
    tget s.τ 1 = Is st → tget s.τ 2 = .ptr ⟨0, 2, 0⟩ v2 0 0 → lget s.L (2, 0) = some (v2, .var rule.cs) → tget s.τ 6 = .ref ⟨0, 6, 0⟩ vo 0 st.length → lget s.L (6, 0) = some (vo, .arr 1 (o.map I)) → tget s.τ 10 = I (i : Nat) →
    (∀ s', tget s'.τ 6 = .ref ⟨0, 6, 0⟩ vo 0 st.length → lget s'.L (6, 0) = some (vo, .arr 1 ((addF o r i).map I)) →
      Fin (M24 H n) [.tmp 4, .tmp 5] (X (M24 H n) (.exit 4) k s') = out) →
    Fin (M24 H n) [.tmp 4, .tmp 5] (L (M24 H n) (sub [1, 1, 1, 1, 1, 1, 0, 1, 0, 0] c24) n' k s) = out
  | [], i, o, n' + 1, s, hi, hn, hl, h1, h2, h2', h6, h6', hI, hx => by
    have hc := inlt (n := st.length) (i := i) (by have := drop_nil' hi; omega)
    rw [L_succ]
    simp only [vmr, vmw, vmp, ↓reduceIte, Nat.reduceBEq, Nat.reduceLT, Nat.reduceAdd, Nat.reduceEqDiff, reduceCtorEq, decide_true, decide_false, evalO, evalOs, ofValue, ofLeaf, params, tget, sub, aok, builtinV, overwrite, vlen, assignTo, settle1, settleL, newVarV, newArr, cellsAt, readT, storeAt, writeE, cellsV, vleaf, frz, frzs, refs, refsL, fitsE, binV, intOp, boolOp, nilOp, isNilS, unV, fillE, velems, callV_s, CR_some, CD, importV, import1, importL, importT, imm, immL, pureR, pureRL, shapeR, flatR, shares, sharesL, hand_cons, hand_nil, oks, vst, vmd, ty, List.all_cons, List.all_nil, List.length_cons, List.length_nil, List.drop_succ_cons, List.drop_zero, List.drop_nil, List.head?_cons, List.head?_nil, List.cons_append, List.nil_append, List.append_nil, List.getElem?_cons_zero, List.getElem?_cons_succ, List.take_succ_cons, List.take_zero, List.set_cons_zero, List.set_cons_succ, List.length_map, Bool.and_true, Bool.true_and, Bool.and_false, Bool.false_and, Bool.and_self, Bool.not_true, Bool.not_false, and_true, true_and, and_self, ne_eq, not_true_eq_false, not_false_eq_true, beq_self_eq_true, Option.isSome_none, Int.toNat_natCast, nat_nonneg, Nat.zero_add, Nat.add_zero, Nat.succ_ne_self, Nat.reduceLeDiff, Nat.reduceEqDiff, Nat.reduceMul, Nat.reduceSub, Nat.le_refl, Nat.zero_le, List.getElem?_map, List.map_nil, fillS, zipP, evalPs, List.replicate_zero, List.replicate_succ, appendV, List.isEmpty_cons, Nat.mul_zero, Nat.zero_mul, true_or, or_true, or_false, false_or, List.take_length, ite_self, z0, z1, bq1, bq2, Int.toNat_zero, z00, Nat.le_add_right, c24, Try.f24, m24, h1, hI, hc]
    refine hx _ ?_ ?_
    all_goals simp only [vmr, vmw, vmp, ↓reduceIte, Nat.reduceBEq, Nat.reduceLT, Nat.reduceAdd, Nat.reduceEqDiff, reduceCtorEq, decide_true, decide_false, evalO, evalOs, ofValue, ofLeaf, params, tget, sub, aok, builtinV, overwrite, vlen, assignTo, settle1, settleL, newVarV, newArr, cellsAt, readT, storeAt, writeE, cellsV, vleaf, frz, frzs, refs, refsL, fitsE, binV, intOp, boolOp, nilOp, isNilS, unV, fillE, velems, callV_s, CR_some, CD, importV, import1, importL, importT, imm, immL, pureR, pureRL, shapeR, flatR, shares, sharesL, hand_cons, hand_nil, oks, vst, vmd, ty, List.all_cons, List.all_nil, List.length_cons, List.length_nil, List.drop_succ_cons, List.drop_zero, List.drop_nil, List.head?_cons, List.head?_nil, List.cons_append, List.nil_append, List.append_nil, List.getElem?_cons_zero, List.getElem?_cons_succ, List.take_succ_cons, List.take_zero, List.set_cons_zero, List.set_cons_succ, List.length_map, Bool.and_true, Bool.true_and, Bool.and_false, Bool.false_and, Bool.and_self, Bool.not_true, Bool.not_false, and_true, true_and, and_self, ne_eq, not_true_eq_false, not_false_eq_true, beq_self_eq_true, Option.isSome_none, Int.toNat_natCast, nat_nonneg, Nat.zero_add, Nat.add_zero, Nat.succ_ne_self, Nat.reduceLeDiff, Nat.reduceEqDiff, Nat.reduceMul, Nat.reduceSub, Nat.le_refl, Nat.zero_le, List.getElem?_map, List.map_nil, fillS, zipP, evalPs, List.replicate_zero, List.replicate_succ, appendV, List.isEmpty_cons, Nat.mul_zero, Nat.zero_mul, true_or, or_true, or_false, false_or, List.take_length, ite_self, z0, z1, bq1, bq2, Int.toNat_zero, z00, Nat.le_add_right, m24, h1, h2, h2', h6, h6', addF]
  | x :: r, i, o, n' + 1, s, hi, hn, hl, h1, h2, h2', h6, h6', hI, hx => by
    obtain ⟨hg, hd, hlt⟩ := drop_cons hi
    have hc := ilt (show i < st.length by omega)
    have hgo := getI (l := o) (i := i) (by omega)
    have hw := wsucc hlt (show rule.give.length ≤ 1000000 by omega)
    have hs1 : calm (M24 H n).E (opsAt (sub [1, 1, 1, 1, 1, 1, 0, 1, 0, 0, 1, 0, 0] c24)) = true := by kernel_rfl
    simp only [sub, c24, Try.f24, gets, opsAt] at hs1
    rw [L_succ]
    simp only [vmr, vmw, vmp, ↓reduceIte, Nat.reduceBEq, Nat.reduceLT, Nat.reduceAdd, Nat.reduceEqDiff, reduceCtorEq, decide_true, decide_false, evalO, evalOs, ofValue, ofLeaf, params, tget, sub, aok, builtinV, overwrite, vlen, assignTo, settle1, settleL, newVarV, newArr, cellsAt, readT, storeAt, writeE, cellsV, vleaf, frz, frzs, refs, refsL, fitsE, binV, intOp, boolOp, nilOp, isNilS, unV, fillE, velems, callV_s, CR_some, CD, importV, import1, importL, importT, imm, immL, pureR, pureRL, shapeR, flatR, shares, sharesL, hand_cons, hand_nil, oks, vst, vmd, ty, List.all_cons, List.all_nil, List.length_cons, List.length_nil, List.drop_succ_cons, List.drop_zero, List.drop_nil, List.head?_cons, List.head?_nil, List.cons_append, List.nil_append, List.append_nil, List.getElem?_cons_zero, List.getElem?_cons_succ, List.take_succ_cons, List.take_zero, List.set_cons_zero, List.set_cons_succ, List.length_map, Bool.and_true, Bool.true_and, Bool.and_false, Bool.false_and, Bool.and_self, Bool.not_true, Bool.not_false, and_true, true_and, and_self, ne_eq, not_true_eq_false, not_false_eq_true, beq_self_eq_true, Option.isSome_none, Int.toNat_natCast, nat_nonneg, Nat.zero_add, Nat.add_zero, Nat.succ_ne_self, Nat.reduceLeDiff, Nat.reduceEqDiff, Nat.reduceMul, Nat.reduceSub, Nat.le_refl, Nat.zero_le, List.getElem?_map, List.map_nil, fillS, zipP, evalPs, List.replicate_zero, List.replicate_succ, appendV, List.isEmpty_cons, Nat.mul_zero, Nat.zero_mul, true_or, or_true, or_false, false_or, List.take_length, ite_self, z0, z1, bq1, bq2, Int.toNat_zero, z00, Nat.le_add_right, c24, Try.f24, m24, h1, hI, hc, hg, h2, h2', h6, h6', hw, hgo, hs1, setI]
    simp only [addF] at hx
    have := fun s => @l24c H n k out v2 vo st hb rule hl2 r (i+1) (o.set i (w64 (o.getD i 0 + x))) n' s hd (by simp at hn; omega) (by simp [hl])
    simp only [sub, c24, Try.f24, gets] at this
    refine this _ ?_ ?_ ?_ ?_ ?_ ?_ hx
    all_goals simp only [vmr, vmw, vmp, ↓reduceIte, Nat.reduceBEq, Nat.reduceLT, Nat.reduceAdd, Nat.reduceEqDiff, reduceCtorEq, decide_true, decide_false, evalO, evalOs, ofValue, ofLeaf, params, tget, sub, aok, builtinV, overwrite, vlen, assignTo, settle1, settleL, newVarV, newArr, cellsAt, readT, storeAt, writeE, cellsV, vleaf, frz, frzs, refs, refsL, fitsE, binV, intOp, boolOp, nilOp, isNilS, unV, fillE, velems, callV_s, CR_some, CD, importV, import1, importL, importT, imm, immL, pureR, pureRL, shapeR, flatR, shares, sharesL, hand_cons, hand_nil, oks, vst, vmd, ty, List.all_cons, List.all_nil, List.length_cons, List.length_nil, List.drop_succ_cons, List.drop_zero, List.drop_nil, List.head?_cons, List.head?_nil, List.cons_append, List.nil_append, List.append_nil, List.getElem?_cons_zero, List.getElem?_cons_succ, List.take_succ_cons, List.take_zero, List.set_cons_zero, List.set_cons_succ, List.length_map, Bool.and_true, Bool.true_and, Bool.and_false, Bool.false_and, Bool.and_self, Bool.not_true, Bool.not_false, and_true, true_and, and_self, ne_eq, not_true_eq_false, not_false_eq_true, beq_self_eq_true, Option.isSome_none, Int.toNat_natCast, nat_nonneg, Nat.zero_add, Nat.add_zero, Nat.succ_ne_self, Nat.reduceLeDiff, Nat.reduceEqDiff, Nat.reduceMul, Nat.reduceSub, Nat.le_refl, Nat.zero_le, List.getElem?_map, List.map_nil, fillS, zipP, evalPs, List.replicate_zero, List.replicate_succ, appendV, List.isEmpty_cons, Nat.mul_zero, Nat.zero_mul, true_or, or_true, or_false, false_or, List.take_length, ite_self, z0, z1, bq1, bq2, Int.toNat_zero, z00, Nat.le_add_right, m24, h1, h2, h2', h6, h6', hI, setI]
end Go.Vi
set_option maxRecDepth 100000
set_option maxHeartbeats 4000000
namespace Go.Vi
open Go Go.Proofs

theorem w64_eq (n : Int) : w64 n = if n % 18446744073709551616 ≥ 9223372036854775808 then n % 18446744073709551616 - 18446744073709551616 else n % 18446744073709551616 := by
  have e1 : (2:Int) ^ (IntKind.i64.bits - 1) = 9223372036854775808 := by decide
  have e2 : (2:Int) ^ IntKind.i64.bits = 18446744073709551616 := by decide
  have e3 : IntKind.i64.signed = true := rfl
  simp only [w64, IntKind.wrap, e1, e2, e3, Bool.true_and, decide_eq_true_eq]
theorem w64_add (a b : Int) : w64 (w64 a + b) = w64 (a + b) := by
  simp only [w64_eq]
  split <;> split <;> split <;> omega
theorem w64_w (a : Int) : w64 (w64 a) = w64 a := by
  have := w64_add a 0
  simpa using this

/-- The program's way of clearing and the reference's: one takes the target with it, the other passes it by. -/
theorem clr_sum {t : Int} (ht : 0 ≤ t) : ∀ (r : List Int) (o : List Int) (rest : Int) (o' : List Int) (sum : Int), (∀ c ∈ r, 0 ≤ c) →
    ((o' = o ∧ sum = rest) ∨ (o' = o.set t.toNat 0 ∧ sum = w64 (rest + o.getD t.toNat 0))) →
    (((sumF o' sum r).1 = (clrF t o rest r).1 ∧ (sumF o' sum r).2 = (clrF t o rest r).2) ∨ ((sumF o' sum r).1 = (clrF t o rest r).1.set t.toNat 0 ∧ (sumF o' sum r).2 = w64 ((clrF t o rest r).2 + (clrF t o rest r).1.getD t.toNat 0)))
  | [], o, rest, o', sum, _, h => by simpa only [sumF, clrF] using h
  | c :: r, o, rest, o', sum, hr, h => by
    have hc0 := hr c (by simp)
    have hr' : ∀ c ∈ r, 0 ≤ c := fun x hx => hr x (by simp [hx])
    simp only [sumF, clrF]
    by_cases e : c = t
    · subst e
      rw [if_pos rfl]
      refine clr_sum ht r o rest _ _ hr' (.inr ?_)
      rcases h with ⟨h1, h2⟩ | ⟨h1, h2⟩
      · subst h1; subst h2; exact ⟨rfl, rfl⟩
      · subst h1; subst h2
        refine ⟨by simp, ?_⟩
        have hz : (o.set c.toNat 0).getD c.toNat 0 = 0 := by
          simp only [List.getD_eq_getElem?_getD, List.getElem?_set]
          split
          · split <;> rfl
          · rename_i hne; exact absurd True.intro hne
        rw [hz, Int.add_zero, w64_w]
    · rw [if_neg e]
      have hne : c.toNat ≠ t.toNat := fun h => e (by omega)
      refine clr_sum ht r _ _ _ _ hr' ?_
      rcases h with ⟨h1, h2⟩ | ⟨h1, h2⟩
      · subst h1; subst h2; exact .inl ⟨rfl, rfl⟩
      · subst h1; subst h2
        refine .inr ⟨List.set_comm _ _ (Ne.symm hne), ?_⟩
        have g1 : (o.set t.toNat 0).getD c.toNat 0 = o.getD c.toNat 0 := by
          simp only [List.getD_eq_getElem?_getD, List.getElem?_set_ne (Ne.symm hne)]
        have g2 : (o.set c.toNat 0).getD t.toNat 0 = o.getD t.toNat 0 := by
          simp only [List.getD_eq_getElem?_getD, List.getElem?_set_ne hne]
        rw [g1, g2, w64_add, w64_add]
        congr 1
        omega
theorem clr_none {t : Int} (ht : ¬ 0 ≤ t) : ∀ (r : List Int) (o : List Int) (rest : Int), (∀ c ∈ r, 0 ≤ c) → sumF o rest r = clrF t o rest r
  | [], o, rest, _ => rfl
  | c :: r, o, rest, hr => by
    have hc0 := hr c (by simp)
    have hr' : ∀ c ∈ r, 0 ≤ c := fun x hx => hr x (by simp [hx])
    simp only [sumF, clrF]
    rw [if_neg (by omega)]
    exact clr_none ht r _ _ hr'
def afterClr (t : Int) (p : List Int × Int) : List Int := if 0 ≤ t then p.1.set t.toNat (w64 (p.1.getD t.toNat 0 + p.2)) else p.1
theorem clr_eq (t : Int) (r o : List Int) (hr : ∀ c ∈ r, 0 ≤ c) (hlt : t < o.length) : afterClr t (sumF o 0 r) = afterClr t (clrF t o 0 r) := by
  unfold afterClr
  by_cases ht : 0 ≤ t
  · rw [if_pos ht, if_pos ht]
    have hl := clrF_len (into := t) r o 0
    rcases clr_sum ht r o 0 o 0 hr (.inl ⟨rfl, rfl⟩) with ⟨h1, h2⟩ | ⟨h1, h2⟩
    · rw [h1, h2]
    · rw [h1, h2, List.set_set]
      have hz : ((clrF t o 0 r).1.set t.toNat 0).getD t.toNat 0 = 0 := by
        simp only [List.getD_eq_getElem?_getD, List.getElem?_set]
        split
        · split <;> rfl
        · rename_i hne; exact absurd True.intro hne
      rw [hz, Int.zero_add, w64_w, Int.add_comm]
  · rw [if_neg ht, if_neg ht, clr_none ht r o 0 hr]

def rstepF (rule : Rule) (st : List Int) : Option (List Int) :=
  if covF st rule.take 0 = true then some (addF (afterClr rule.into (clrF rule.into (subF st rule.take 0) 0 rule.clear)) rule.give 0) else none
theorem useF_eq (rule : Rule) (st : List Int) : useF rule st = match rstepF rule st with
    | none => (none, 0)
    | some o => if maxF (o.headD 0) o.tail > 1000000 then (none, 7) else (some o, 0) := by
  unfold useF rstepF afterClr
  split <;> rfl
structure stepOk (rule : Rule) (st : List Int) : Prop where
  hb : st.length ≤ 1000
  take : rule.take.length = st.length
  give : rule.give.length = st.length
  clen : rule.clear.length ≤ 1000
  clear : ∀ c ∈ rule.clear, 0 ≤ c ∧ c < st.length
  into : rule.into < st.length
theorem w24 (rule : Rule) (st : List Int) (h : stepOk rule st) : SoundPure Try.prog 24 [rule.v, Is st] (.ret (.tup [ownO (rstepF rule st), .bool (rstepF rule st).isSome])) := by
  obtain ⟨hb, htake, hgive, hclen, hclear, hinto⟩ := h
  refine s24 hU5 (rule.take.length + rule.give.length + rule.clear.length + 1) (by simp) ?_ ?_
  · cases rstepF rule st <;> rfl
  have a1 := fun k out => @l24a (hand U5) (rule.take.length + rule.give.length + rule.clear.length + 1) k out 0 3 st (by omega) rule htake rule.take 0 st (rule.take.length + rule.give.length + rule.clear.length + 1)
  have a2 := fun k out o => @l24b (hand U5) (rule.take.length + rule.give.length + rule.clear.length + 1) k out 0 3 st (by omega) rule (by omega) hclear rule.clear 0 o 0 (rule.take.length + rule.give.length + rule.clear.length + 1)
  have a3 := fun k out o => @l24c (hand U5) (rule.take.length + rule.give.length + rule.clear.length + 1) k out 0 3 st (by omega) rule hgive rule.give 0 o (rule.take.length + rule.give.length + rule.clear.length + 1)
  have hr := @room3 st.length (by omega)
  have hr0 := @room3 0 (by omega)
  simp only [sub, c24, Try.f24, gets] at a1 a2 a3 ⊢
  simp only [vmr, vmw, vmp, ↓reduceIte, Nat.reduceBEq, Nat.reduceLT, Nat.reduceAdd, Nat.reduceEqDiff, reduceCtorEq, decide_true, decide_false, evalO, evalOs, ofValue, ofLeaf, params, tget, sub, aok, builtinV, overwrite, vlen, assignTo, settle1, settleL, newVarV, newArr, cellsAt, readT, storeAt, writeE, cellsV, vleaf, frz, frzs, refs, refsL, fitsE, binV, intOp, boolOp, nilOp, isNilS, unV, fillE, velems, callV_s, CR_some, CD, importV, import1, importL, importT, imm, immL, pureR, pureRL, shapeR, flatR, shares, sharesL, hand_cons, hand_nil, oks, vst, vmd, ty, List.all_cons, List.all_nil, List.length_cons, List.length_nil, List.drop_succ_cons, List.drop_zero, List.drop_nil, List.head?_cons, List.head?_nil, List.cons_append, List.nil_append, List.append_nil, List.getElem?_cons_zero, List.getElem?_cons_succ, List.take_succ_cons, List.take_zero, List.set_cons_zero, List.set_cons_succ, List.length_map, Bool.and_true, Bool.true_and, Bool.and_false, Bool.false_and, Bool.and_self, Bool.not_true, Bool.not_false, and_true, true_and, and_self, ne_eq, not_true_eq_false, not_false_eq_true, beq_self_eq_true, Option.isSome_none, Int.toNat_natCast, nat_nonneg, Nat.zero_add, Nat.add_zero, Nat.succ_ne_self, Nat.reduceLeDiff, Nat.reduceEqDiff, Nat.reduceMul, Nat.reduceSub, Nat.le_refl, Nat.zero_le, List.getElem?_map, List.map_nil, fillS, zipP, evalPs, List.replicate_zero, List.replicate_succ, appendV, List.isEmpty_cons, Nat.mul_zero, Nat.zero_mul, true_or, or_true, or_false, false_or, List.take_length, ite_self, z0, z1, bq1, bq2, Int.toNat_zero, z00, Nat.le_add_right, m24, hr, hr0, fitsI, allfitsI]
  refine a1 _ _ _ rfl (by omega) True.intro ?_ ?_ ?_ ?_ ?_ ?_ ?_ ?_
  case refine_7 => intro hcov; simp only [rstepF, hcov, if_ff, ownO, Option.isSome_none]
  case refine_8 =>
    intro hcov s1 h1 h2 h2' h6 h6'
    simp only [vmr, vmw, vmp, ↓reduceIte, Nat.reduceBEq, Nat.reduceLT, Nat.reduceAdd, Nat.reduceEqDiff, reduceCtorEq, decide_true, decide_false, evalO, evalOs, ofValue, ofLeaf, params, tget, sub, aok, builtinV, overwrite, vlen, assignTo, settle1, settleL, newVarV, newArr, cellsAt, readT, storeAt, writeE, cellsV, vleaf, frz, frzs, refs, refsL, fitsE, binV, intOp, boolOp, nilOp, isNilS, unV, fillE, velems, callV_s, CR_some, CD, importV, import1, importL, importT, imm, immL, pureR, pureRL, shapeR, flatR, shares, sharesL, hand_cons, hand_nil, oks, vst, vmd, ty, List.all_cons, List.all_nil, List.length_cons, List.length_nil, List.drop_succ_cons, List.drop_zero, List.drop_nil, List.head?_cons, List.head?_nil, List.cons_append, List.nil_append, List.append_nil, List.getElem?_cons_zero, List.getElem?_cons_succ, List.take_succ_cons, List.take_zero, List.set_cons_zero, List.set_cons_succ, List.length_map, Bool.and_true, Bool.true_and, Bool.and_false, Bool.false_and, Bool.and_self, Bool.not_true, Bool.not_false, and_true, true_and, and_self, ne_eq, not_true_eq_false, not_false_eq_true, beq_self_eq_true, Option.isSome_none, Int.toNat_natCast, nat_nonneg, Nat.zero_add, Nat.add_zero, Nat.succ_ne_self, Nat.reduceLeDiff, Nat.reduceEqDiff, Nat.reduceMul, Nat.reduceSub, Nat.le_refl, Nat.zero_le, List.getElem?_map, List.map_nil, fillS, zipP, evalPs, List.replicate_zero, List.replicate_succ, appendV, List.isEmpty_cons, Nat.mul_zero, Nat.zero_mul, true_or, or_true, or_false, false_or, List.take_length, ite_self, z0, z1, bq1, bq2, Int.toNat_zero, z00, Nat.le_add_right, m24, h2, h2', h6, h6']
    refine a2 _ _ (subF st rule.take 0) _ rfl (by omega) (by rw [subF_len]) ?_ ?_ ?_ ?_ ?_ ?_ ?_ ?_
    case refine_8 =>
      clear h1 h2 h2' h6 h6' s1
      intro s1 h1 h2 h2' h6 h6' h8
      have hce := clr_eq rule.into rule.clear (subF st rule.take 0) (fun c hc => (hclear c hc).1) (by rw [subF_len]; exact hinto)
      have hlen : (sumF (subF st rule.take 0) 0 rule.clear).1.length = st.length := by rw [sumF_len, subF_len]
      have hres : rstepF rule st = some (addF (afterClr rule.into (sumF (subF st rule.take 0) 0 rule.clear)) rule.give 0) := by
        rw [hce]; simp only [rstepF, hcov, if_true]
      rw [hres]
      generalize sumF (subF st rule.take 0) 0 rule.clear = p at h6' h8 hlen
      unfold afterClr
      by_cases hin : 0 ≤ rule.into
      · have g0 : (rule.into ≥ 0) = True := by simp; omega
        have g1 : (0 ≤ rule.into) = True := by simp; omega
        have g2 : (rule.into < (st.length:Int)) = True := by simp; omega
        have ho := getI (l := p.1) (i := rule.into.toNat) (by omega)
        simp only [vmr, vmw, vmp, ↓reduceIte, Nat.reduceBEq, Nat.reduceLT, Nat.reduceAdd, Nat.reduceEqDiff, reduceCtorEq, decide_true, decide_false, evalO, evalOs, ofValue, ofLeaf, params, tget, sub, aok, builtinV, overwrite, vlen, assignTo, settle1, settleL, newVarV, newArr, cellsAt, readT, storeAt, writeE, cellsV, vleaf, frz, frzs, refs, refsL, fitsE, binV, intOp, boolOp, nilOp, isNilS, unV, fillE, velems, callV_s, CR_some, CD, importV, import1, importL, importT, imm, immL, pureR, pureRL, shapeR, flatR, shares, sharesL, hand_cons, hand_nil, oks, vst, vmd, ty, List.all_cons, List.all_nil, List.length_cons, List.length_nil, List.drop_succ_cons, List.drop_zero, List.drop_nil, List.head?_cons, List.head?_nil, List.cons_append, List.nil_append, List.append_nil, List.getElem?_cons_zero, List.getElem?_cons_succ, List.take_succ_cons, List.take_zero, List.set_cons_zero, List.set_cons_succ, List.length_map, Bool.and_true, Bool.true_and, Bool.and_false, Bool.false_and, Bool.and_self, Bool.not_true, Bool.not_false, and_true, true_and, and_self, ne_eq, not_true_eq_false, not_false_eq_true, beq_self_eq_true, Option.isSome_none, Int.toNat_natCast, nat_nonneg, Nat.zero_add, Nat.add_zero, Nat.succ_ne_self, Nat.reduceLeDiff, Nat.reduceEqDiff, Nat.reduceMul, Nat.reduceSub, Nat.le_refl, Nat.zero_le, List.getElem?_map, List.map_nil, fillS, zipP, evalPs, List.replicate_zero, List.replicate_succ, appendV, List.isEmpty_cons, Nat.mul_zero, Nat.zero_mul, true_or, or_true, or_false, false_or, List.take_length, ite_self, z0, z1, bq1, bq2, Int.toNat_zero, z00, Nat.le_add_right, m24, h1, h2, h2', h6, h6', h8, g0, g1, g2, ho, setI]
        refine a3 _ _ (p.1.set rule.into.toNat (w64 (p.1.getD rule.into.toNat 0 + p.2))) _ rfl (by omega) (by simp [hlen]) ?_ ?_ ?_ ?_ ?_ ?_ ?_
        case refine_7 =>
          clear h1 h2 h2' h6 h6' h8 s1
          intro s1 h6 h6'
          have hl3 : (addF (p.1.set rule.into.toNat (w64 (p.1.getD rule.into.toNat 0 + p.2))) rule.give 0).length = st.length := by rw [addF_len]; simp [hlen]
          have ht := take_of _ hl3
          simp only [vmr, vmw, vmp, ↓reduceIte, Nat.reduceBEq, Nat.reduceLT, Nat.reduceAdd, Nat.reduceEqDiff, reduceCtorEq, decide_true, decide_false, evalO, evalOs, ofValue, ofLeaf, params, tget, sub, aok, builtinV, overwrite, vlen, assignTo, settle1, settleL, newVarV, newArr, cellsAt, readT, storeAt, writeE, cellsV, vleaf, frz, frzs, refs, refsL, fitsE, binV, intOp, boolOp, nilOp, isNilS, unV, fillE, velems, callV_s, CR_some, CD, importV, import1, importL, importT, imm, immL, pureR, pureRL, shapeR, flatR, shares, sharesL, hand_cons, hand_nil, oks, vst, vmd, ty, List.all_cons, List.all_nil, List.length_cons, List.length_nil, List.drop_succ_cons, List.drop_zero, List.drop_nil, List.head?_cons, List.head?_nil, List.cons_append, List.nil_append, List.append_nil, List.getElem?_cons_zero, List.getElem?_cons_succ, List.take_succ_cons, List.take_zero, List.set_cons_zero, List.set_cons_succ, List.length_map, Bool.and_true, Bool.true_and, Bool.and_false, Bool.false_and, Bool.and_self, Bool.not_true, Bool.not_false, and_true, true_and, and_self, ne_eq, not_true_eq_false, not_false_eq_true, beq_self_eq_true, Option.isSome_none, Int.toNat_natCast, nat_nonneg, Nat.zero_add, Nat.add_zero, Nat.succ_ne_self, Nat.reduceLeDiff, Nat.reduceEqDiff, Nat.reduceMul, Nat.reduceSub, Nat.le_refl, Nat.zero_le, List.getElem?_map, List.map_nil, fillS, zipP, evalPs, List.replicate_zero, List.replicate_succ, appendV, List.isEmpty_cons, Nat.mul_zero, Nat.zero_mul, true_or, or_true, or_false, false_or, List.take_length, ite_self, z0, z1, bq1, bq2, Int.toNat_zero, z00, Nat.le_add_right, Fin_ret, Fin_nrm, Fin_pan, X_top, resV, exports, nodupK, exportT, exportA, exportL, export1, tupV, List.contains_nil, m24, h6, h6', hl3, ht, ownO]
        all_goals simp only [vmr, vmw, vmp, ↓reduceIte, Nat.reduceBEq, Nat.reduceLT, Nat.reduceAdd, Nat.reduceEqDiff, reduceCtorEq, decide_true, decide_false, evalO, evalOs, ofValue, ofLeaf, params, tget, sub, aok, builtinV, overwrite, vlen, assignTo, settle1, settleL, newVarV, newArr, cellsAt, readT, storeAt, writeE, cellsV, vleaf, frz, frzs, refs, refsL, fitsE, binV, intOp, boolOp, nilOp, isNilS, unV, fillE, velems, callV_s, CR_some, CD, importV, import1, importL, importT, imm, immL, pureR, pureRL, shapeR, flatR, shares, sharesL, hand_cons, hand_nil, oks, vst, vmd, ty, List.all_cons, List.all_nil, List.length_cons, List.length_nil, List.drop_succ_cons, List.drop_zero, List.drop_nil, List.head?_cons, List.head?_nil, List.cons_append, List.nil_append, List.append_nil, List.getElem?_cons_zero, List.getElem?_cons_succ, List.take_succ_cons, List.take_zero, List.set_cons_zero, List.set_cons_succ, List.length_map, Bool.and_true, Bool.true_and, Bool.and_false, Bool.false_and, Bool.and_self, Bool.not_true, Bool.not_false, and_true, true_and, and_self, ne_eq, not_true_eq_false, not_false_eq_true, beq_self_eq_true, Option.isSome_none, Int.toNat_natCast, nat_nonneg, Nat.zero_add, Nat.add_zero, Nat.succ_ne_self, Nat.reduceLeDiff, Nat.reduceEqDiff, Nat.reduceMul, Nat.reduceSub, Nat.le_refl, Nat.zero_le, List.getElem?_map, List.map_nil, fillS, zipP, evalPs, List.replicate_zero, List.replicate_succ, appendV, List.isEmpty_cons, Nat.mul_zero, Nat.zero_mul, true_or, or_true, or_false, false_or, List.take_length, ite_self, z0, z1, bq1, bq2, Int.toNat_zero, z00, Nat.le_add_right, m24, h1, h2, h2', h6, h6']
      · have g0 : (rule.into ≥ 0) = False := by simp; omega
        have g1 : (0 ≤ rule.into) = False := by simp; omega
        simp only [vmr, vmw, vmp, ↓reduceIte, Nat.reduceBEq, Nat.reduceLT, Nat.reduceAdd, Nat.reduceEqDiff, reduceCtorEq, decide_true, decide_false, evalO, evalOs, ofValue, ofLeaf, params, tget, sub, aok, builtinV, overwrite, vlen, assignTo, settle1, settleL, newVarV, newArr, cellsAt, readT, storeAt, writeE, cellsV, vleaf, frz, frzs, refs, refsL, fitsE, binV, intOp, boolOp, nilOp, isNilS, unV, fillE, velems, callV_s, CR_some, CD, importV, import1, importL, importT, imm, immL, pureR, pureRL, shapeR, flatR, shares, sharesL, hand_cons, hand_nil, oks, vst, vmd, ty, List.all_cons, List.all_nil, List.length_cons, List.length_nil, List.drop_succ_cons, List.drop_zero, List.drop_nil, List.head?_cons, List.head?_nil, List.cons_append, List.nil_append, List.append_nil, List.getElem?_cons_zero, List.getElem?_cons_succ, List.take_succ_cons, List.take_zero, List.set_cons_zero, List.set_cons_succ, List.length_map, Bool.and_true, Bool.true_and, Bool.and_false, Bool.false_and, Bool.and_self, Bool.not_true, Bool.not_false, and_true, true_and, and_self, ne_eq, not_true_eq_false, not_false_eq_true, beq_self_eq_true, Option.isSome_none, Int.toNat_natCast, nat_nonneg, Nat.zero_add, Nat.add_zero, Nat.succ_ne_self, Nat.reduceLeDiff, Nat.reduceEqDiff, Nat.reduceMul, Nat.reduceSub, Nat.le_refl, Nat.zero_le, List.getElem?_map, List.map_nil, fillS, zipP, evalPs, List.replicate_zero, List.replicate_succ, appendV, List.isEmpty_cons, Nat.mul_zero, Nat.zero_mul, true_or, or_true, or_false, false_or, List.take_length, ite_self, z0, z1, bq1, bq2, Int.toNat_zero, z00, Nat.le_add_right, m24, h1, h2, h2', h6, h6', h8, g0, g1, setI]
        refine a3 _ _ p.1 _ rfl (by omega) hlen ?_ ?_ ?_ ?_ ?_ ?_ ?_
        case refine_7 =>
          clear h1 h2 h2' h6 h6' h8 s1
          intro s1 h6 h6'
          have hl3 : (addF p.1 rule.give 0).length = st.length := by rw [addF_len]; simp [hlen]
          have ht := take_of _ hl3
          simp only [vmr, vmw, vmp, ↓reduceIte, Nat.reduceBEq, Nat.reduceLT, Nat.reduceAdd, Nat.reduceEqDiff, reduceCtorEq, decide_true, decide_false, evalO, evalOs, ofValue, ofLeaf, params, tget, sub, aok, builtinV, overwrite, vlen, assignTo, settle1, settleL, newVarV, newArr, cellsAt, readT, storeAt, writeE, cellsV, vleaf, frz, frzs, refs, refsL, fitsE, binV, intOp, boolOp, nilOp, isNilS, unV, fillE, velems, callV_s, CR_some, CD, importV, import1, importL, importT, imm, immL, pureR, pureRL, shapeR, flatR, shares, sharesL, hand_cons, hand_nil, oks, vst, vmd, ty, List.all_cons, List.all_nil, List.length_cons, List.length_nil, List.drop_succ_cons, List.drop_zero, List.drop_nil, List.head?_cons, List.head?_nil, List.cons_append, List.nil_append, List.append_nil, List.getElem?_cons_zero, List.getElem?_cons_succ, List.take_succ_cons, List.take_zero, List.set_cons_zero, List.set_cons_succ, List.length_map, Bool.and_true, Bool.true_and, Bool.and_false, Bool.false_and, Bool.and_self, Bool.not_true, Bool.not_false, and_true, true_and, and_self, ne_eq, not_true_eq_false, not_false_eq_true, beq_self_eq_true, Option.isSome_none, Int.toNat_natCast, nat_nonneg, Nat.zero_add, Nat.add_zero, Nat.succ_ne_self, Nat.reduceLeDiff, Nat.reduceEqDiff, Nat.reduceMul, Nat.reduceSub, Nat.le_refl, Nat.zero_le, List.getElem?_map, List.map_nil, fillS, zipP, evalPs, List.replicate_zero, List.replicate_succ, appendV, List.isEmpty_cons, Nat.mul_zero, Nat.zero_mul, true_or, or_true, or_false, false_or, List.take_length, ite_self, z0, z1, bq1, bq2, Int.toNat_zero, z00, Nat.le_add_right, Fin_ret, Fin_nrm, Fin_pan, X_top, resV, exports, nodupK, exportT, exportA, exportL, export1, tupV, List.contains_nil, m24, h6, h6', hl3, ht, ownO]
        all_goals simp only [vmr, vmw, vmp, ↓reduceIte, Nat.reduceBEq, Nat.reduceLT, Nat.reduceAdd, Nat.reduceEqDiff, reduceCtorEq, decide_true, decide_false, evalO, evalOs, ofValue, ofLeaf, params, tget, sub, aok, builtinV, overwrite, vlen, assignTo, settle1, settleL, newVarV, newArr, cellsAt, readT, storeAt, writeE, cellsV, vleaf, frz, frzs, refs, refsL, fitsE, binV, intOp, boolOp, nilOp, isNilS, unV, fillE, velems, callV_s, CR_some, CD, importV, import1, importL, importT, imm, immL, pureR, pureRL, shapeR, flatR, shares, sharesL, hand_cons, hand_nil, oks, vst, vmd, ty, List.all_cons, List.all_nil, List.length_cons, List.length_nil, List.drop_succ_cons, List.drop_zero, List.drop_nil, List.head?_cons, List.head?_nil, List.cons_append, List.nil_append, List.append_nil, List.getElem?_cons_zero, List.getElem?_cons_succ, List.take_succ_cons, List.take_zero, List.set_cons_zero, List.set_cons_succ, List.length_map, Bool.and_true, Bool.true_and, Bool.and_false, Bool.false_and, Bool.and_self, Bool.not_true, Bool.not_false, and_true, true_and, and_self, ne_eq, not_true_eq_false, not_false_eq_true, beq_self_eq_true, Option.isSome_none, Int.toNat_natCast, nat_nonneg, Nat.zero_add, Nat.add_zero, Nat.succ_ne_self, Nat.reduceLeDiff, Nat.reduceEqDiff, Nat.reduceMul, Nat.reduceSub, Nat.le_refl, Nat.zero_le, List.getElem?_map, List.map_nil, fillS, zipP, evalPs, List.replicate_zero, List.replicate_succ, appendV, List.isEmpty_cons, Nat.mul_zero, Nat.zero_mul, true_or, or_true, or_false, false_or, List.take_length, ite_self, z0, z1, bq1, bq2, Int.toNat_zero, z00, Nat.le_add_right, m24, h1, h2, h2', h6, h6']
    all_goals simp only [vmr, vmw, vmp, ↓reduceIte, Nat.reduceBEq, Nat.reduceLT, Nat.reduceAdd, Nat.reduceEqDiff, reduceCtorEq, decide_true, decide_false, evalO, evalOs, ofValue, ofLeaf, params, tget, sub, aok, builtinV, overwrite, vlen, assignTo, settle1, settleL, newVarV, newArr, cellsAt, readT, storeAt, writeE, cellsV, vleaf, frz, frzs, refs, refsL, fitsE, binV, intOp, boolOp, nilOp, isNilS, unV, fillE, velems, callV_s, CR_some, CD, importV, import1, importL, importT, imm, immL, pureR, pureRL, shapeR, flatR, shares, sharesL, hand_cons, hand_nil, oks, vst, vmd, ty, List.all_cons, List.all_nil, List.length_cons, List.length_nil, List.drop_succ_cons, List.drop_zero, List.drop_nil, List.head?_cons, List.head?_nil, List.cons_append, List.nil_append, List.append_nil, List.getElem?_cons_zero, List.getElem?_cons_succ, List.take_succ_cons, List.take_zero, List.set_cons_zero, List.set_cons_succ, List.length_map, Bool.and_true, Bool.true_and, Bool.and_false, Bool.false_and, Bool.and_self, Bool.not_true, Bool.not_false, and_true, true_and, and_self, ne_eq, not_true_eq_false, not_false_eq_true, beq_self_eq_true, Option.isSome_none, Int.toNat_natCast, nat_nonneg, Nat.zero_add, Nat.add_zero, Nat.succ_ne_self, Nat.reduceLeDiff, Nat.reduceEqDiff, Nat.reduceMul, Nat.reduceSub, Nat.le_refl, Nat.zero_le, List.getElem?_map, List.map_nil, fillS, zipP, evalPs, List.replicate_zero, List.replicate_succ, appendV, List.isEmpty_cons, Nat.mul_zero, Nat.zero_mul, true_or, or_true, or_false, false_or, List.take_length, ite_self, z0, z1, bq1, bq2, Int.toNat_zero, z00, Nat.le_add_right, m24, h1, h2, h2', h6, h6']
  all_goals simp only [vmr, vmw, vmp, ↓reduceIte, Nat.reduceBEq, Nat.reduceLT, Nat.reduceAdd, Nat.reduceEqDiff, reduceCtorEq, decide_true, decide_false, evalO, evalOs, ofValue, ofLeaf, params, tget, sub, aok, builtinV, overwrite, vlen, assignTo, settle1, settleL, newVarV, newArr, cellsAt, readT, storeAt, writeE, cellsV, vleaf, frz, frzs, refs, refsL, fitsE, binV, intOp, boolOp, nilOp, isNilS, unV, fillE, velems, callV_s, CR_some, CD, importV, import1, importL, importT, imm, immL, pureR, pureRL, shapeR, flatR, shares, sharesL, hand_cons, hand_nil, oks, vst, vmd, ty, List.all_cons, List.all_nil, List.length_cons, List.length_nil, List.drop_succ_cons, List.drop_zero, List.drop_nil, List.head?_cons, List.head?_nil, List.cons_append, List.nil_append, List.append_nil, List.getElem?_cons_zero, List.getElem?_cons_succ, List.take_succ_cons, List.take_zero, List.set_cons_zero, List.set_cons_succ, List.length_map, Bool.and_true, Bool.true_and, Bool.and_false, Bool.false_and, Bool.and_self, Bool.not_true, Bool.not_false, and_true, true_and, and_self, ne_eq, not_true_eq_false, not_false_eq_true, beq_self_eq_true, Option.isSome_none, Int.toNat_natCast, nat_nonneg, Nat.zero_add, Nat.add_zero, Nat.succ_ne_self, Nat.reduceLeDiff, Nat.reduceEqDiff, Nat.reduceMul, Nat.reduceSub, Nat.le_refl, Nat.zero_le, List.getElem?_map, List.map_nil, fillS, zipP, evalPs, List.replicate_zero, List.replicate_succ, appendV, List.isEmpty_cons, Nat.mul_zero, Nat.zero_mul, true_or, or_true, or_false, false_or, List.take_length, ite_self, z0, z1, bq1, bq2, Int.toNat_zero, z00, Nat.le_add_right, m24, Is]
end Go.Vi
set_option maxRecDepth 100000
set_option maxHeartbeats 4000000
namespace Go.Vi
open Go Go.Proofs

def bnd (B : Int) (l : List Int) : Prop := ∀ x ∈ l, 0 ≤ x ∧ x ≤ B
theorem w64_id {n : Int} (h : -9223372036854775808 ≤ n ∧ n < 9223372036854775808) : w64 n = n := wrap_id h
theorem bnd_set {B : Int} {l : List Int} {i : Nat} {x : Int} (h : bnd B l) (hx : 0 ≤ x ∧ x ≤ B) : bnd B (l.set i x) := fun y hy => by
  rcases List.mem_or_eq_of_mem_set hy with h1 | h1
  · exact h y h1
  · rw [h1]; exact hx
theorem bnd_get {B : Int} {l : List Int} {i : Nat} (h : bnd B l) (hB : 0 ≤ B) : 0 ≤ l.getD i 0 ∧ l.getD i 0 ≤ B := by
  rw [List.getD_eq_getElem?_getD]
  cases hg : l[i]? with
  | none => exact ⟨Int.le_refl _, hB⟩
  | some x => exact h x (mem_of hg)
theorem bnd_mono {B C : Int} {l : List Int} (h : bnd B l) (hBC : B ≤ C) : bnd C l := fun x hx => by have := h x hx; omega
theorem subF_bnd {B : Int} (hB : 0 ≤ B ∧ B ≤ 1000000000000) (st : List Int) : ∀ (r o : List Int) (i : Nat), (∀ j, i ≤ j → o.getD j 0 = st.getD j 0) → bnd B o → (∀ x ∈ r, 0 ≤ x) → covF st r i = true → bnd B (subF o r i)
  | [], o, i, _, h, _, _ => h
  | x :: r, o, i, he, h, hr, hc => by
    simp only [covF] at hc
    split at hc
    · cases hc
    · rename_i hge
      have hx := hr x (by simp)
      have hb := bnd_get (i := i) h hB.1
      have e := he i (Nat.le_refl _)
      simp only [subF]
      rw [w64_id (by omega)]
      refine subF_bnd hB st r _ (i + 1) (fun j hj => ?_) (bnd_set h (by omega)) (fun y hy => hr y (by simp [hy])) hc
      rw [← he j (by omega)]
      simp only [List.getD_eq_getElem?_getD, List.getElem?_set_ne (show i ≠ j by omega)]
theorem clrF_bnd {B : Int} (hB : 0 ≤ B ∧ B ≤ 1000000000) (t : Int) : ∀ (r o : List Int) (rest : Int), bnd B o → 0 ≤ rest → rest + B * r.length ≤ 1000000000000000 → bnd B (clrF t o rest r).1 ∧ 0 ≤ (clrF t o rest r).2 ∧ (clrF t o rest r).2 ≤ rest + B * r.length
  | [], o, rest, h, h0, _ => ⟨h, h0, by simp [clrF]⟩
  | c :: r, o, rest, h, h0, h1 => by
    simp only [clrF]
    have hm : B * ((c :: r).length : Int) = B * r.length + B := by simp only [List.length_cons]; rw [Int.natCast_add]; simp [Int.mul_add]
    have hnn : 0 ≤ B * (r.length : Int) := Int.mul_nonneg hB.1 (by omega)
    rw [hm] at h1 ⊢
    split
    · obtain ⟨g1, g2, g3⟩ := clrF_bnd hB t r o rest h h0 (by omega)
      exact ⟨g1, g2, by omega⟩
    · have hb := bnd_get (i := c.toNat) h hB.1
      rw [w64_id (by omega)]
      obtain ⟨g1, g2, g3⟩ := clrF_bnd hB t r (o.set c.toNat 0) (rest + o.getD c.toNat 0) (bnd_set h ⟨Int.le_refl _, hB.1⟩) (by omega) (by omega)
      exact ⟨g1, g2, by omega⟩
theorem addF_bnd : ∀ (r o : List Int) (i : Nat) (B : Int), 0 ≤ B → B + 6 * r.length ≤ 1000000000000000 → bnd B o → (∀ x ∈ r, 0 ≤ x ∧ x ≤ 6) → bnd (B + 6 * r.length) (addF o r i)
  | [], o, i, B, hB, _, h, _ => by simpa [addF] using h
  | x :: r, o, i, B, hB, hl, h, hr => by
    have hx := hr x (by simp)
    have hb := bnd_get (i := i) h hB
    have hm : (6 : Int) * ((x :: r).length : Int) = 6 * r.length + 6 := by simp only [List.length_cons]; omega
    rw [hm] at hl ⊢
    simp only [addF]
    rw [w64_id (by omega)]
    have := addF_bnd r (o.set i (o.getD i 0 + x)) (i + 1) (B + 6) (by omega) (by omega) (bnd_set (bnd_mono h (by omega)) (by omega)) (fun y hy => hr y (by simp [hy]))
    exact bnd_mono this (by omega)
theorem within_bnd {l : List Int} {n m : Int} (h : withinF l n m = true) : bnd m l := fun x hx => by
  unfold withinF at h
  simp only [Bool.and_eq_true, Bool.not_eq_true', List.any_eq_false] at h
  have := h.2 x hx
  simp only [outB, Bool.or_eq_true, decide_eq_true_eq, not_or] at this
  omega
theorem maxF_gt (c : Int) : ∀ (l : List Int) (m : Int), maxF m l > c ↔ m > c ∨ ∃ x ∈ l, x > c
  | [], m => by simp [maxF]
  | x :: r, m => by
    simp only [maxF]
    rw [maxF_gt c r]
    simp only [List.mem_cons, exists_eq_or_imp]
    split
    · constructor
      · rintro (h | h)
        · exact .inr (.inl h)
        · exact .inr (.inr h)
      · rintro (h | h | h)
        · exact .inl (by omega)
        · exact .inl h
        · exact .inr h
    · constructor
      · rintro (h | h)
        · exact .inl h
        · exact .inr (.inr h)
      · rintro (h | h | h)
        · exact .inl h
        · exact .inl (by omega)
        · exact .inr h
theorem within_max {B : Int} {l : List Int} (h : bnd B l) (hne : l ≠ []) : withinF l l.length 1000000 = !decide (maxF (l.headD 0) l.tail > 1000000) := by
  unfold withinF
  simp only [beq_self_eq_true, Bool.true_and]
  congr 1
  cases l with
  | nil => exact absurd rfl hne
  | cons x r =>
    rw [Bool.eq_iff_iff]
    simp only [List.any_eq_true, decide_eq_true_eq, List.headD_cons, List.tail_cons, maxF_gt, outB, Bool.or_eq_true, List.mem_cons]
    constructor
    · rintro ⟨y, hy, h1 | h1⟩
      · have := h y (by simpa using hy); omega
      · rcases hy with rfl | hy
        · exact .inl h1
        · exact .inr ⟨y, hy, h1⟩
    · rintro (h1 | ⟨y, hy, h1⟩)
      · exact ⟨x, .inl rfl, .inr h1⟩
      · exact ⟨y, .inr hy, .inr h1⟩
theorem rstep_len {r : Rule} {st o : List Int} (h : rstepF r st = some o) : o.length = st.length := by
  unfold rstepF at h
  split at h
  · injection h with h
    rw [← h, addF_len]
    unfold afterClr
    split
    · rw [List.length_set, clrF_len, subF_len]
    · rw [clrF_len, subF_len]
  · cases h
theorem rstep_bnd {r : Rule} {st o : List Int} {n : Int} (hr : r.ok) (hri : rightF r n = true) (hst : bnd 1000000 st) (h : rstepF r st = some o) : ∃ B, bnd B o := by
  unfold rightF at hri
  simp only [Bool.and_eq_true] at hri
  have ht := within_bnd hri.1.1.1
  have hg := within_bnd hri.1.1.2
  obtain ⟨b1, b2, b3⟩ := hr
  unfold rstepF at h
  split at h
  · rename_i hc
    injection h with h
    subst h
    have h1 := subF_bnd (B := 1000000) (by omega) st r.take st 0 (fun _ _ => rfl) hst (fun x hx => (ht x hx).1) hc
    obtain ⟨h2, h3, h4⟩ := clrF_bnd (B := 1000000) (by omega) r.into r.clear _ 0 h1 (Int.le_refl _) (by omega)
    refine ⟨_, addF_bnd r.give _ 0 2000000000 (by omega) (by omega) ?_ hg⟩
    unfold afterClr
    split
    · have := bnd_get (i := r.into.toNat) h2 (by omega)
      rw [w64_id (by omega)]
      exact bnd_set (bnd_mono h2 (by omega)) (by omega)
    · exact bnd_mono h2 (by omega)
  · cases h
theorem right_step {r : Rule} {st : List Int} {n : Int} (hr : r.ok) (h : rightF r n = true) (hs : (st.length : Int) = n) (hb : st.length ≤ 1000) (h1 : 1 ≤ st.length) : stepOk r st := by
  have hu := right_use hr h hs h1 hb
  unfold rightF at h
  simp only [Bool.and_eq_true] at h
  have l1 := withinF_len h.1.1.1
  have l2 := withinF_len h.1.1.2
  exact ⟨hb, by omega, by omega, hr.clear, hu.clear, hu.into⟩
noncomputable def F24 : List V → Option V := hF (α := Rule × List Int) (fun a => [a.1.v, Is a.2]) (fun a => stepOk a.1 a.2) (fun a => .tup [ownO (rstepF a.1 a.2), .bool (rstepF a.1 a.2).isSome])
theorem F24_eq {r : Rule} {st : List Int} (h : stepOk r st) : F24 [r.v, Is st] = some (.tup [ownO (rstepF r st), .bool (rstepF r st).isSome]) :=
  hF_eq (a := (r, st)) F28_inj (by simp only [cans, canRulev, canIs]) h
noncomputable abbrev U6 : List (FuncId × (List V → Option V)) := (24, F24) :: U5
theorem hU6 : SoundHand Try.prog (hand U6) := sound_cons (hF_sound fun a h => w24 a.1 a.2 h) hU5

theorem w13 (p : Prot) (rule : Int) (st : List Int) (hp : p.ok) (hs : st.length ≤ 1000) : SoundPure Try.prog 13 [p.v, I rule, Is st] (.ret (.tup [ownO (stepF p rule st).1, .bool (stepF p rule st).1.isSome, I (stepF p rule st).2])) := by
  refine s13 hU6 1 (by simp) (by cases (stepF p rule st).1 <;> rfl) ?_
  simp only [c13, Try.f13, gets]
  have e1 := F15_eq hp
  have e2 := F25_eq (p := p) (l := st) (by omega)
  unfold stepF
  by_cases q1 : checkF p = 0
  · have q1' : (checkF p != 0) = false := by simp [q1]
    have q1'' : (checkF p = 0) = True := eq_true q1
    by_cases q2 : rule < 0
    · have q2' := eq_true q2
      simp only [vmr, vmw, vmp, ↓reduceIte, Nat.reduceBEq, Nat.reduceLT, Nat.reduceAdd, Nat.reduceEqDiff, reduceCtorEq, decide_true, decide_false, evalO, evalOs, ofValue, ofLeaf, params, tget, sub, aok, builtinV, overwrite, vlen, assignTo, settle1, settleL, newVarV, newArr, cellsAt, readT, storeAt, writeE, cellsV, vleaf, frz, frzs, refs, refsL, fitsE, binV, intOp, boolOp, nilOp, isNilS, unV, fillE, velems, callV_s, CR_some, CD, importV, import1, importL, importT, imm, immL, pureR, pureRL, shapeR, flatR, shares, sharesL, hand_cons, hand_nil, oks, vst, vmd, ty, List.all_cons, List.all_nil, List.length_cons, List.length_nil, List.drop_succ_cons, List.drop_zero, List.drop_nil, List.head?_cons, List.head?_nil, List.cons_append, List.nil_append, List.append_nil, List.getElem?_cons_zero, List.getElem?_cons_succ, List.take_succ_cons, List.take_zero, List.set_cons_zero, List.set_cons_succ, List.length_map, Bool.and_true, Bool.true_and, Bool.and_false, Bool.false_and, Bool.and_self, Bool.not_true, Bool.not_false, and_true, true_and, and_self, ne_eq, not_true_eq_false, not_false_eq_true, beq_self_eq_true, Option.isSome_none, Int.toNat_natCast, nat_nonneg, Nat.zero_add, Nat.add_zero, Nat.succ_ne_self, Nat.reduceLeDiff, Nat.reduceEqDiff, Nat.reduceMul, Nat.reduceSub, Nat.le_refl, Nat.zero_le, List.getElem?_map, List.map_nil, fillS, zipP, evalPs, List.replicate_zero, List.replicate_succ, appendV, List.isEmpty_cons, Nat.mul_zero, Nat.zero_mul, true_or, or_true, or_false, false_or, List.take_length, ite_self, z0, z1, bq1, bq2, Int.toNat_zero, z00, Nat.le_add_right, Fin_ret, Fin_nrm, Fin_pan, X_top, resV, exports, nodupK, exportT, exportA, exportL, export1, tupV, List.contains_nil, m13, e1, q1', q1'', q2', ownO]
    have q2' := eq_false q2
    by_cases q3 : rule ≥ p.rules.length
    · have q3' := eq_true q3
      simp only [vmr, vmw, vmp, ↓reduceIte, Nat.reduceBEq, Nat.reduceLT, Nat.reduceAdd, Nat.reduceEqDiff, reduceCtorEq, decide_true, decide_false, evalO, evalOs, ofValue, ofLeaf, params, tget, sub, aok, builtinV, overwrite, vlen, assignTo, settle1, settleL, newVarV, newArr, cellsAt, readT, storeAt, writeE, cellsV, vleaf, frz, frzs, refs, refsL, fitsE, binV, intOp, boolOp, nilOp, isNilS, unV, fillE, velems, callV_s, CR_some, CD, importV, import1, importL, importT, imm, immL, pureR, pureRL, shapeR, flatR, shares, sharesL, hand_cons, hand_nil, oks, vst, vmd, ty, List.all_cons, List.all_nil, List.length_cons, List.length_nil, List.drop_succ_cons, List.drop_zero, List.drop_nil, List.head?_cons, List.head?_nil, List.cons_append, List.nil_append, List.append_nil, List.getElem?_cons_zero, List.getElem?_cons_succ, List.take_succ_cons, List.take_zero, List.set_cons_zero, List.set_cons_succ, List.length_map, Bool.and_true, Bool.true_and, Bool.and_false, Bool.false_and, Bool.and_self, Bool.not_true, Bool.not_false, and_true, true_and, and_self, ne_eq, not_true_eq_false, not_false_eq_true, beq_self_eq_true, Option.isSome_none, Int.toNat_natCast, nat_nonneg, Nat.zero_add, Nat.add_zero, Nat.succ_ne_self, Nat.reduceLeDiff, Nat.reduceEqDiff, Nat.reduceMul, Nat.reduceSub, Nat.le_refl, Nat.zero_le, List.getElem?_map, List.map_nil, fillS, zipP, evalPs, List.replicate_zero, List.replicate_succ, appendV, List.isEmpty_cons, Nat.mul_zero, Nat.zero_mul, true_or, or_true, or_false, false_or, List.take_length, ite_self, z0, z1, bq1, bq2, Int.toNat_zero, z00, Nat.le_add_right, Fin_ret, Fin_nrm, Fin_pan, X_top, resV, exports, nodupK, exportT, exportA, exportL, export1, tupV, List.contains_nil, m13, e1, q1', q1'', q2', q3', ownO]
    have q3' := eq_false q3
    cases g : withinF st p.begin.length 1000000 with
    | false => simp only [vmr, vmw, vmp, ↓reduceIte, Nat.reduceBEq, Nat.reduceLT, Nat.reduceAdd, Nat.reduceEqDiff, reduceCtorEq, decide_true, decide_false, evalO, evalOs, ofValue, ofLeaf, params, tget, sub, aok, builtinV, overwrite, vlen, assignTo, settle1, settleL, newVarV, newArr, cellsAt, readT, storeAt, writeE, cellsV, vleaf, frz, frzs, refs, refsL, fitsE, binV, intOp, boolOp, nilOp, isNilS, unV, fillE, velems, callV_s, CR_some, CD, importV, import1, importL, importT, imm, immL, pureR, pureRL, shapeR, flatR, shares, sharesL, hand_cons, hand_nil, oks, vst, vmd, ty, List.all_cons, List.all_nil, List.length_cons, List.length_nil, List.drop_succ_cons, List.drop_zero, List.drop_nil, List.head?_cons, List.head?_nil, List.cons_append, List.nil_append, List.append_nil, List.getElem?_cons_zero, List.getElem?_cons_succ, List.take_succ_cons, List.take_zero, List.set_cons_zero, List.set_cons_succ, List.length_map, Bool.and_true, Bool.true_and, Bool.and_false, Bool.false_and, Bool.and_self, Bool.not_true, Bool.not_false, and_true, true_and, and_self, ne_eq, not_true_eq_false, not_false_eq_true, beq_self_eq_true, Option.isSome_none, Int.toNat_natCast, nat_nonneg, Nat.zero_add, Nat.add_zero, Nat.succ_ne_self, Nat.reduceLeDiff, Nat.reduceEqDiff, Nat.reduceMul, Nat.reduceSub, Nat.le_refl, Nat.zero_le, List.getElem?_map, List.map_nil, fillS, zipP, evalPs, List.replicate_zero, List.replicate_succ, appendV, List.isEmpty_cons, Nat.mul_zero, Nat.zero_mul, true_or, or_true, or_false, false_or, List.take_length, ite_self, z0, z1, bq1, bq2, Int.toNat_zero, z00, Nat.le_add_right, Fin_ret, Fin_nrm, Fin_pan, X_top, resV, exports, nodupK, exportT, exportA, exportL, export1, tupV, List.contains_nil, m13, e1, q1', q1'', q2', q3', ownO, e2, g]
    | true =>
      obtain ⟨h1, _, _, _, _, _, _, hr, _⟩ := checkF_facts q1
      have h2 := withinF_len g
      have q4 : (0 ≤ rule) = True := eq_true (by omega)
      have hlt : rule.toNat < p.rules.length := by omega
      have hg : p.rules[rule.toNat]? = some (p.rules.getD rule.toNat rule0) := by simp [List.getD, hlt]
      have hm := mem_of hg
      have e3 := F24_eq (right_step (hp.rule _ hm) (hr _ hm) h2 hs (by omega))
      have hlen := fun o h => @rstep_len (p.rules.getD rule.toNat rule0) st o h
      have hbd := fun o h => @rstep_bnd (p.rules.getD rule.toNat rule0) st o _ (hp.rule _ hm) (hr _ hm) (within_bnd g) h
      rw [useF_eq]
      cases hu : rstepF (p.rules.getD rule.toNat rule0) st with
      | none =>
        rw [hu] at e3
        simp only [ownO, Option.isSome_none] at e3
        simp only [vmr, vmw, vmp, ↓reduceIte, Nat.reduceBEq, Nat.reduceLT, Nat.reduceAdd, Nat.reduceEqDiff, reduceCtorEq, decide_true, decide_false, evalO, evalOs, ofValue, ofLeaf, params, tget, sub, aok, builtinV, overwrite, vlen, assignTo, settle1, settleL, newVarV, newArr, cellsAt, readT, storeAt, writeE, cellsV, vleaf, frz, frzs, refs, refsL, fitsE, binV, intOp, boolOp, nilOp, isNilS, unV, fillE, velems, callV_s, CR_some, CD, importV, import1, importL, importT, imm, immL, pureR, pureRL, shapeR, flatR, shares, sharesL, hand_cons, hand_nil, oks, vst, vmd, ty, List.all_cons, List.all_nil, List.length_cons, List.length_nil, List.drop_succ_cons, List.drop_zero, List.drop_nil, List.head?_cons, List.head?_nil, List.cons_append, List.nil_append, List.append_nil, List.getElem?_cons_zero, List.getElem?_cons_succ, List.take_succ_cons, List.take_zero, List.set_cons_zero, List.set_cons_succ, List.length_map, Bool.and_true, Bool.true_and, Bool.and_false, Bool.false_and, Bool.and_self, Bool.not_true, Bool.not_false, and_true, true_and, and_self, ne_eq, not_true_eq_false, not_false_eq_true, beq_self_eq_true, Option.isSome_none, Int.toNat_natCast, nat_nonneg, Nat.zero_add, Nat.add_zero, Nat.succ_ne_self, Nat.reduceLeDiff, Nat.reduceEqDiff, Nat.reduceMul, Nat.reduceSub, Nat.le_refl, Nat.zero_le, List.getElem?_map, List.map_nil, fillS, zipP, evalPs, List.replicate_zero, List.replicate_succ, appendV, List.isEmpty_cons, Nat.mul_zero, Nat.zero_mul, true_or, or_true, or_false, false_or, List.take_length, ite_self, z0, z1, bq1, bq2, Int.toNat_zero, z00, Nat.le_add_right, Fin_ret, Fin_nrm, Fin_pan, X_top, resV, exports, nodupK, exportT, exportA, exportL, export1, tupV, List.contains_nil, m13, e1, q1', q1'', q2', q3', ownO, e2, g, q4, hg, e3]
      | some o =>
        rw [hu] at e3
        simp only [ownO, isome] at e3
        have hlo := hlen o hu
        obtain ⟨B, hB⟩ := hbd o hu
        have hon : o ≠ [] := by rintro rfl; simp at hlo; omega
        have e4 := F25_eq (p := p) (l := o) (by omega)
        have hwm := within_max hB hon
        rw [show (o.length : Int) = p.begin.length by omega] at hwm
        have ht := take_len I o
        by_cases hmx : maxF (o.headD 0) o.tail > 1000000
        · have hmx' := eq_true hmx
          simp only [hmx', decide_true, Bool.not_true] at hwm
          simp only [vmr, vmw, vmp, ↓reduceIte, Nat.reduceBEq, Nat.reduceLT, Nat.reduceAdd, Nat.reduceEqDiff, reduceCtorEq, decide_true, decide_false, evalO, evalOs, ofValue, ofLeaf, params, tget, sub, aok, builtinV, overwrite, vlen, assignTo, settle1, settleL, newVarV, newArr, cellsAt, readT, storeAt, writeE, cellsV, vleaf, frz, frzs, refs, refsL, fitsE, binV, intOp, boolOp, nilOp, isNilS, unV, fillE, velems, callV_s, CR_some, CD, importV, import1, importL, importT, imm, immL, pureR, pureRL, shapeR, flatR, shares, sharesL, hand_cons, hand_nil, oks, vst, vmd, ty, List.all_cons, List.all_nil, List.length_cons, List.length_nil, List.drop_succ_cons, List.drop_zero, List.drop_nil, List.head?_cons, List.head?_nil, List.cons_append, List.nil_append, List.append_nil, List.getElem?_cons_zero, List.getElem?_cons_succ, List.take_succ_cons, List.take_zero, List.set_cons_zero, List.set_cons_succ, List.length_map, Bool.and_true, Bool.true_and, Bool.and_false, Bool.false_and, Bool.and_self, Bool.not_true, Bool.not_false, and_true, true_and, and_self, ne_eq, not_true_eq_false, not_false_eq_true, beq_self_eq_true, Option.isSome_none, Int.toNat_natCast, nat_nonneg, Nat.zero_add, Nat.add_zero, Nat.succ_ne_self, Nat.reduceLeDiff, Nat.reduceEqDiff, Nat.reduceMul, Nat.reduceSub, Nat.le_refl, Nat.zero_le, List.getElem?_map, List.map_nil, fillS, zipP, evalPs, List.replicate_zero, List.replicate_succ, appendV, List.isEmpty_cons, Nat.mul_zero, Nat.zero_mul, true_or, or_true, or_false, false_or, List.take_length, ite_self, z0, z1, bq1, bq2, Int.toNat_zero, z00, Nat.le_add_right, Fin_ret, Fin_nrm, Fin_pan, X_top, resV, exports, nodupK, exportT, exportA, exportL, export1, tupV, List.contains_nil, m13, e1, q1', q1'', q2', q3', ownO, e2, g, q4, hg, e3, shI, ht, e4, hwm, hmx']
        · have hmx' := eq_false hmx
          simp only [hmx', decide_false, Bool.not_false] at hwm
          simp only [vmr, vmw, vmp, ↓reduceIte, Nat.reduceBEq, Nat.reduceLT, Nat.reduceAdd, Nat.reduceEqDiff, reduceCtorEq, decide_true, decide_false, evalO, evalOs, ofValue, ofLeaf, params, tget, sub, aok, builtinV, overwrite, vlen, assignTo, settle1, settleL, newVarV, newArr, cellsAt, readT, storeAt, writeE, cellsV, vleaf, frz, frzs, refs, refsL, fitsE, binV, intOp, boolOp, nilOp, isNilS, unV, fillE, velems, callV_s, CR_some, CD, importV, import1, importL, importT, imm, immL, pureR, pureRL, shapeR, flatR, shares, sharesL, hand_cons, hand_nil, oks, vst, vmd, ty, List.all_cons, List.all_nil, List.length_cons, List.length_nil, List.drop_succ_cons, List.drop_zero, List.drop_nil, List.head?_cons, List.head?_nil, List.cons_append, List.nil_append, List.append_nil, List.getElem?_cons_zero, List.getElem?_cons_succ, List.take_succ_cons, List.take_zero, List.set_cons_zero, List.set_cons_succ, List.length_map, Bool.and_true, Bool.true_and, Bool.and_false, Bool.false_and, Bool.and_self, Bool.not_true, Bool.not_false, and_true, true_and, and_self, ne_eq, not_true_eq_false, not_false_eq_true, beq_self_eq_true, Option.isSome_none, Int.toNat_natCast, nat_nonneg, Nat.zero_add, Nat.add_zero, Nat.succ_ne_self, Nat.reduceLeDiff, Nat.reduceEqDiff, Nat.reduceMul, Nat.reduceSub, Nat.le_refl, Nat.zero_le, List.getElem?_map, List.map_nil, fillS, zipP, evalPs, List.replicate_zero, List.replicate_succ, appendV, List.isEmpty_cons, Nat.mul_zero, Nat.zero_mul, true_or, or_true, or_false, false_or, List.take_length, ite_self, z0, z1, bq1, bq2, Int.toNat_zero, z00, Nat.le_add_right, Fin_ret, Fin_nrm, Fin_pan, X_top, resV, exports, nodupK, exportT, exportA, exportL, export1, tupV, List.contains_nil, m13, e1, q1', q1'', q2', q3', ownO, e2, g, q4, hg, e3, shI, ht, e4, hwm, hmx']
  · have q1' : (checkF p != 0) = true := by simp [q1]
    have q1'' : (checkF p = 0) = False := eq_false q1
    simp only [vmr, vmw, vmp, ↓reduceIte, Nat.reduceBEq, Nat.reduceLT, Nat.reduceAdd, Nat.reduceEqDiff, reduceCtorEq, decide_true, decide_false, evalO, evalOs, ofValue, ofLeaf, params, tget, sub, aok, builtinV, overwrite, vlen, assignTo, settle1, settleL, newVarV, newArr, cellsAt, readT, storeAt, writeE, cellsV, vleaf, frz, frzs, refs, refsL, fitsE, binV, intOp, boolOp, nilOp, isNilS, unV, fillE, velems, callV_s, CR_some, CD, importV, import1, importL, importT, imm, immL, pureR, pureRL, shapeR, flatR, shares, sharesL, hand_cons, hand_nil, oks, vst, vmd, ty, List.all_cons, List.all_nil, List.length_cons, List.length_nil, List.drop_succ_cons, List.drop_zero, List.drop_nil, List.head?_cons, List.head?_nil, List.cons_append, List.nil_append, List.append_nil, List.getElem?_cons_zero, List.getElem?_cons_succ, List.take_succ_cons, List.take_zero, List.set_cons_zero, List.set_cons_succ, List.length_map, Bool.and_true, Bool.true_and, Bool.and_false, Bool.false_and, Bool.and_self, Bool.not_true, Bool.not_false, and_true, true_and, and_self, ne_eq, not_true_eq_false, not_false_eq_true, beq_self_eq_true, Option.isSome_none, Int.toNat_natCast, nat_nonneg, Nat.zero_add, Nat.add_zero, Nat.succ_ne_self, Nat.reduceLeDiff, Nat.reduceEqDiff, Nat.reduceMul, Nat.reduceSub, Nat.le_refl, Nat.zero_le, List.getElem?_map, List.map_nil, fillS, zipP, evalPs, List.replicate_zero, List.replicate_succ, appendV, List.isEmpty_cons, Nat.mul_zero, Nat.zero_mul, true_or, or_true, or_false, false_or, List.take_length, ite_self, z0, z1, bq1, bq2, Int.toNat_zero, z00, Nat.le_add_right, Fin_ret, Fin_nrm, Fin_pan, X_top, resV, exports, nodupK, exportT, exportA, exportL, export1, tupV, List.contains_nil, m13, e1, q1', q1'', ownO]
end Go.Vi
