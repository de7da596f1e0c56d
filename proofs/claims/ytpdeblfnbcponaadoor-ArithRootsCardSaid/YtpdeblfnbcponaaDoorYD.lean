/-
  Walks of ref.sum, Add, Sub, Neg, Compare (written by mkYi.py).
-/
import Derived.Test.YtpdeblfnbcponaaDoorYC
set_option linter.unusedSimpArgs false
set_option linter.unusedVariables false
set_option maxRecDepth 100000
set_option maxHeartbeats 1000000
set_option exponentiation.threshold 256
namespace Go.Vi
open Go Go.Proofs

abbrev shortI (z : Int) : Prop := short z.natAbs
set_option exponentiation.threshold 2000000 in
theorem short_big {n m : Nat} (h : short n) (h2 : short m) : n + m < 10 ^ 1000000 := by
  have h3 : n + m < 10 ^ 2001 := by rw [Nat.pow_succ]; omega
  exact Nat.lt_of_lt_of_le h3 (Nat.pow_le_pow_right (by omega) (by omega))
noncomputable abbrev T70 : List (FuncId × (List V → Option V)) := (89, F89) :: (47, F47) :: (64, F64) :: (87, F87) :: []
theorem hT70 : SoundHand Tryd.prog (hand T70) := sound_cons (hF_sound fun a h => w89 a.1 a.2 h.1 h.2) <| sound_cons (hF_sound fun a h => w47 a.1 a.2 h) <| sound_cons (hF_sound fun a h => w64r a.1 a.2 h.1 h.2) <| sound_cons (hF_sound fun a h => w87 a.1 a.2 h.1 h.2) sound_nil
/-- A number with a sign. -/
def sg (b : Bool) (m : Nat) : Int := if b = true then -(m : Int) else (m : Int)
theorem w70 (x : Int) (b : Bool) (m : Nat) (hx : shortI x) (hy : short m) : SoundPure Tryd.prog 70 [Zr x, Z b (lm 10 m)] (.ret (Zr (x + sg b m))) := by
  refine s70 hT70 5 (by simp) sZ ?_
  have hs : calm (M70 (hand T70) 5).E (opsAt (sub [1, 0, 1, 0, 0] c70)) = true := by kernel_rfl
  have hs2 : calm (M70 (hand T70) 5).E (opsAt (sub [1, 1, 0, 1, 0, 0] c70)) = true := by kernel_rfl
  have hs3 : calm (M70 (hand T70) 5).E (opsAt (sub [1, 1, 1, 0] c70)) = true := by kernel_rfl
  have e89 := F89_eq hx hy
  have e64 := F64_eq hx hy
  simp only [c70, Tryd.f70, gets, sub, opsAt] at hs hs2 hs3 ⊢
  have ep := F47_posD (short_big hx hy)
  have en := F47_negD (short_big hx hy)
  have hlx := short_len hx
  have hly := short_len hy
  have bx := lm_lt b10 x.natAbs
  have bY := lm_lt b10 m
  by_cases hlt : x.natAbs < m
  · have c1 : (cmp3 x.natAbs m ≥ 0) = False := eq_false (by unfold cmp3; rw [if_pos hlt]; omega)
    have e87 := F87_eq (x := m) (y := x.natAbs) (by omega) hy
    have fp := F47_pos (k := (lm 10 m).length) (n := m - x.natAbs) (by omega) (by omega)
    have fn := F47_neg (k := (lm 10 m).length) (n := m - x.natAbs) (by omega) (by omega)
    by_cases h1 : x < 0 <;> cases b
    · rw [show ((m - x.natAbs : Nat) : Int) = x + sg false m by unfold sg; simp only [if_true, if_false, Bool.false_eq_true]; omega] at fp
      have d1 := decide_eq_true h1
      simp only [vmr, vmw, vmp, vza, ↓reduceIte, Nat.reduceBEq, Nat.reduceLT, Nat.reduceAdd, Nat.reduceEqDiff, reduceCtorEq, vmt, vzb, vzc, vlen, vleaf, velems, oks, vst, vmd, ty, Nat.reduceLeDiff, Nat.reduceMul, Nat.reduceSub, vzr, m70, hs, hs2, hs3, e64, c1, e87, fp, d1, RD_build, bxs, refsI, refsL, refs, shI, pureLI, allflatI, import_I, List.isEmpty_nil, List.nil_append, List.append_nil]
    · rw [show -((x.natAbs + m : Nat) : Int) = x + sg true m by unfold sg; simp only [if_true, if_false, Bool.false_eq_true]; omega] at en
      have d1 := decide_eq_true h1
      simp only [vmr, vmw, vmp, vza, ↓reduceIte, Nat.reduceBEq, Nat.reduceLT, Nat.reduceAdd, Nat.reduceEqDiff, reduceCtorEq, vmt, vzb, vzc, vlen, vleaf, velems, oks, vst, vmd, ty, Nat.reduceLeDiff, Nat.reduceMul, Nat.reduceSub, vzr, m70, hs, hs2, hs3, e89, en, d1, RD_build, bxs, refsI, refsL, refs, shI, pureLI, allflatI, import_I, List.isEmpty_nil, List.nil_append, List.append_nil]
    · rw [show ((x.natAbs + m : Nat) : Int) = x + sg false m by unfold sg; simp only [if_true, if_false, Bool.false_eq_true]; omega] at ep
      have d1 := decide_eq_false h1
      simp only [vmr, vmw, vmp, vza, ↓reduceIte, Nat.reduceBEq, Nat.reduceLT, Nat.reduceAdd, Nat.reduceEqDiff, reduceCtorEq, vmt, vzb, vzc, vlen, vleaf, velems, oks, vst, vmd, ty, Nat.reduceLeDiff, Nat.reduceMul, Nat.reduceSub, vzr, m70, hs, hs2, hs3, e89, ep, d1, RD_build, bxs, refsI, refsL, refs, shI, pureLI, allflatI, import_I, List.isEmpty_nil, List.nil_append, List.append_nil]
    · rw [show -((m - x.natAbs : Nat) : Int) = x + sg true m by unfold sg; simp only [if_true, if_false, Bool.false_eq_true]; omega] at fn
      have d1 := decide_eq_false h1
      simp only [vmr, vmw, vmp, vza, ↓reduceIte, Nat.reduceBEq, Nat.reduceLT, Nat.reduceAdd, Nat.reduceEqDiff, reduceCtorEq, vmt, vzb, vzc, vlen, vleaf, velems, oks, vst, vmd, ty, Nat.reduceLeDiff, Nat.reduceMul, Nat.reduceSub, vzr, m70, hs, hs2, hs3, e64, c1, e87, fn, d1, RD_build, bxs, refsI, refsL, refs, shI, pureLI, allflatI, import_I, List.isEmpty_nil, List.nil_append, List.append_nil]
  · have c1 : (cmp3 x.natAbs m ≥ 0) = True := eq_true (by unfold cmp3; rw [if_neg hlt]; split <;> omega)
    have e87 := F87_eq (x := x.natAbs) (y := m) (by omega) hx
    have fp := F47_pos (k := (lm 10 x.natAbs).length) (n := x.natAbs - m) (by omega) (by omega)
    have fn := F47_neg (k := (lm 10 x.natAbs).length) (n := x.natAbs - m) (by omega) (by omega)
    by_cases h1 : x < 0 <;> cases b
    · rw [show -((x.natAbs - m : Nat) : Int) = x + sg false m by unfold sg; simp only [if_true, if_false, Bool.false_eq_true]; omega] at fn
      have d1 := decide_eq_true h1
      simp only [vmr, vmw, vmp, vza, ↓reduceIte, Nat.reduceBEq, Nat.reduceLT, Nat.reduceAdd, Nat.reduceEqDiff, reduceCtorEq, vmt, vzb, vzc, vlen, vleaf, velems, oks, vst, vmd, ty, Nat.reduceLeDiff, Nat.reduceMul, Nat.reduceSub, vzr, m70, hs, hs2, hs3, e64, c1, e87, fn, d1, RD_build, bxs, refsI, refsL, refs, shI, pureLI, allflatI, import_I, List.isEmpty_nil, List.nil_append, List.append_nil]
    · rw [show -((x.natAbs + m : Nat) : Int) = x + sg true m by unfold sg; simp only [if_true, if_false, Bool.false_eq_true]; omega] at en
      have d1 := decide_eq_true h1
      simp only [vmr, vmw, vmp, vza, ↓reduceIte, Nat.reduceBEq, Nat.reduceLT, Nat.reduceAdd, Nat.reduceEqDiff, reduceCtorEq, vmt, vzb, vzc, vlen, vleaf, velems, oks, vst, vmd, ty, Nat.reduceLeDiff, Nat.reduceMul, Nat.reduceSub, vzr, m70, hs, hs2, hs3, e89, en, d1, RD_build, bxs, refsI, refsL, refs, shI, pureLI, allflatI, import_I, List.isEmpty_nil, List.nil_append, List.append_nil]
    · rw [show ((x.natAbs + m : Nat) : Int) = x + sg false m by unfold sg; simp only [if_true, if_false, Bool.false_eq_true]; omega] at ep
      have d1 := decide_eq_false h1
      simp only [vmr, vmw, vmp, vza, ↓reduceIte, Nat.reduceBEq, Nat.reduceLT, Nat.reduceAdd, Nat.reduceEqDiff, reduceCtorEq, vmt, vzb, vzc, vlen, vleaf, velems, oks, vst, vmd, ty, Nat.reduceLeDiff, Nat.reduceMul, Nat.reduceSub, vzr, m70, hs, hs2, hs3, e89, ep, d1, RD_build, bxs, refsI, refsL, refs, shI, pureLI, allflatI, import_I, List.isEmpty_nil, List.nil_append, List.append_nil]
    · rw [show ((x.natAbs - m : Nat) : Int) = x + sg true m by unfold sg; simp only [if_true, if_false, Bool.false_eq_true]; omega] at fp
      have d1 := decide_eq_false h1
      simp only [vmr, vmw, vmp, vza, ↓reduceIte, Nat.reduceBEq, Nat.reduceLT, Nat.reduceAdd, Nat.reduceEqDiff, reduceCtorEq, vmt, vzb, vzc, vlen, vleaf, velems, oks, vst, vmd, ty, Nat.reduceLeDiff, Nat.reduceMul, Nat.reduceSub, vzr, m70, hs, hs2, hs3, e64, c1, e87, fp, d1, RD_build, bxs, refsI, refsL, refs, shI, pureLI, allflatI, import_I, List.isEmpty_nil, List.nil_append, List.append_nil]
theorem sg_of (y : Int) : sg (decide (y < 0)) y.natAbs = y := by
  unfold sg
  by_cases h : y < 0
  · rw [decide_eq_true h, if_pos rfl]; omega
  · rw [decide_eq_false h, if_neg (by decide)]; omega
noncomputable def F70 : List V → Option V := hF (α := Int × Bool × Nat) (fun a => [Zr a.1, Z a.2.1 (lm 10 a.2.2)]) (fun a => shortI a.1 ∧ short a.2.2) (fun a => Zr (a.1 + sg a.2.1 a.2.2))
theorem F70_sg {x : Int} {b : Bool} {m : Nat} (hx : shortI x) (hy : short m) : F70 [Zr x, Z b (lm 10 m)] = some (Zr (x + sg b m)) := hF_eq (a := (x, b, m)) (fun a b h => by
  injection h with h1 h2
  injection h2 with h2 _
  obtain ⟨h3, h4⟩ := Z_inj h2
  exact Prod.ext (Zr_inj h1) (Prod.ext h3 (lm_inj (by omega) h4))) (by simp only [cans, canZ]) ⟨hx, hy⟩
theorem F70_eq {x y : Int} (hx : shortI x) (hy : shortI y) : F70 [Zr x, Zr y] = some (Zr (x + y)) := by
  have := F70_sg (b := decide (y < 0)) hx hy
  rw [sg_of] at this
  exact this
end Go.Vi
set_option maxRecDepth 100000
set_option maxHeartbeats 1000000
set_option exponentiation.threshold 256
namespace Go.Vi
open Go Go.Proofs

set_option exponentiation.threshold 2000000 in
theorem small_short {z : Int} (h : small z) : shortI z := Nat.lt_of_lt_of_le h (Nat.pow_le_pow_right (by omega) (by omega))
theorem twoB_ok {a b : List UInt8} (ha : validB a = true) (hb : validB b = true) : F44 [.str a, .str b] = some (I 0) := by
  rw [F44_eq]; unfold twoB; rw [if_pos ⟨ha, hb⟩]
theorem twoB_bad {a b : List UInt8} (h : ¬ (validB a = true ∧ validB b = true)) : F44 [.str a, .str b] = some (I 2) := by
  rw [F44_eq]; unfold twoB; rw [if_neg h]
theorem outS_tup (z : Int) : ∃ s e, outS z = .tup [.str s, I e] := ⟨_, _, rfl⟩
noncomputable abbrev T32 : List (FuncId × (List V → Option V)) := (44, F44) :: (45, F45) :: (70, F70) :: (46, F46) :: (47, F47) :: (31, F31) :: []
theorem hT32 : SoundHand Tryd.prog (hand T32) := sound_cons (hF_sound fun a _ => w44 a.1 a.2) <| sound_cons (hF_sound fun a h => w45 a h) <| sound_cons (hF_sound fun a h => w70 a.1 a.2.1 a.2.2 h.1 h.2) <| sound_cons (hF_sound fun a _ => w46 a) <| sound_cons (hF_sound fun a h => w47 a.1 a.2 h) <| sound_cons (hF_sound fun a _ => w31 a) sound_nil
theorem w32 (a b : List UInt8) : SoundPure Tryd.prog 32 [.str a, .str b] (.ret (with2 (fun x y => x + y) a b)) := by
  refine s32 hT32 6 (by simp) with2_pure ?_
  unfold with2
  simp only [c32, Tryd.f32, gets]
  by_cases h : validB a = true ∧ validB b = true
  · rw [if_pos h]
    obtain ⟨ha, hb⟩ := h
    have e44 := twoB_ok ha hb
    have ea := F45_eq ha
    have eb := F45_eq hb
    have e70 := F70_eq (small_short (ival_small ha)) (small_short (ival_small hb))
    have e46 := F46_eq (ival a + ival b)
    obtain ⟨s, e, ho⟩ := outS_tup (ival a + ival b)
    rw [ho] at e46 ⊢
    simp only [vmr, vmw, vmp, vza, ↓reduceIte, Nat.reduceBEq, Nat.reduceLT, Nat.reduceAdd, Nat.reduceEqDiff, reduceCtorEq, vmt, vzb, vzc, vlen, vleaf, velems, oks, vst, vmd, ty, Nat.reduceLeDiff, Nat.reduceMul, Nat.reduceSub, vzr, m32, Int.reduceBNe, Int.reduceBEq, Bool.false_eq_true, e44, ea, eb, e70, e46, refsI, refsL, refs, shI, pureLI, allflatI, import_I]
  · rw [if_neg h]
    have e44 := twoB_bad h
    unfold badS
    simp only [vmr, vmw, vmp, vza, ↓reduceIte, Nat.reduceBEq, Nat.reduceLT, Nat.reduceAdd, Nat.reduceEqDiff, reduceCtorEq, vmt, vzb, vzc, vlen, vleaf, velems, oks, vst, vmd, ty, Nat.reduceLeDiff, Nat.reduceMul, Nat.reduceSub, vzr, m32, Int.reduceBNe, Int.reduceBEq, Bool.false_eq_true, e44]
set_option exponentiation.threshold 2000000 in
theorem Zr_not (z : Int) (h : small z) : F47 [Z (!decide (z < 0)) (lm 10 z.natAbs)] = some (Zr (-z)) := by
  have hb : z.natAbs < 10 ^ 1000000 := Nat.lt_of_lt_of_le h (Nat.pow_le_pow_right (by omega) (by omega))
  by_cases hz : z < 0
  · rw [decide_eq_true hz, Bool.not_true, F47_posD hb, show ((z.natAbs : Nat) : Int) = -z by omega]
  · rw [decide_eq_false hz, Bool.not_false, F47_negD hb, show -((z.natAbs : Nat) : Int) = -z by omega]
theorem w33 (a b : List UInt8) : SoundPure Tryd.prog 33 [.str a, .str b] (.ret (with2 (fun x y => x - y) a b)) := by
  refine s33 hT32 6 (by simp) with2_pure ?_
  unfold with2
  have hs : calm (M33 (hand T32) 6).E (opsAt (sub [1, 1, 1, 0] c33)) = true := by kernel_rfl
  simp only [c33, Tryd.f33, gets, sub, opsAt] at hs ⊢
  by_cases h : validB a = true ∧ validB b = true
  · rw [if_pos h]
    obtain ⟨ha, hb⟩ := h
    have e44 := twoB_ok ha hb
    have ea := F45_eq ha
    have eb := F45_eq hb
    have hsb : small (-ival b) := by show Int.natAbs _ < _; rw [Int.natAbs_neg]; exact ival_small hb
    have e70 := F70_eq (small_short (ival_small ha)) (small_short hsb)
    have e47 := Zr_not (ival b) (ival_small hb)
    have e46 := F46_eq (ival a + -ival b)
    obtain ⟨s, e, ho⟩ := outS_tup (ival a + -ival b)
    rw [show ival a - ival b = ival a + -ival b from rfl]
    rw [ho] at e46 ⊢
    simp only [vmr, vmw, vmp, vza, ↓reduceIte, Nat.reduceBEq, Nat.reduceLT, Nat.reduceAdd, Nat.reduceEqDiff, reduceCtorEq, vmt, vzb, vzc, vlen, vleaf, velems, oks, vst, vmd, ty, Nat.reduceLeDiff, Nat.reduceMul, Nat.reduceSub, vzr, m33, Int.reduceBNe, Int.reduceBEq, Bool.false_eq_true, hs, e44, ea, eb, e70, e47, e46, RD_build, bxs, refsI, refsL, refs, shI, pureLI, allflatI, import_I, List.isEmpty_nil, List.nil_append, List.append_nil]
  · rw [if_neg h]
    have e44 := twoB_bad h
    unfold badS
    simp only [vmr, vmw, vmp, vza, ↓reduceIte, Nat.reduceBEq, Nat.reduceLT, Nat.reduceAdd, Nat.reduceEqDiff, reduceCtorEq, vmt, vzb, vzc, vlen, vleaf, velems, oks, vst, vmd, ty, Nat.reduceLeDiff, Nat.reduceMul, Nat.reduceSub, vzr, m33, Int.reduceBNe, Int.reduceBEq, Bool.false_eq_true, e44]
theorem w34 (a : List UInt8) : SoundPure Tryd.prog 34 [.str a] (.ret (with2 (fun x y => -x) a [48])) := by
  refine s34 hT32 6 (by simp) with2_pure ?_
  unfold with2
  have h48 : validB [48] = true := rfl
  simp only [c34, Tryd.f34, gets, sub]
  have e31 := F31_eq a
  cases ha : validB a with
  | true =>
    rw [ha] at e31
    rw [if_pos ⟨rfl, h48⟩]
    have ea := F45_eq ha
    have e47 := Zr_not (ival a) (ival_small ha)
    have e46 := F46_eq (-ival a)
    obtain ⟨s, e, ho⟩ := outS_tup (-ival a)
    rw [ho] at e46 ⊢
    simp only [vmr, vmw, vmp, vza, ↓reduceIte, Nat.reduceBEq, Nat.reduceLT, Nat.reduceAdd, Nat.reduceEqDiff, reduceCtorEq, vmt, vzb, vzc, vlen, vleaf, velems, oks, vst, vmd, ty, Nat.reduceLeDiff, Nat.reduceMul, Nat.reduceSub, vzr, m34, Int.reduceBNe, Int.reduceBEq, Bool.false_eq_true, e31, ea, e47, e46, bxs, refsI, refsL, refs, shI, pureLI, allflatI, import_I]
  | false =>
    rw [ha] at e31
    rw [if_neg (by simp)]
    unfold badS
    simp only [vmr, vmw, vmp, vza, ↓reduceIte, Nat.reduceBEq, Nat.reduceLT, Nat.reduceAdd, Nat.reduceEqDiff, reduceCtorEq, vmt, vzb, vzc, vlen, vleaf, velems, oks, vst, vmd, ty, Nat.reduceLeDiff, Nat.reduceMul, Nat.reduceSub, vzr, m34, Int.reduceBNe, Int.reduceBEq, Bool.false_eq_true, e31]
noncomputable def F24 : List V → Option V := hF (α := List UInt8 × List UInt8) (fun a => [.str a.1, .str a.2]) (fun _ => True) (fun a => with2 (fun x y => x + y) a.1 a.2)
theorem F24_eq (a b : List UInt8) : F24 [.str a, .str b] = some (with2 (fun x y => x + y) a b) := hF_eq (a := (a, b)) two_Str (by simp only [cans, canStr]) trivial
noncomputable def F27 : List V → Option V := hF (α := List UInt8 × List UInt8) (fun a => [.str a.1, .str a.2]) (fun _ => True) (fun a => with2 (fun x y => x - y) a.1 a.2)
theorem F27_eq (a b : List UInt8) : F27 [.str a, .str b] = some (with2 (fun x y => x - y) a b) := hF_eq (a := (a, b)) two_Str (by simp only [cans, canStr]) trivial
noncomputable def F26 : List V → Option V := hF (α := List UInt8) (fun a => [.str a]) (fun _ => True) (fun a => with2 (fun x y => -x) a [48])
theorem F26_eq (a : List UInt8) : F26 [.str a] = some (with2 (fun x y => -x) a [48]) := hF_eq (a := a) (one_inj' fun _ _ => Str_inj) (by simp only [cans, canStr]) trivial
end Go.Vi
set_option maxRecDepth 100000
set_option maxHeartbeats 1000000
set_option exponentiation.threshold 256
namespace Go.Vi
open Go Go.Proofs

noncomputable abbrev ops29 : Array Oper := opsAt (sub [1, 1, 1, 1, 0] c29)
theorem draw29 {n : Nat} {s : St} {x z : Int} {a : List UInt8} {b : Bool} {l : List Int} {v7 : Nat} (h0 : tget s.τ 0 = .str a) (h7 : tget s.τ 7 = .ptr ⟨0, 7, 0⟩ v7 0 0) (h7' : lget s.L (7, 0) = some (v7, .var [.bool b, Is l])) (e45 : F45 [.str a] = some (Zr x)) (e70 : F70 [Zr x, Z b l] = some (Zr z)) :
    ∃ τ' L' c' v8, drawR (M29 (hand T32) n).call (M29 (hand T32) n).E (M29 (hand T32) n).C ops29 s = some ⟨τ', L', s.O, c'⟩ ∧ tget τ' 8 = .ptr ⟨0, 8, 0⟩ v8 0 0 ∧ lget L' (8, 0) = some (v8, .var [.bool (decide (z < 0)), D z.natAbs]) := by
  unfold drawR
  have hac : actorsOf (M29 (hand T32) n).E ops29.toList 0 = [4, 5] := by kernel_rfl
  have f0 : [4, 5].filter (apartI (ancTab ops29.toList []) 0) = [4] := by kernel_rfl
  have f1 : [4, 5].filter (apartI (ancTab ops29.toList []) 1) = [4] := by kernel_rfl
  have f2 : [4, 5].filter (apartI (ancTab ops29.toList []) 2) = [4] := by kernel_rfl
  have f3 : [4, 5].filter (apartI (ancTab ops29.toList []) 3) = [4] := by kernel_rfl
  have hst : allAt (fun o i => staticOk (M29 (hand T32) n).E ops29 (ancTab ops29.toList []) [4, 5] o i) ops29.toList 0 = true := by kernel_rfl
  have hlk : ops29.toList.map (Oper.looksAt ops29) = [[0], [21], [7], [22, 23], [], [8, 24]] := by kernel_rfl
  have w5 : watched ops29 (ancTab ops29.toList []) [4, 5] 5 = false := by kernel_rfl
  rw [hac]
  generalize ancTab ops29.toList [] = T at f0 f1 f2 f3 hst w5
  have g4 : ∀ s0 : St, estAt (M29 (hand T32) n).E ops29 s0 4 = some [⟨0, 8, 0⟩] := fun s0 => by kernel_rfl
  have Q0 : ∀ s0 s1, qState (M29 (hand T32) n).E ops29 T [4, 5] s0 s1 0 = ⟨(s1.del (M29 (hand T32) n).E ⟨0, 8, 0⟩).τ, (s1.del (M29 (hand T32) n).E ⟨0, 8, 0⟩).L, (s1.del (M29 (hand T32) n).E ⟨0, 8, 0⟩).O, s1.c + slack⟩ := fun s0 s1 => by unfold qState; rw [f0]; simp only [gatherK, g4]; rfl
  have Q1 : ∀ s0 s1, qState (M29 (hand T32) n).E ops29 T [4, 5] s0 s1 1 = ⟨(s1.del (M29 (hand T32) n).E ⟨0, 8, 0⟩).τ, (s1.del (M29 (hand T32) n).E ⟨0, 8, 0⟩).L, (s1.del (M29 (hand T32) n).E ⟨0, 8, 0⟩).O, s1.c + slack⟩ := fun s0 s1 => by unfold qState; rw [f1]; simp only [gatherK, g4]; rfl
  have Q2 : ∀ s0 s1, qState (M29 (hand T32) n).E ops29 T [4, 5] s0 s1 2 = ⟨(s1.del (M29 (hand T32) n).E ⟨0, 8, 0⟩).τ, (s1.del (M29 (hand T32) n).E ⟨0, 8, 0⟩).L, (s1.del (M29 (hand T32) n).E ⟨0, 8, 0⟩).O, s1.c + slack⟩ := fun s0 s1 => by unfold qState; rw [f2]; simp only [gatherK, g4]; rfl
  have Q3 : ∀ s0 s1, qState (M29 (hand T32) n).E ops29 T [4, 5] s0 s1 3 = ⟨(s1.del (M29 (hand T32) n).E ⟨0, 8, 0⟩).τ, (s1.del (M29 (hand T32) n).E ⟨0, 8, 0⟩).L, (s1.del (M29 (hand T32) n).E ⟨0, 8, 0⟩).O, s1.c + slack⟩ := fun s0 s1 => by unfold qState; rw [f3]; simp only [gatherK, g4]; rfl
  simp only [ops29, sub, c29, Tryd.f29, gets, opsAt, allAt, Bool.and_eq_true, List.map_cons, List.map_nil, List.cons.injEq, Nat.zero_add, Nat.reduceAdd, and_true] at hst hlk g4 w5 Q0 Q1 Q2 Q3 ⊢
  obtain ⟨s0, s1, s2, s3, s4, s5⟩ := hst
  obtain ⟨l0, l1, l2, l3, l4, l5⟩ := hlk
  have hsl : (s.c + 1 ≤ s.c + slack) = True := eq_true (by unfold slack; omega)
  refine ⟨?t, ?L, ?c, s.c, ?h, ?r⟩
  case h =>
    simp only [vmr, vmw, vmp, vza, ↓reduceIte, Nat.reduceBEq, Nat.reduceLT, Nat.reduceAdd, Nat.reduceEqDiff, reduceCtorEq, vmt, vzb, vzc, vlen, vleaf, velems, oks, vst, vmd, ty, Nat.reduceLeDiff, Nat.reduceMul, Nat.reduceSub, drawOps, s0, s1, s2, s3, s4, s5, l0, l1, l2, l3, l4, l5, w5, wantedV, focus, fget, m29, qop, quietK, qop_mk1, qop_mk2, qop_mk3, aop, setD, touchOk, List.contains_cons, List.isEmpty_nil, Bool.or_true, Q0, Q1, Q2, Q3, g4, h0, h7, h7', e45, e70, refsI, refsL, refs, shI, pureLI, allflatI, import_I, List.nil_append, List.append_nil, hsl]
    exact rfl
  refine ⟨?_, ?_⟩
  all_goals simp only [vmr, vmw, vmp, vza, ↓reduceIte, Nat.reduceBEq, Nat.reduceLT, Nat.reduceAdd, Nat.reduceEqDiff, reduceCtorEq, vmt, vzb, vzc, vlen, vleaf, velems, oks, vst, vmd, ty, Nat.reduceLeDiff, Nat.reduceMul, Nat.reduceSub, m29, Z]
def F29P (n : Nat) (v : V) (r : Option (Ex × St)) : Prop := Fin (M29 (hand T32) n) [.tmp 4, .tmp 5] r = some (.ret v)
theorem R29 {n : Nat} {k : K} {s : St} {x z : Int} {a : List UInt8} {b : Bool} {l : List Int} {v7 : Nat} (h0 : tget s.τ 0 = .str a) (h7 : tget s.τ 7 = .ptr ⟨0, 7, 0⟩ v7 0 0) (h7' : lget s.L (7, 0) = some (v7, .var [.bool b, Is l])) (e45 : F45 [.str a] = some (Zr x)) (e70 : F70 [Zr x, Z b l] = some (Zr z)) {P : Option (Ex × St) → Prop}
    (h : ∀ s' v8, tget s'.τ 8 = .ptr ⟨0, 8, 0⟩ v8 0 0 → lget s'.L (8, 0) = some (v8, .var [.bool (decide (z < 0)), D z.natAbs]) → P (X (M29 (hand T32) n) .norm k s')) :
    P (R (M29 (hand T32) n) (sub [1, 1, 1, 1, 0] c29) k s) := by
  obtain ⟨τ', L', c', v8, hd, e8, e8'⟩ := draw29 (n := n) h0 h7 h7' e45 e70
  have hd' : R (M29 (hand T32) n) (sub [1, 1, 1, 1, 0] c29) k s = _ := R_drawn (id := 6) hd
  rw [hd']
  refine h _ v8 ?_ ?_
  all_goals simp only [vmr, vmw, vmp, vza, ↓reduceIte, Nat.reduceBEq, Nat.reduceLT, Nat.reduceAdd, Nat.reduceEqDiff, reduceCtorEq, vmt, vzb, vzc, vlen, vleaf, velems, oks, vst, vmd, ty, Nat.reduceLeDiff, Nat.reduceMul, Nat.reduceSub, m29, e8, e8']
theorem w29 (a b : List UInt8) : SoundPure Tryd.prog 29 [.str a, .str b] (.ret (cmpO a b)) := by
  refine s29 hT32 6 (by simp) cmpO_pure ?_
  show F29P 6 _ _
  unfold cmpO
  by_cases h : validB a = true ∧ validB b = true
  · rw [if_pos h]
    obtain ⟨ha, hb⟩ := h
    have e44 := twoB_ok ha hb
    have ea := F45_eq ha
    have eb := F45_eq hb
    have sa := ival_small ha
    have sb := ival_small hb
    generalize ival a = x at *
    generalize ival b = y at *
    have e70 := F70_sg (b := !decide (y < 0)) (small_short sa) (small_short sb)
    have hsg : sg (!decide (y < 0)) y.natAbs = -y := by
      unfold sg
      by_cases h : y < 0
      · rw [decide_eq_true h]; simp only [Bool.not_true, Bool.false_eq_true, if_false]; omega
      · rw [decide_eq_false h]; simp only [Bool.not_false, if_true]; omega
    rw [hsg] at e70
    have a1 := fun k s v7 h0 h7 h7' P h => @R29 6 k s x _ a _ _ v7 h0 h7 h7' ea e70 P h
    simp only [c29, Tryd.f29, gets, sub] at a1 ⊢
    simp only [vmr, vmw, vmp, vza, ↓reduceIte, Nat.reduceBEq, Nat.reduceLT, Nat.reduceAdd, Nat.reduceEqDiff, reduceCtorEq, vmt, vzb, vzc, vlen, vleaf, velems, oks, vst, vmd, ty, Nat.reduceLeDiff, Nat.reduceMul, Nat.reduceSub, m29, e44, eb, Int.reduceBNe, Bool.false_eq_true]
    refine a1 _ _ 0 ?_ ?_ ?_ _ (fun s' v8 h8 h8' => ?_)
    case refine_4 =>
      by_cases h0 : x = y
      · have hz : x + -y = 0 := by omega
        rw [show cmpI x y = 0 by unfold cmpI; rw [if_neg (by omega), if_pos h0]]
        have c1 : (((lm 10 (x + -y).natAbs).length : Int) == 0) = true := by rw [hz]; decide
        simp only [vmr, vmw, vmp, vza, ↓reduceIte, Nat.reduceBEq, Nat.reduceLT, Nat.reduceAdd, Nat.reduceEqDiff, reduceCtorEq, vmt, vzb, vzc, vlen, vleaf, velems, oks, vst, vmd, ty, Nat.reduceLeDiff, Nat.reduceMul, Nat.reduceSub, m29, h8, h8', c1]
        unfold F29P
        simp only [vmr, vmw, vmp, vza, ↓reduceIte, Nat.reduceBEq, Nat.reduceLT, Nat.reduceAdd, Nat.reduceEqDiff, reduceCtorEq, vmt, vzb, vzc, vlen, vleaf, velems, oks, vst, vmd, ty, Nat.reduceLeDiff, Nat.reduceMul, Nat.reduceSub, vzr, m29]
      · have c1 : (((lm 10 (x + -y).natAbs).length : Int) == 0) = false := by rw [beq_eq_false_iff_ne]; have := mt (lm_nil (B := 10) (by omega) (x + -y).natAbs).1 (by omega); omega
        by_cases h1 : x < y
        · rw [show cmpI x y = -1 by unfold cmpI; rw [if_pos h1]]
          have d : decide (x + -y < 0) = true := decide_eq_true (by omega)
          simp only [vmr, vmw, vmp, vza, ↓reduceIte, Nat.reduceBEq, Nat.reduceLT, Nat.reduceAdd, Nat.reduceEqDiff, reduceCtorEq, vmt, vzb, vzc, vlen, vleaf, velems, oks, vst, vmd, ty, Nat.reduceLeDiff, Nat.reduceMul, Nat.reduceSub, m29, h8, h8', c1, d]
          unfold F29P
          simp only [vmr, vmw, vmp, vza, ↓reduceIte, Nat.reduceBEq, Nat.reduceLT, Nat.reduceAdd, Nat.reduceEqDiff, reduceCtorEq, vmt, vzb, vzc, vlen, vleaf, velems, oks, vst, vmd, ty, Nat.reduceLeDiff, Nat.reduceMul, Nat.reduceSub, vzr, m29]
        · rw [show cmpI x y = 1 by unfold cmpI; rw [if_neg h1, if_neg h0]]
          have d : decide (x + -y < 0) = false := decide_eq_false (by omega)
          simp only [vmr, vmw, vmp, vza, ↓reduceIte, Nat.reduceBEq, Nat.reduceLT, Nat.reduceAdd, Nat.reduceEqDiff, reduceCtorEq, vmt, vzb, vzc, vlen, vleaf, velems, oks, vst, vmd, ty, Nat.reduceLeDiff, Nat.reduceMul, Nat.reduceSub, m29, h8, h8', c1, d]
          unfold F29P
          simp only [vmr, vmw, vmp, vza, ↓reduceIte, Nat.reduceBEq, Nat.reduceLT, Nat.reduceAdd, Nat.reduceEqDiff, reduceCtorEq, vmt, vzb, vzc, vlen, vleaf, velems, oks, vst, vmd, ty, Nat.reduceLeDiff, Nat.reduceMul, Nat.reduceSub, vzr, m29]
    all_goals simp only [vmr, vmw, vmp, vza, ↓reduceIte, Nat.reduceBEq, Nat.reduceLT, Nat.reduceAdd, Nat.reduceEqDiff, reduceCtorEq, vmt, vzb, vzc, vlen, vleaf, velems, oks, vst, vmd, ty, Nat.reduceLeDiff, Nat.reduceMul, Nat.reduceSub, m29]
  · rw [if_neg h]
    have e44 := twoB_bad h
    unfold F29P
    simp only [c29, Tryd.f29, gets, sub]
    simp only [vmr, vmw, vmp, vza, ↓reduceIte, Nat.reduceBEq, Nat.reduceLT, Nat.reduceAdd, Nat.reduceEqDiff, reduceCtorEq, vmt, vzb, vzc, vlen, vleaf, velems, oks, vst, vmd, ty, Nat.reduceLeDiff, Nat.reduceMul, Nat.reduceSub, vzr, m29, e44, Int.reduceBNe]
noncomputable def F29 : List V → Option V := hF (α := List UInt8 × List UInt8) (fun a => [.str a.1, .str a.2]) (fun _ => True) (fun a => cmpO a.1 a.2)
theorem F29_eq (a b : List UInt8) : F29 [.str a, .str b] = some (cmpO a b) := hF_eq (a := (a, b)) two_Str (by simp only [cans, canStr]) trivial
end Go.Vi
