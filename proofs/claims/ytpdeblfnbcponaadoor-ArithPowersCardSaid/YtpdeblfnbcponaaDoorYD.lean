/-
  Walks of ref.sum, Add, Sub, Neg, Compare (written by mkYi.py).
-/
import Derived.Test.YtpdeblfnbcponaaDoorYC
set_option linter.unusedSimpArgs false
set_option linter.unusedVariables false
set_option maxRecDepth 100000
set_option maxHeartbeats 1000000
set_option exponentiation.threshold 256
namespace Go.Vi
open Go Go.Proofs

abbrev shortI (z : Int) : Prop := short z.natAbs
set_option exponentiation.threshold 2000000 in
theorem short_big {n m : Nat} (h : short n) (h2 : short m) : n + m < 10 ^ 1000000 := by
  have h3 : n + m < 10 ^ 2001 := by rw [Nat.pow_succ]; omega
  exact Nat.lt_of_lt_of_le h3 (Nat.pow_le_pow_right (by omega) (by omega))
noncomputable abbrev T70 : List (FuncId × (List V → Option V)) := (89, F89) :: (47, F47) :: (64, F64) :: (87, F87) :: []
theorem hT70 : SoundHand Tryd.prog (hand T70) := sound_cons (hF_sound fun a h => w89 a.1 a.2 h.1 h.2) <| sound_cons (hF_sound fun a h => w47 a.1 a.2 h) <| sound_cons (hF_sound fun a h => w64r a.1 a.2 h.1 h.2) <| sound_cons (hF_sound fun a h => w87 a.1 a.2 h.1 h.2) sound_nil
/-- A number with a sign. -/
def sg (b : Bool) (m : Nat) : Int := if b = true then -(m : Int) else (m : Int)
theorem w70 (x : Int) (b : Bool) (m : Nat) (hx : shortI x) (hy : short m) : SoundPure Tryd.prog 70 [Zr x, Z b (lm 10 m)] (.ret (Zr (x + sg b m))) := by
  refine s70 hT70 5 (by simp) sZ ?_
  have hs : calm (M70 (hand T70) 5).E (opsAt (sub [1, 0, 1, 0, 0] c70)) = true := by kernel_rfl
  have hs2 : calm (M70 (hand T70) 5).E (opsAt (sub [1, 1, 0, 1, 0, 0] c70)) = true := by kernel_rfl
  have hs3 : calm (M70 (hand T70) 5).E (opsAt (sub [1, 1, 1, 0] c70)) = true := by kernel_rfl
  have e89 := F89_eq hx hy
  have e64 := F64_eq hx hy
  simp only [c70, Tryd.f70, gets, sub, opsAt] at hs hs2 hs3 ⊢
  have ep := F47_posD (short_big hx hy)
  have en := F47_negD (short_big hx hy)
  have hlx := short_len hx
  have hly := short_len hy
  have bx := lm_lt b10 x.natAbs
  have bY := lm_lt b10 m
  by_cases hlt : x.natAbs < m
  · have c1 : (cmp3 x.natAbs m ≥ 0) = False := eq_false (by unfold cmp3; rw [if_pos hlt]; omega)
    have e87 := F87_eq (x := m) (y := x.natAbs) (by omega) hy
    have fp := F47_pos (k := (lm 10 m).length) (n := m - x.natAbs) (by omega) (by omega)
    have fn := F47_neg (k := (lm 10 m).length) (n := m - x.natAbs) (by omega) (by omega)
    by_cases h1 : x < 0 <;> cases b
    · rw [show ((m - x.natAbs : Nat) : Int) = x + sg false m by unfold sg; simp only [if_true, if_false, Bool.false_eq_true]; omega] at fp
      have d1 := decide_eq_true h1
      simp only [vmr, vmw, vmp, vza, ↓reduceIte, Nat.reduceBEq, Nat.reduceLT, Nat.reduceAdd, Nat.reduceEqDiff, reduceCtorEq, vmt, vzb, vzc, vlen, vleaf, velems, oks, vst, vmd, ty, Nat.reduceLeDiff, Nat.reduceMul, Nat.reduceSub, vzr, m70, hs, hs2, hs3, e64, c1, e87, fp, d1, RD_build, bxs, refsI, refsL, refs, shI, pureLI, allflatI, import_I, List.isEmpty_nil, List.nil_append, List.append_nil]
    · rw [show -((x.natAbs + m : Nat) : Int) = x + sg true m by unfold sg; simp only [if_true, if_false, Bool.false_eq_true]; omega] at en
      have d1 := decide_eq_true h1
      simp only [vmr, vmw, vmp, vza, ↓reduceIte, Nat.reduceBEq, Nat.reduceLT, Nat.reduceAdd, Nat.reduceEqDiff, reduceCtorEq, vmt, vzb, vzc, vlen, vleaf, velems, oks, vst, vmd, ty, Nat.reduceLeDiff, Nat.reduceMul, Nat.reduceSub, vzr, m70, hs, hs2, hs3, e89, en, d1, RD_build, bxs, refsI, refsL, refs, shI, pureLI, allflatI, import_I, List.isEmpty_nil, List.nil_append, List.append_nil]
    · rw [show ((x.natAbs + m : Nat) : Int) = x + sg false m by unfold sg; simp only [if_true, if_false, Bool.false_eq_true]; omega] at ep
      have d1 := decide_eq_false h1
      simp only [vmr, vmw, vmp, vza, ↓reduceIte, Nat.reduceBEq, Nat.reduceLT, Nat.reduceAdd, Nat.reduceEqDiff, reduceCtorEq, vmt, vzb, vzc, vlen, vleaf, velems, oks, vst, vmd, ty, Nat.reduceLeDiff, Nat.reduceMul, Nat.reduceSub, vzr, m70, hs, hs2, hs3, e89, ep, d1, RD_build, bxs, refsI, refsL, refs, shI, pureLI, allflatI, import_I, List.isEmpty_nil, List.nil_append, List.append_nil]
    · rw [show -((m - x.natAbs : Nat) : Int) = x + sg true m by unfold sg; simp only [if_true, if_false, Bool.false_eq_true]; omega] at fn
      have d1 := decide_eq_false h1
      simp only [vmr, vmw, vmp, vza, ↓reduceIte, Nat.reduceBEq, Nat.reduceLT, Nat.reduceAdd, Nat.reduceEqDiff, reduceCtorEq, vmt, vzb, vzc, vlen, vleaf, velems, oks, vst, vmd, ty, Nat.reduceLeDiff, Nat.reduceMul, Nat.reduceSub, vzr, m70, hs, hs2, hs3, e64, c1, e87, fn, d1, RD_build, bxs, refsI, refsL, refs, shI, pureLI, allflatI, import_I, List.isEmpty_nil, List.nil_append, List.append_nil]
  · have c1 : (cmp3 x.natAbs m ≥ 0) = True := eq_true (by unfold cmp3; rw [if_neg hlt]; split <;> omega)
    have e87 := F87_eq (x := x.natAbs) (y := m) (by omega) hx
    have fp := F47_pos (k := (lm 10 x.natAbs).length) (n := x.natAbs - m) (by omega) (by omega)
    have fn := F47_neg (k := (lm 10 x.natAbs).length) (n := x.natAbs - m) (by omega) (by omega)
    by_cases h1 : x < 0 <;> cases b
    · rw [show -((x.natAbs - m : Nat) : Int) = x + sg false m by unfold sg; simp only [if_true, if_false, Bool.false_eq_true]; omega] at fn
      have d1 := decide_eq_true h1
      simp only [vmr, vmw, vmp, vza, ↓reduceIte, Nat.reduceBEq, Nat.reduceLT, Nat.reduceAdd, Nat.reduceEqDiff, reduceCtorEq, vmt, vzb, vzc, vlen, vleaf, velems, oks, vst, vmd, ty, Nat.reduceLeDiff, Nat.reduceMul, Nat.reduceSub, vzr, m70, hs, hs2, hs3, e64, c1, e87, fn, d1, RD_build, bxs, refsI, refsL, refs, shI, pureLI, allflatI, import_I, List.isEmpty_nil, List.nil_append, List.append_nil]
    · rw [show -((x.natAbs + m : Nat) : Int) = x + sg true m by unfold sg; simp only [if_true, if_false, Bool.false_eq_true]; omega] at en
      have d1 := decide_eq_true h1
      simp only [vmr, vmw, vmp, vza, ↓reduceIte, Nat.reduceBEq, Nat.reduceLT, Nat.reduceAdd, Nat.reduceEqDiff, reduceCtorEq, vmt, vzb, vzc, vlen, vleaf, velems, oks, vst, vmd, ty, Nat.reduceLeDiff, Nat.reduceMul, Nat.reduceSub, vzr, m70, hs, hs2, hs3, e89, en, d1, RD_build, bxs, refsI, refsL, refs, shI, pureLI, allflatI, import_I, List.isEmpty_nil, List.nil_append, List.append_nil]
    · rw [show ((x.natAbs + m : Nat) : Int) = x + sg false m by unfold sg; simp only [if_true, if_false, Bool.false_eq_true]; omega] at ep
      have d1 := decide_eq_false h1
      simp only [vmr, vmw, vmp, vza, ↓reduceIte, Nat.reduceBEq, Nat.reduceLT, Nat.reduceAdd, Nat.reduceEqDiff, reduceCtorEq, vmt, vzb, vzc, vlen, vleaf, velems, oks, vst, vmd, ty, Nat.reduceLeDiff, Nat.reduceMul, Nat.reduceSub, vzr, m70, hs, hs2, hs3, e89, ep, d1, RD_build, bxs, refsI, refsL, refs, shI, pureLI, allflatI, import_I, List.isEmpty_nil, List.nil_append, List.append_nil]
    · rw [show ((x.natAbs - m : Nat) : Int) = x + sg true m by unfold sg; simp only [if_true, if_false, Bool.false_eq_true]; omega] at fp
      have d1 := decide_eq_false h1
      simp only [vmr, vmw, vmp, vza, ↓reduceIte, Nat.reduceBEq, Nat.reduceLT, Nat.reduceAdd, Nat.reduceEqDiff, reduceCtorEq, vmt, vzb, vzc, vlen, vleaf, velems, oks, vst, vmd, ty, Nat.reduceLeDiff, Nat.reduceMul, Nat.reduceSub, vzr, m70, hs, hs2, hs3, e64, c1, e87, fp, d1, RD_build, bxs, refsI, refsL, refs, shI, pureLI, allflatI, import_I, List.isEmpty_nil, List.nil_append, List.append_nil]
noncomputable def F70 : List V → Option V := hF (α := Int × Bool × Nat) (fun a => [Zr a.1, Z a.2.1 (lm 10 a.2.2)]) (fun a => shortI a.1 ∧ short a.2.2) (fun a => Zr (a.1 + sg a.2.1 a.2.2))
end Go.Vi
set_option maxRecDepth 100000
set_option maxHeartbeats 1000000
set_option exponentiation.threshold 256
namespace Go.Vi
open Go Go.Proofs

set_option exponentiation.threshold 2000000 in
theorem small_short {z : Int} (h : small z) : shortI z := Nat.lt_of_lt_of_le h (Nat.pow_le_pow_right (by omega) (by omega))
noncomputable abbrev T32 : List (FuncId × (List V → Option V)) := (44, F44) :: (45, F45) :: (70, F70) :: (46, F46) :: (47, F47) :: (31, F31) :: []
theorem hT32 : SoundHand Tryd.prog (hand T32) := sound_cons (hF_sound fun a _ => w44 a.1 a.2) <| sound_cons (hF_sound fun a h => w45 a h) <| sound_cons (hF_sound fun a h => w70 a.1 a.2.1 a.2.2 h.1 h.2) <| sound_cons (hF_sound fun a _ => w46 a) <| sound_cons (hF_sound fun a h => w47 a.1 a.2 h) <| sound_cons (hF_sound fun a _ => w31 a) sound_nil
end Go.Vi
set_option maxRecDepth 100000
set_option maxHeartbeats 1000000
set_option exponentiation.threshold 256
namespace Go.Vi
open Go Go.Proofs

end Go.Vi
