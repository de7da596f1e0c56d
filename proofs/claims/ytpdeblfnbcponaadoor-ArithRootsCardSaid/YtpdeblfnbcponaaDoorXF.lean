/-
  Walks of arith's integers: text, opposite, sum, product and the closures.
-/
import Derived.Test.YtpdeblfnbcponaaDoorXE
import Derived.Test.YtpdeblfnbcponaaDoorXC
set_option linter.unusedSimpArgs false
set_option linter.unusedVariables false
set_option maxRecDepth 100000
set_option maxHeartbeats 1000000
namespace Go.Vi
open Go Go.Proofs

/-- The value of an integer. -/
abbrev Zi (z : Int) : V := Z (decide (z < 0)) (lm 10000 z.natAbs)
abbrev fewI (z : Int) : Prop := few z.natAbs
theorem Z_inj {a b : Bool} {l m : List Int} (h : Z a l = Z b m) : a = b ∧ l = m := by
  injection h with h
  injection h with h1 h2
  injection h2 with h2 _
  injection h1 with h1
  exact ⟨h1, Is_inj h2⟩
theorem Zi_inj {x y : Int} (h : Zi x = Zi y) : x = y := by
  obtain ⟨h1, h2⟩ := Z_inj h
  have h3 := lm_inj (by omega) h2
  have h4 : (x < 0) ↔ (y < 0) := by simpa using h1
  omega
theorem canZ {b l} : can (Z b l) = Z b l := by
  have h : can (Is l) = Is l := canIs l
  show V.agg (cans [.bool b, Is l]) = _
  simp only [cans, h, canBool]
theorem two_Zi : ∀ a b : Int × Int, ([Zi a.1, Zi a.2] : List V) = [Zi b.1, Zi b.2] → a = b := two_inj (fun _ _ => Zi_inj) (fun _ _ => Zi_inj)
theorem F53_pos (n : Nat) : F53 [N n, .bool false] = some (Zi (n : Int)) := by
  rw [F53_eq, Bool.false_and]
  simp only [Zi, Int.natAbs_natCast]
  rw [decide_eq_false (show ¬ ((n : Int) < 0) by omega)]
theorem F53_neg (n : Nat) : F53 [N n, .bool true] = some (Zi (-(n : Int))) := by
  rw [F53_eq, Bool.true_and]
  simp only [Zi, Int.natAbs_neg, Int.natAbs_natCast]
  congr 3
  by_cases h : n = 0
  · subst h; simp [lm_zero]
  · have : 0 < (lm 10000 n).length := by have := mt (lm_nil (B := 10000) (by omega) n).1 h; omega
    exact propext ⟨fun _ => by omega, fun _ => this⟩
theorem sZ {b l} : pureR (Z b l) = true := by simp only [pureR, pureRL, pureLI, Bool.and_self]
noncomputable abbrev T68 : List (FuncId × (List V → Option V)) := (53, F53) :: []
theorem hT68 : SoundHand Tryd.prog (hand T68) := sound_cons (hF_sound fun a _ => w53 a.1 a.2) sound_nil
theorem w68 (x : Int) : SoundPure Tryd.prog 68 [Zi x] (.ret (Zi (-x))) := by
  refine s68 hT68 5 (by simp) sZ ?_
  simp only [c68, Tryd.f68, gets]
  by_cases hx : x < 0
  · have e := F53_pos x.natAbs
    rw [show ((x.natAbs : Nat) : Int) = -x by omega] at e
    have d := decide_eq_true hx
    simp only [vmr, vmw, vmp, vza, ↓reduceIte, Nat.reduceBEq, Nat.reduceLT, Nat.reduceAdd, Nat.reduceEqDiff, reduceCtorEq, vmt, vzb, vzc, vlen, vleaf, velems, oks, vst, vmd, ty, Nat.reduceLeDiff, Nat.reduceMul, Nat.reduceSub, vzr, m68, d, e]
  · have e := F53_neg x.natAbs
    rw [show -((x.natAbs : Nat) : Int) = -x by omega] at e
    have d := decide_eq_false hx
    simp only [vmr, vmw, vmp, vza, ↓reduceIte, Nat.reduceBEq, Nat.reduceLT, Nat.reduceAdd, Nat.reduceEqDiff, reduceCtorEq, vmt, vzb, vzc, vlen, vleaf, velems, oks, vst, vmd, ty, Nat.reduceLeDiff, Nat.reduceMul, Nat.reduceSub, vzr, m68, d, e]
noncomputable def F68 : List V → Option V := hF (α := Int) (fun a => [Zi a]) (fun _ => True) (fun a => Zi (-a))
theorem F68_eq (x : Int) : F68 [Zi x] = some (Zi (-x)) := hF_eq (a := x) (one_inj' fun _ _ => Zi_inj) (by simp only [cans, canZ]) trivial
theorem bxs : ((true != true) = false) ∧ ((true != false) = true) ∧ ((false != true) = true) ∧ ((false != false) = false) ∧ ((true == true) = true) ∧ ((true == false) = false) ∧ ((false == true) = false) ∧ ((false == false) = true) := by decide
noncomputable abbrev T66 : List (FuncId × (List V → Option V)) := (78, F78) :: (53, F53) :: (61, F61) :: (85, F85) :: (79, F79) :: (68, F68) :: []
theorem hT66 : SoundHand Tryd.prog (hand T66) := sound_cons (hF_sound fun a h => w78 a.1 a.2 h.1 h.2) <| sound_cons (hF_sound fun a _ => w53 a.1 a.2) <| sound_cons (hF_sound fun a h => w61N a.1 a.2 h.1 h.2) <| sound_cons (hF_sound fun a h => w85 a.1 a.2 h.1 h.2) <| sound_cons (hF_sound fun a h => w79 a.1 a.2 h.1 h.2) <| sound_cons (hF_sound fun a _ => w68 a) sound_nil
theorem w43 (x y : Int) (hx : fewI x) (hy : fewI y) : SoundPure Tryd.prog 43 [Zi x, Zi y] (.ret (Zi (x * y))) := by
  refine s43 hT66 5 (by simp) sZ ?_
  have hs : calm (M43 (hand T66) 5).E (opsAt (sub [1, 0] c43)) = true := by kernel_rfl
  have e79 := F79_eq hx hy
  simp only [c43, Tryd.f43, gets, sub, opsAt] at hs ⊢
  have ep := F53_pos (x.natAbs * y.natAbs)
  have en := F53_neg (x.natAbs * y.natAbs)
  rw [← Int.natAbs_mul] at ep en e79
  by_cases h1 : x < 0 <;> by_cases h2 : y < 0
  · have := Int.mul_nonneg_of_nonpos_of_nonpos (a := x) (b := y) (by omega) (by omega)
    rw [show (((x * y).natAbs : Nat) : Int) = x * y by omega] at ep
    have d1 := decide_eq_true h1
    have d2 := decide_eq_true h2
    simp only [vmr, vmw, vmp, vza, ↓reduceIte, Nat.reduceBEq, Nat.reduceLT, Nat.reduceAdd, Nat.reduceEqDiff, reduceCtorEq, vmt, vzb, vzc, vlen, vleaf, velems, oks, vst, vmd, ty, Nat.reduceLeDiff, Nat.reduceMul, Nat.reduceSub, vzr, m43, hs, e79, ep, d1, d2, bxs, refsI, refsL, refs, shI, pureLI, allflatI, List.isEmpty_nil, List.nil_append, List.append_nil]
  · have := Int.mul_nonpos_of_nonpos_of_nonneg (a := x) (b := y) (by omega) (by omega)
    rw [show -(((x * y).natAbs : Nat) : Int) = x * y by omega] at en
    have d1 := decide_eq_true h1
    have d2 := decide_eq_false h2
    simp only [vmr, vmw, vmp, vza, ↓reduceIte, Nat.reduceBEq, Nat.reduceLT, Nat.reduceAdd, Nat.reduceEqDiff, reduceCtorEq, vmt, vzb, vzc, vlen, vleaf, velems, oks, vst, vmd, ty, Nat.reduceLeDiff, Nat.reduceMul, Nat.reduceSub, vzr, m43, hs, e79, en, d1, d2, bxs, refsI, refsL, refs, shI, pureLI, allflatI, List.isEmpty_nil, List.nil_append, List.append_nil]
  · have := Int.mul_nonpos_of_nonneg_of_nonpos (a := x) (b := y) (by omega) (by omega)
    rw [show -(((x * y).natAbs : Nat) : Int) = x * y by omega] at en
    have d1 := decide_eq_false h1
    have d2 := decide_eq_true h2
    simp only [vmr, vmw, vmp, vza, ↓reduceIte, Nat.reduceBEq, Nat.reduceLT, Nat.reduceAdd, Nat.reduceEqDiff, reduceCtorEq, vmt, vzb, vzc, vlen, vleaf, velems, oks, vst, vmd, ty, Nat.reduceLeDiff, Nat.reduceMul, Nat.reduceSub, vzr, m43, hs, e79, en, d1, d2, bxs, refsI, refsL, refs, shI, pureLI, allflatI, List.isEmpty_nil, List.nil_append, List.append_nil]
  · have := Int.mul_nonneg (a := x) (b := y) (by omega) (by omega)
    rw [show (((x * y).natAbs : Nat) : Int) = x * y by omega] at ep
    have d1 := decide_eq_false h1
    have d2 := decide_eq_false h2
    simp only [vmr, vmw, vmp, vza, ↓reduceIte, Nat.reduceBEq, Nat.reduceLT, Nat.reduceAdd, Nat.reduceEqDiff, reduceCtorEq, vmt, vzb, vzc, vlen, vleaf, velems, oks, vst, vmd, ty, Nat.reduceLeDiff, Nat.reduceMul, Nat.reduceSub, vzr, m43, hs, e79, ep, d1, d2, bxs, refsI, refsL, refs, shI, pureLI, allflatI, List.isEmpty_nil, List.nil_append, List.append_nil]
noncomputable def F43 : List V → Option V := hF (α := Int × Int) (fun a => [Zi a.1, Zi a.2]) (fun a => fewI a.1 ∧ fewI a.2) (fun a => Zi (a.1 * a.2))
theorem F43_eq {x y : Int} (hx : fewI x) (hy : fewI y) : F43 [Zi x, Zi y] = some (Zi (x * y)) := hF_eq (a := (x, y)) two_Zi (by simp only [cans, canZ]) ⟨hx, hy⟩
theorem w66 (x y : Int) (hx : fewI x) (hy : fewI y) : SoundPure Tryd.prog 66 [Zi x, Zi y] (.ret (Zi (x + y))) := by
  refine s66 hT66 5 (by simp) sZ ?_
  have hs : calm (M66 (hand T66) 5).E (opsAt (sub [1, 0, 1, 0, 0] c66)) = true := by kernel_rfl
  have hs2 : calm (M66 (hand T66) 5).E (opsAt (sub [1, 1, 1, 0] c66)) = true := by kernel_rfl
  have e78 := F78_eq hx hy
  have e61 := F61_eq hx hy
  simp only [c66, Tryd.f66, gets, sub, opsAt] at hs hs2 ⊢
  have ep := F53_pos (x.natAbs + y.natAbs)
  have en := F53_neg (x.natAbs + y.natAbs)
  by_cases hlt : x.natAbs < y.natAbs
  · have c1 : (cmp3 x.natAbs y.natAbs < 0) = True := eq_true (by unfold cmp3; split <;> omega)
    have e85 := F85_eq (x := y.natAbs) (y := x.natAbs) (by omega) hy
    have fp := F53_pos (y.natAbs - x.natAbs)
    have fn := F53_neg (y.natAbs - x.natAbs)
    by_cases h1 : x < 0 <;> by_cases h2 : y < 0
    · rw [show -((x.natAbs + y.natAbs : Nat) : Int) = x + y by omega] at en
      have d1 := decide_eq_true h1
      have d2 := decide_eq_true h2
      simp only [vmr, vmw, vmp, vza, ↓reduceIte, Nat.reduceBEq, Nat.reduceLT, Nat.reduceAdd, Nat.reduceEqDiff, reduceCtorEq, vmt, vzb, vzc, vlen, vleaf, velems, oks, vst, vmd, ty, Nat.reduceLeDiff, Nat.reduceMul, Nat.reduceSub, vzr, m66, hs, hs2, e78, en, d1, d2, bxs, refsI, refsL, refs, shI, pureLI, allflatI, List.isEmpty_nil, List.nil_append, List.append_nil]
    · rw [show ((y.natAbs - x.natAbs : Nat) : Int) = x + y by omega] at fp
      have d1 := decide_eq_true h1
      have d2 := decide_eq_false h2
      simp only [vmr, vmw, vmp, vza, ↓reduceIte, Nat.reduceBEq, Nat.reduceLT, Nat.reduceAdd, Nat.reduceEqDiff, reduceCtorEq, vmt, vzb, vzc, vlen, vleaf, velems, oks, vst, vmd, ty, Nat.reduceLeDiff, Nat.reduceMul, Nat.reduceSub, vzr, m66, hs, hs2, e61, c1, e85, fp, d1, d2, bxs, refsI, refsL, refs, shI, pureLI, allflatI, List.isEmpty_nil, List.nil_append, List.append_nil]
    · rw [show -((y.natAbs - x.natAbs : Nat) : Int) = x + y by omega] at fn
      have d1 := decide_eq_false h1
      have d2 := decide_eq_true h2
      simp only [vmr, vmw, vmp, vza, ↓reduceIte, Nat.reduceBEq, Nat.reduceLT, Nat.reduceAdd, Nat.reduceEqDiff, reduceCtorEq, vmt, vzb, vzc, vlen, vleaf, velems, oks, vst, vmd, ty, Nat.reduceLeDiff, Nat.reduceMul, Nat.reduceSub, vzr, m66, hs, hs2, e61, c1, e85, fn, d1, d2, bxs, refsI, refsL, refs, shI, pureLI, allflatI, List.isEmpty_nil, List.nil_append, List.append_nil]
    · rw [show ((x.natAbs + y.natAbs : Nat) : Int) = x + y by omega] at ep
      have d1 := decide_eq_false h1
      have d2 := decide_eq_false h2
      simp only [vmr, vmw, vmp, vza, ↓reduceIte, Nat.reduceBEq, Nat.reduceLT, Nat.reduceAdd, Nat.reduceEqDiff, reduceCtorEq, vmt, vzb, vzc, vlen, vleaf, velems, oks, vst, vmd, ty, Nat.reduceLeDiff, Nat.reduceMul, Nat.reduceSub, vzr, m66, hs, hs2, e78, ep, d1, d2, bxs, refsI, refsL, refs, shI, pureLI, allflatI, List.isEmpty_nil, List.nil_append, List.append_nil]
  · have c1 : (cmp3 x.natAbs y.natAbs < 0) = False := eq_false (by unfold cmp3; split <;> (try split) <;> omega)
    have e85 := F85_eq (x := x.natAbs) (y := y.natAbs) (by omega) hx
    have fp := F53_pos (x.natAbs - y.natAbs)
    have fn := F53_neg (x.natAbs - y.natAbs)
    by_cases h1 : x < 0 <;> by_cases h2 : y < 0
    · rw [show -((x.natAbs + y.natAbs : Nat) : Int) = x + y by omega] at en
      have d1 := decide_eq_true h1
      have d2 := decide_eq_true h2
      simp only [vmr, vmw, vmp, vza, ↓reduceIte, Nat.reduceBEq, Nat.reduceLT, Nat.reduceAdd, Nat.reduceEqDiff, reduceCtorEq, vmt, vzb, vzc, vlen, vleaf, velems, oks, vst, vmd, ty, Nat.reduceLeDiff, Nat.reduceMul, Nat.reduceSub, vzr, m66, hs, hs2, e78, en, d1, d2, bxs, refsI, refsL, refs, shI, pureLI, allflatI, List.isEmpty_nil, List.nil_append, List.append_nil]
    · rw [show -((x.natAbs - y.natAbs : Nat) : Int) = x + y by omega] at fn
      have d1 := decide_eq_true h1
      have d2 := decide_eq_false h2
      simp only [vmr, vmw, vmp, vza, ↓reduceIte, Nat.reduceBEq, Nat.reduceLT, Nat.reduceAdd, Nat.reduceEqDiff, reduceCtorEq, vmt, vzb, vzc, vlen, vleaf, velems, oks, vst, vmd, ty, Nat.reduceLeDiff, Nat.reduceMul, Nat.reduceSub, vzr, m66, hs, hs2, e61, c1, e85, fn, d1, d2, bxs, refsI, refsL, refs, shI, pureLI, allflatI, List.isEmpty_nil, List.nil_append, List.append_nil]
    · rw [show ((x.natAbs - y.natAbs : Nat) : Int) = x + y by omega] at fp
      have d1 := decide_eq_false h1
      have d2 := decide_eq_true h2
      simp only [vmr, vmw, vmp, vza, ↓reduceIte, Nat.reduceBEq, Nat.reduceLT, Nat.reduceAdd, Nat.reduceEqDiff, reduceCtorEq, vmt, vzb, vzc, vlen, vleaf, velems, oks, vst, vmd, ty, Nat.reduceLeDiff, Nat.reduceMul, Nat.reduceSub, vzr, m66, hs, hs2, e61, c1, e85, fp, d1, d2, bxs, refsI, refsL, refs, shI, pureLI, allflatI, List.isEmpty_nil, List.nil_append, List.append_nil]
    · rw [show ((x.natAbs + y.natAbs : Nat) : Int) = x + y by omega] at ep
      have d1 := decide_eq_false h1
      have d2 := decide_eq_false h2
      simp only [vmr, vmw, vmp, vza, ↓reduceIte, Nat.reduceBEq, Nat.reduceLT, Nat.reduceAdd, Nat.reduceEqDiff, reduceCtorEq, vmt, vzb, vzc, vlen, vleaf, velems, oks, vst, vmd, ty, Nat.reduceLeDiff, Nat.reduceMul, Nat.reduceSub, vzr, m66, hs, hs2, e78, ep, d1, d2, bxs, refsI, refsL, refs, shI, pureLI, allflatI, List.isEmpty_nil, List.nil_append, List.append_nil]
noncomputable def F66 : List V → Option V := hF (α := Int × Int) (fun a => [Zi a.1, Zi a.2]) (fun a => fewI a.1 ∧ fewI a.2) (fun a => Zi (a.1 + a.2))
theorem F66_eq {x y : Int} (hx : fewI x) (hy : fewI y) : F66 [Zi x, Zi y] = some (Zi (x + y)) := hF_eq (a := (x, y)) two_Zi (by simp only [cans, canZ]) ⟨hx, hy⟩
noncomputable abbrev T69 : List (FuncId × (List V → Option V)) := (66, F66) :: T66
theorem hT69 : SoundHand Tryd.prog (hand T69) := sound_cons (hF_sound fun a h => w66 a.1 a.2 h.1 h.2) hT66
theorem w67 (x y : Int) : SoundPure Tryd.prog 67 [Zi x, Zi y] (.ret (Zi (-x))) := by
  refine s67 hT69 5 (by simp) sZ ?_
  have e := F68_eq x
  simp only [c67, Tryd.f67, gets]
  simp only [vmr, vmw, vmp, vza, ↓reduceIte, Nat.reduceBEq, Nat.reduceLT, Nat.reduceAdd, Nat.reduceEqDiff, reduceCtorEq, vmt, vzb, vzc, vlen, vleaf, velems, oks, vst, vmd, ty, Nat.reduceLeDiff, Nat.reduceMul, Nat.reduceSub, vzr, m67, e, bxs, refsI, refsL, refs, shI, pureLI, allflatI, List.isEmpty_nil, List.nil_append, List.append_nil]
theorem w69 (x y : Int) (hx : fewI x) (hy : fewI y) : SoundPure Tryd.prog 69 [Zi x, Zi y] (.ret (Zi (x - y))) := by
  refine s69 hT69 5 (by simp) sZ ?_
  have hs : calm (M69 (hand T69) 5).E (opsAt (sub [1, 0] c69)) = true := by kernel_rfl
  have e := F68_eq y
  have e2 := F66_eq (x := x) (y := -y) hx (by show few (-y).natAbs; rw [Int.natAbs_neg]; exact hy)
  rw [← Int.sub_eq_add_neg] at e2
  simp only [c69, Tryd.f69, gets, sub, opsAt] at hs ⊢
  simp only [vmr, vmw, vmp, vza, ↓reduceIte, Nat.reduceBEq, Nat.reduceLT, Nat.reduceAdd, Nat.reduceEqDiff, reduceCtorEq, vmt, vzb, vzc, vlen, vleaf, velems, oks, vst, vmd, ty, Nat.reduceLeDiff, Nat.reduceMul, Nat.reduceSub, vzr, m69, hs, e, e2, bxs, refsI, refsL, refs, shI, pureLI, allflatI, List.isEmpty_nil, List.nil_append, List.append_nil]
end Go.Vi
set_option maxRecDepth 100000
set_option maxHeartbeats 1000000
namespace Go.Vi
open Go Go.Proofs

def itxt (z : Int) : List UInt8 := if z < 0 then 45 :: txt z.natAbs else txt z.natAbs
def fitB (n : Nat) : Bool := decide ((txt n).length ≤ 500)
noncomputable abbrev T54 : List (FuncId × (List V → Option V)) := (86, F86) :: []
theorem hT54 : SoundHand Tryd.prog (hand T54) := sound_cons (hF_sound fun a h => w86 a h) sound_nil
theorem w54 (x : Int) (hx : fewI x) : SoundPure Tryd.prog 54 [Zi x] (outT (fitB x.natAbs) (.str (itxt x)) 7) := by
  have e86 := F86_eq hx
  have e51 := F51_eq (fitB x.natAbs) 7
  unfold outT
  refine sound_ofT (C := Cx (hand T54)) hT54 good mixed hK50 Tryd.func54 rfl (by simp) (n := 6) ?_ ?_
  · cases fitB x.natAbs
    · rfl
    · simp only [if_true, pureR]
  show Fin (tm (tabT K50) (M54 (hand T54) 6)) [.tmp 2] (R (tm (tabT K50) (M54 (hand T54) 6)) c54 .top _) = _
  simp only [c54, Tryd.f54, gets]
  cases hv : fitB x.natAbs with
  | false =>
    rw [hv] at e51
    simp only [Bool.false_eq_true, if_false] at e51 ⊢
    have hc : ((((txt x.natAbs).length : Nat) : Int) ≤ 500) = False := eq_false (by have := of_decide_eq_false hv; omega)
    simp only [vmr, vmw, vmp, vza, ↓reduceIte, Nat.reduceBEq, Nat.reduceLT, Nat.reduceAdd, Nat.reduceEqDiff, reduceCtorEq, vmt, vzb, vzc, vlen, vleaf, velems, oks, vst, vmd, ty, Nat.reduceLeDiff, Nat.reduceMul, Nat.reduceSub, vzr, m54, e86, hc, e51]
  | true =>
    rw [hv] at e51
    simp only [if_true] at e51 ⊢
    have hc : ((((txt x.natAbs).length : Nat) : Int) ≤ 500) = True := eq_true (by have := of_decide_eq_true hv; omega)
    unfold itxt
    by_cases h : x < 0
    · have d := decide_eq_true h
      rw [if_pos h]
      have hl := of_decide_eq_true hv
      have k1 : (0 + 1 + (txt x.natAbs).length ≤ 9223372036854775807) = True := eq_true (by omega)
      have k2 : (1 + (txt x.natAbs).length ≤ 9223372036854775807) = True := eq_true (by omega)
      simp only [vmr, vmw, vmp, vza, ↓reduceIte, Nat.reduceBEq, Nat.reduceLT, Nat.reduceAdd, Nat.reduceEqDiff, reduceCtorEq, vmt, vzb, vzc, vlen, vleaf, velems, oks, vst, vmd, ty, Nat.reduceLeDiff, Nat.reduceMul, Nat.reduceSub, vzr, m54, e86, hc, e51, d, strOp, List.length_cons, List.length_nil, k1, k2, List.cons_append, List.nil_append]
    · have d := decide_eq_false h
      rw [if_neg h]
      simp only [vmr, vmw, vmp, vza, ↓reduceIte, Nat.reduceBEq, Nat.reduceLT, Nat.reduceAdd, Nat.reduceEqDiff, reduceCtorEq, vmt, vzb, vzc, vlen, vleaf, velems, oks, vst, vmd, ty, Nat.reduceLeDiff, Nat.reduceMul, Nat.reduceSub, vzr, m54, e86, hc, e51, d, strOp, List.cons_append, List.nil_append]
noncomputable def F54 : List V → Option COut := hO (α := Int) (fun a => [Zi a]) fewI (fun x => outT (fitB x.natAbs) (.str (itxt x)) 7)
theorem F54_eq {x : Int} (h : fewI x) : F54 [Zi x] = some (outT (fitB x.natAbs) (.str (itxt x)) 7) := hO_eq (a := x) (one_inj' fun _ _ => Zi_inj) (by simp only [cans, canZ]) h
end Go.Vi
set_option maxRecDepth 100000
set_option maxHeartbeats 1000000
namespace Go.Vi
open Go Go.Proofs

theorem FinC_ret {M et tf p rs s} : FinC M et tf p rs (some (.ret, s)) = Fin M rs (some (.ret, s)) := rfl
theorem FinC_pan {M et tf p rs c s} : FinC M et tf p rs (some (.pan (.iface tf (.agg [.int .i64 c])), s)) = (match storeAt M.E et p (.int .i64 c) s with | some s' => Fin M rs (some (.ret, s')) | none => none) := by
  show (if tf = tf then _ else _) = _
  rw [if_pos rfl]
  rfl
theorem tidy_mk {E : Env} {τ L O c} : tidy E ⟨τ, L, O, c⟩ = ⟨tkeep τ E.keep, lkeep L E.keep, O, c⟩ := rfl
def ival (s : List UInt8) : Int := if preB s [45] = true then -(dval (dropB s [45]) : Int) else (dval (dropB s [45]) : Int)
theorem dval_pos : ∀ (t : List UInt8), t.all isDig = true → t ≠ [] → (t.head? == some 48) = false → 0 < dval t
  | [], _, h, _ => absurd rfl h
  | u :: r, h, _, h0 => by
    have hd := dacc_cons 0 u r
    have e : dval (u :: r) = dg u * 10 ^ r.length + dval r := by
      have := dval_append [u] r
      simpa [dval, dacc, dacl] using this
    rw [e]
    have hu : isDig u = true := by simp at h; exact h.1
    have hne : u ≠ 48 := fun e => by subst e; simp at h0
    have : 0 < dg u := by
      simp only [isDig, Bool.and_eq_true, decide_eq_true_eq] at hu
      unfold dg
      have h48 : u.toNat ≠ 48 := fun e => hne (UInt8.toNat_inj.1 (by simpa using e))
      omega
    have := Nat.mul_pos this (Nat.pow_pos (n := r.length) (show 0 < 10 by omega))
    omega
theorem Z_ival {s : List UInt8} (h : validB s = true) : Z (preB s [45]) (lm 10000 (dval (dropB s [45]))) = Zi (ival s) := by
  unfold ival
  cases hp : preB s [45] with
  | false =>
    simp only [Bool.false_eq_true, if_false, Zi, Int.natAbs_natCast]
    rw [decide_eq_false (show ¬ ((dval (dropB s [45]) : Nat) : Int) < 0 by omega)]
  | true =>
    simp only [if_true, Zi, Int.natAbs_neg, Int.natAbs_natCast]
    have : 0 < dval (dropB s [45]) := by
      unfold validB at h
      rw [Bool.or_eq_true] at h
      rcases h with h | h
      · have : s = [48] := by simpa using h
        subst this
        exact absurd hp (by decide)
      · unfold validT at h
        simp only [Bool.and_eq_true, Bool.not_eq_true', decide_eq_false_iff_not, beq_eq_false_iff_ne, ne_eq] at h
        exact dval_pos _ h.2 h.1.1.1 (by simpa using h.1.2)
    rw [decide_eq_true (by omega)]
theorem F50_ok {s : List UInt8} (h : validB s = true) : F50 [.str s] = some (.ret (Zi (ival s))) := by
  rw [F50_eq, h, outT, if_pos rfl, Z_ival h]
theorem F50_bad {s : List UInt8} (h : validB s = false) : F50 [.str s] = some (.pan (fault 2)) := by
  rw [F50_eq, h]
  rfl
/-- A value of at most 500 digits. -/
abbrev small (z : Int) : Prop := z.natAbs < 10 ^ 500
set_option exponentiation.threshold 500000 in
theorem ival_small {s : List UInt8} (h : validB s = true) : small (ival s) := by
  obtain ⟨h1, h2⟩ := valid_dig h
  have h3 := dval_lt _ h1
  have h4 : (10 : Nat) ^ (dropB s [45]).length ≤ 10 ^ 500 := Nat.pow_le_pow_right (by omega) h2
  have : (ival s).natAbs = dval (dropB s [45]) := by unfold ival; split <;> omega
  show (ival s).natAbs < _
  omega
set_option exponentiation.threshold 500000 in
theorem few_of {n k : Nat} (hk : k ≤ 400000) (h : n < 10 ^ k) : few n := by
  have : (10 : Nat) ^ k ≤ 10 ^ (4 * 100000) := Nat.pow_le_pow_right (by omega) (by omega)
  show (lm 10000 n).length ≤ 100000
  rw [lm_len_le (by omega)]
  rw [Nat.pow_mul, show (10 : Nat) ^ 4 = 10000 from rfl] at this
  omega
theorem small_few {z : Int} (h : small z) : fewI z := few_of (k := 500) (by omega) h
set_option exponentiation.threshold 500000 in
theorem mul_small {x y : Int} (hx : small x) (hy : small y) : (x * y).natAbs < 10 ^ 1000 := by
  rw [Int.natAbs_mul, show (1000 : Nat) = 500 + 500 from rfl, Nat.pow_add]
  exact Nat.mul_lt_mul'' hx hy
noncomputable def F67 : List V → Option V := hF (α := Int × Int) (fun a => [Zi a.1, Zi a.2]) (fun _ => True) (fun a => Zi (-a.1))
theorem F67_eq (x y : Int) : F67 [Zi x, Zi y] = some (Zi (-x)) := hF_eq (a := (x, y)) two_Zi (by simp only [cans, canZ]) trivial
noncomputable def F69 : List V → Option V := hF (α := Int × Int) (fun a => [Zi a.1, Zi a.2]) (fun a => fewI a.1 ∧ fewI a.2) (fun a => Zi (a.1 - a.2))
theorem F69_eq {x y : Int} (hx : fewI x) (hy : fewI y) : F69 [Zi x, Zi y] = some (Zi (x - y)) := hF_eq (a := (x, y)) two_Zi (by simp only [cans, canZ]) ⟨hx, hy⟩
def outS (z : Int) : V := .tup [.str (if fitB z.natAbs = true then itxt z else []), I (if fitB z.natAbs = true then 0 else 7)]
def badS : V := .tup [.str [], I 2]
noncomputable abbrev K42 : List (FuncId × (List V → Option COut)) := (50, F50) :: (54, F54) :: []
theorem hK42 : SoundTab Tryd.prog (tabT K42) := tabs_cons (hO_sound fun a _ => w50 a) <| tabs_cons (hO_sound fun a h => w54 a h) tabs_nil
def with2 (G : Int → Int → Int) (a b : List UInt8) : V := if validB a = true ∧ validB b = true then outS (G (ival a) (ival b)) else badS
theorem with2_pure {G a b} : pureR (with2 G a b) = true := by
  unfold with2 outS badS
  split <;> rfl

noncomputable abbrev T42_66 : List (FuncId × (List V → Option V)) := (66, F66) :: []
theorem hT42_66 : SoundHand Tryd.prog (hand T42_66) := sound_cons (hF_sound fun a h => w66 a.1 a.2 h.1 h.2) sound_nil
set_option exponentiation.threshold 500000 in
theorem w42_66 (a b : List UInt8) : SoundPure Tryd.prog 42 [.str a, .str b, .fn (.func 66) [] []] (.ret (with2 (fun x y => x + y) a b)) := by
  refine sound_defer (C := Cx (hand T42_66)) hT42_66 good mixed hK42 (n := 6) (s1 := ?s1) (k := ⟨0, 7, 0⟩) (ver := 0) Tryd.func42 rfl (by simp) with2_pure (by decide) caught49 ?h0 ?hte ?h1
  case h0 =>
    show R (tm (tabT K42) (M42 (hand T42_66) 6)) (sub [0] c42) .top _ = _
    simp only [c42, Tryd.f42, gets, sub]
    simp only [vmr, vmw, vmp, vza, ↓reduceIte, Nat.reduceBEq, Nat.reduceLT, Nat.reduceAdd, Nat.reduceEqDiff, reduceCtorEq, vmt, vzb, vzc, vlen, vleaf, velems, oks, vst, vmd, ty, Nat.reduceLeDiff, Nat.reduceMul, Nat.reduceSub, m42]
    exact X_top
  case hte => simp only [vmr, vmw, vmp, vza, ↓reduceIte, Nat.reduceBEq, Nat.reduceLT, Nat.reduceAdd, Nat.reduceEqDiff, reduceCtorEq, vmt, vzb, vzc, vlen, vleaf, velems, oks, vst, vmd, ty, Nat.reduceLeDiff, Nat.reduceMul, Nat.reduceSub, m42]
  show FinC (tm (tabT K42) (M42 (hand T42_66) 6)) 24 96 _ [.tmp 6, .cell 7 24] (R (tm (tabT K42) (M42 (hand T42_66) 6)) (sub [1, 1] c42) .top _) = _
  simp only [c42, Tryd.f42, gets, sub]
  unfold with2
  cases ha : validB a with
  | false =>
    have ea := F50_bad ha
    simp only [Bool.false_eq_true, false_and, if_false]
    unfold badS
    simp only [vmr, vmw, vmp, vza, ↓reduceIte, Nat.reduceBEq, Nat.reduceLT, Nat.reduceAdd, Nat.reduceEqDiff, reduceCtorEq, vmt, vzb, vzc, vlen, vleaf, velems, oks, vst, vmd, ty, Nat.reduceLeDiff, Nat.reduceMul, Nat.reduceSub, vzr, m42, ea, FinC_pan, FinC_ret, tidy_mk]
  | true =>
    have ea := F50_ok ha
    cases hb : validB b with
    | false =>
      have eb := F50_bad hb
      simp only [Bool.false_eq_true, and_false, if_false]
      unfold badS
      simp only [vmr, vmw, vmp, vza, ↓reduceIte, Nat.reduceBEq, Nat.reduceLT, Nat.reduceAdd, Nat.reduceEqDiff, reduceCtorEq, vmt, vzb, vzc, vlen, vleaf, velems, oks, vst, vmd, ty, Nat.reduceLeDiff, Nat.reduceMul, Nat.reduceSub, vzr, m42, ea, eb, FinC_pan, FinC_ret, tidy_mk]
    | true =>
      have eb := F50_ok hb
      have sa := ival_small ha
      have sb := ival_small hb
      simp only [and_self, if_true]
      generalize ival a = x at *
      generalize ival b = y at *
      have eg := F66_eq (small_few sa) (small_few sb)
      have e54 := F54_eq (x := x + y) (few_of (k := 501) (by omega) (by rw [Nat.pow_succ]; omega))
      unfold outS
      cases hf : fitB (Int.natAbs (x + y)) with
      | false =>
        rw [hf] at e54
        simp only [outT, Bool.false_eq_true, if_false] at e54 ⊢
        simp only [vmr, vmw, vmp, vza, ↓reduceIte, Nat.reduceBEq, Nat.reduceLT, Nat.reduceAdd, Nat.reduceEqDiff, reduceCtorEq, vmt, vzb, vzc, vlen, vleaf, velems, oks, vst, vmd, ty, Nat.reduceLeDiff, Nat.reduceMul, Nat.reduceSub, vzr, m42, ea, eb, eg, e54, FinC_pan, FinC_ret, tidy_mk]
      | true =>
        rw [hf] at e54
        simp only [outT, if_true] at e54 ⊢
        simp only [vmr, vmw, vmp, vza, ↓reduceIte, Nat.reduceBEq, Nat.reduceLT, Nat.reduceAdd, Nat.reduceEqDiff, reduceCtorEq, vmt, vzb, vzc, vlen, vleaf, velems, oks, vst, vmd, ty, Nat.reduceLeDiff, Nat.reduceMul, Nat.reduceSub, vzr, m42, ea, eb, eg, e54, FinC_pan, FinC_ret, tidy_mk]
noncomputable def F42_66 : List V → Option V := hF (α := List UInt8 × List UInt8) (fun a => [.str a.1, .str a.2, .fn (.func 66) [] []]) (fun _ => True) (fun a => with2 (fun x y => x + y) a.1 a.2)
theorem F42_66_eq (a b : List UInt8) : F42_66 [.str a, .str b, .fn (.func 66) [] []] = some (with2 (fun x y => x + y) a b) := hF_eq (a := (a, b)) (fun a b h => by injection h with h1 h2; injection h2 with h2 _; exact Prod.ext (Str_inj h1) (Str_inj h2)) (by simp only [cans, can, canStr]) trivial

noncomputable abbrev T42_43 : List (FuncId × (List V → Option V)) := (43, F43) :: []
theorem hT42_43 : SoundHand Tryd.prog (hand T42_43) := sound_cons (hF_sound fun a h => w43 a.1 a.2 h.1 h.2) sound_nil
theorem w42_43 (a b : List UInt8) : SoundPure Tryd.prog 42 [.str a, .str b, .fn (.func 43) [] []] (.ret (with2 (fun x y => x * y) a b)) := by
  refine sound_defer (C := Cx (hand T42_43)) hT42_43 good mixed hK42 (n := 6) (s1 := ?s1) (k := ⟨0, 7, 0⟩) (ver := 0) Tryd.func42 rfl (by simp) with2_pure (by decide) caught49 ?h0 ?hte ?h1
  case h0 =>
    show R (tm (tabT K42) (M42 (hand T42_43) 6)) (sub [0] c42) .top _ = _
    simp only [c42, Tryd.f42, gets, sub]
    simp only [vmr, vmw, vmp, vza, ↓reduceIte, Nat.reduceBEq, Nat.reduceLT, Nat.reduceAdd, Nat.reduceEqDiff, reduceCtorEq, vmt, vzb, vzc, vlen, vleaf, velems, oks, vst, vmd, ty, Nat.reduceLeDiff, Nat.reduceMul, Nat.reduceSub, m42]
    exact X_top
  case hte => simp only [vmr, vmw, vmp, vza, ↓reduceIte, Nat.reduceBEq, Nat.reduceLT, Nat.reduceAdd, Nat.reduceEqDiff, reduceCtorEq, vmt, vzb, vzc, vlen, vleaf, velems, oks, vst, vmd, ty, Nat.reduceLeDiff, Nat.reduceMul, Nat.reduceSub, m42]
  show FinC (tm (tabT K42) (M42 (hand T42_43) 6)) 24 96 _ [.tmp 6, .cell 7 24] (R (tm (tabT K42) (M42 (hand T42_43) 6)) (sub [1, 1] c42) .top _) = _
  simp only [c42, Tryd.f42, gets, sub]
  unfold with2
  cases ha : validB a with
  | false =>
    have ea := F50_bad ha
    simp only [Bool.false_eq_true, false_and, if_false]
    unfold badS
    simp only [vmr, vmw, vmp, vza, ↓reduceIte, Nat.reduceBEq, Nat.reduceLT, Nat.reduceAdd, Nat.reduceEqDiff, reduceCtorEq, vmt, vzb, vzc, vlen, vleaf, velems, oks, vst, vmd, ty, Nat.reduceLeDiff, Nat.reduceMul, Nat.reduceSub, vzr, m42, ea, FinC_pan, FinC_ret, tidy_mk]
  | true =>
    have ea := F50_ok ha
    cases hb : validB b with
    | false =>
      have eb := F50_bad hb
      simp only [Bool.false_eq_true, and_false, if_false]
      unfold badS
      simp only [vmr, vmw, vmp, vza, ↓reduceIte, Nat.reduceBEq, Nat.reduceLT, Nat.reduceAdd, Nat.reduceEqDiff, reduceCtorEq, vmt, vzb, vzc, vlen, vleaf, velems, oks, vst, vmd, ty, Nat.reduceLeDiff, Nat.reduceMul, Nat.reduceSub, vzr, m42, ea, eb, FinC_pan, FinC_ret, tidy_mk]
    | true =>
      have eb := F50_ok hb
      have sa := ival_small ha
      have sb := ival_small hb
      simp only [and_self, if_true]
      generalize ival a = x at *
      generalize ival b = y at *
      have eg := F43_eq (small_few sa) (small_few sb)
      have e54 := F54_eq (x := x * y) (few_of (k := 1000) (by omega) (mul_small sa sb))
      unfold outS
      cases hf : fitB (Int.natAbs (x * y)) with
      | false =>
        rw [hf] at e54
        simp only [outT, Bool.false_eq_true, if_false] at e54 ⊢
        simp only [vmr, vmw, vmp, vza, ↓reduceIte, Nat.reduceBEq, Nat.reduceLT, Nat.reduceAdd, Nat.reduceEqDiff, reduceCtorEq, vmt, vzb, vzc, vlen, vleaf, velems, oks, vst, vmd, ty, Nat.reduceLeDiff, Nat.reduceMul, Nat.reduceSub, vzr, m42, ea, eb, eg, e54, FinC_pan, FinC_ret, tidy_mk]
      | true =>
        rw [hf] at e54
        simp only [outT, if_true] at e54 ⊢
        simp only [vmr, vmw, vmp, vza, ↓reduceIte, Nat.reduceBEq, Nat.reduceLT, Nat.reduceAdd, Nat.reduceEqDiff, reduceCtorEq, vmt, vzb, vzc, vlen, vleaf, velems, oks, vst, vmd, ty, Nat.reduceLeDiff, Nat.reduceMul, Nat.reduceSub, vzr, m42, ea, eb, eg, e54, FinC_pan, FinC_ret, tidy_mk]
noncomputable def F42_43 : List V → Option V := hF (α := List UInt8 × List UInt8) (fun a => [.str a.1, .str a.2, .fn (.func 43) [] []]) (fun _ => True) (fun a => with2 (fun x y => x * y) a.1 a.2)
theorem F42_43_eq (a b : List UInt8) : F42_43 [.str a, .str b, .fn (.func 43) [] []] = some (with2 (fun x y => x * y) a b) := hF_eq (a := (a, b)) (fun a b h => by injection h with h1 h2; injection h2 with h2 _; exact Prod.ext (Str_inj h1) (Str_inj h2)) (by simp only [cans, can, canStr]) trivial

noncomputable abbrev T42_67 : List (FuncId × (List V → Option V)) := (67, F67) :: []
theorem hT42_67 : SoundHand Tryd.prog (hand T42_67) := sound_cons (hF_sound fun a _ => w67 a.1 a.2) sound_nil
theorem w42_67 (a b : List UInt8) : SoundPure Tryd.prog 42 [.str a, .str b, .fn (.func 67) [] []] (.ret (with2 (fun x y => -x) a b)) := by
  refine sound_defer (C := Cx (hand T42_67)) hT42_67 good mixed hK42 (n := 6) (s1 := ?s1) (k := ⟨0, 7, 0⟩) (ver := 0) Tryd.func42 rfl (by simp) with2_pure (by decide) caught49 ?h0 ?hte ?h1
  case h0 =>
    show R (tm (tabT K42) (M42 (hand T42_67) 6)) (sub [0] c42) .top _ = _
    simp only [c42, Tryd.f42, gets, sub]
    simp only [vmr, vmw, vmp, vza, ↓reduceIte, Nat.reduceBEq, Nat.reduceLT, Nat.reduceAdd, Nat.reduceEqDiff, reduceCtorEq, vmt, vzb, vzc, vlen, vleaf, velems, oks, vst, vmd, ty, Nat.reduceLeDiff, Nat.reduceMul, Nat.reduceSub, m42]
    exact X_top
  case hte => simp only [vmr, vmw, vmp, vza, ↓reduceIte, Nat.reduceBEq, Nat.reduceLT, Nat.reduceAdd, Nat.reduceEqDiff, reduceCtorEq, vmt, vzb, vzc, vlen, vleaf, velems, oks, vst, vmd, ty, Nat.reduceLeDiff, Nat.reduceMul, Nat.reduceSub, m42]
  show FinC (tm (tabT K42) (M42 (hand T42_67) 6)) 24 96 _ [.tmp 6, .cell 7 24] (R (tm (tabT K42) (M42 (hand T42_67) 6)) (sub [1, 1] c42) .top _) = _
  simp only [c42, Tryd.f42, gets, sub]
  unfold with2
  cases ha : validB a with
  | false =>
    have ea := F50_bad ha
    simp only [Bool.false_eq_true, false_and, if_false]
    unfold badS
    simp only [vmr, vmw, vmp, vza, ↓reduceIte, Nat.reduceBEq, Nat.reduceLT, Nat.reduceAdd, Nat.reduceEqDiff, reduceCtorEq, vmt, vzb, vzc, vlen, vleaf, velems, oks, vst, vmd, ty, Nat.reduceLeDiff, Nat.reduceMul, Nat.reduceSub, vzr, m42, ea, FinC_pan, FinC_ret, tidy_mk]
  | true =>
    have ea := F50_ok ha
    cases hb : validB b with
    | false =>
      have eb := F50_bad hb
      simp only [Bool.false_eq_true, and_false, if_false]
      unfold badS
      simp only [vmr, vmw, vmp, vza, ↓reduceIte, Nat.reduceBEq, Nat.reduceLT, Nat.reduceAdd, Nat.reduceEqDiff, reduceCtorEq, vmt, vzb, vzc, vlen, vleaf, velems, oks, vst, vmd, ty, Nat.reduceLeDiff, Nat.reduceMul, Nat.reduceSub, vzr, m42, ea, eb, FinC_pan, FinC_ret, tidy_mk]
    | true =>
      have eb := F50_ok hb
      have sa := ival_small ha
      have sb := ival_small hb
      simp only [and_self, if_true]
      generalize ival a = x at *
      generalize ival b = y at *
      have eg := F67_eq x y
      have e54 := F54_eq (x := -x) (by show few (-x).natAbs; rw [Int.natAbs_neg]; exact small_few sa)
      unfold outS
      cases hf : fitB (Int.natAbs (-x)) with
      | false =>
        rw [hf] at e54
        simp only [outT, Bool.false_eq_true, if_false] at e54 ⊢
        simp only [vmr, vmw, vmp, vza, ↓reduceIte, Nat.reduceBEq, Nat.reduceLT, Nat.reduceAdd, Nat.reduceEqDiff, reduceCtorEq, vmt, vzb, vzc, vlen, vleaf, velems, oks, vst, vmd, ty, Nat.reduceLeDiff, Nat.reduceMul, Nat.reduceSub, vzr, m42, ea, eb, eg, e54, FinC_pan, FinC_ret, tidy_mk]
      | true =>
        rw [hf] at e54
        simp only [outT, if_true] at e54 ⊢
        simp only [vmr, vmw, vmp, vza, ↓reduceIte, Nat.reduceBEq, Nat.reduceLT, Nat.reduceAdd, Nat.reduceEqDiff, reduceCtorEq, vmt, vzb, vzc, vlen, vleaf, velems, oks, vst, vmd, ty, Nat.reduceLeDiff, Nat.reduceMul, Nat.reduceSub, vzr, m42, ea, eb, eg, e54, FinC_pan, FinC_ret, tidy_mk]
noncomputable def F42_67 : List V → Option V := hF (α := List UInt8 × List UInt8) (fun a => [.str a.1, .str a.2, .fn (.func 67) [] []]) (fun _ => True) (fun a => with2 (fun x y => -x) a.1 a.2)
theorem F42_67_eq (a b : List UInt8) : F42_67 [.str a, .str b, .fn (.func 67) [] []] = some (with2 (fun x y => -x) a b) := hF_eq (a := (a, b)) (fun a b h => by injection h with h1 h2; injection h2 with h2 _; exact Prod.ext (Str_inj h1) (Str_inj h2)) (by simp only [cans, can, canStr]) trivial

noncomputable abbrev T42_69 : List (FuncId × (List V → Option V)) := (69, F69) :: []
theorem hT42_69 : SoundHand Tryd.prog (hand T42_69) := sound_cons (hF_sound fun a h => w69 a.1 a.2 h.1 h.2) sound_nil
set_option exponentiation.threshold 500000 in
theorem w42_69 (a b : List UInt8) : SoundPure Tryd.prog 42 [.str a, .str b, .fn (.func 69) [] []] (.ret (with2 (fun x y => x - y) a b)) := by
  refine sound_defer (C := Cx (hand T42_69)) hT42_69 good mixed hK42 (n := 6) (s1 := ?s1) (k := ⟨0, 7, 0⟩) (ver := 0) Tryd.func42 rfl (by simp) with2_pure (by decide) caught49 ?h0 ?hte ?h1
  case h0 =>
    show R (tm (tabT K42) (M42 (hand T42_69) 6)) (sub [0] c42) .top _ = _
    simp only [c42, Tryd.f42, gets, sub]
    simp only [vmr, vmw, vmp, vza, ↓reduceIte, Nat.reduceBEq, Nat.reduceLT, Nat.reduceAdd, Nat.reduceEqDiff, reduceCtorEq, vmt, vzb, vzc, vlen, vleaf, velems, oks, vst, vmd, ty, Nat.reduceLeDiff, Nat.reduceMul, Nat.reduceSub, m42]
    exact X_top
  case hte => simp only [vmr, vmw, vmp, vza, ↓reduceIte, Nat.reduceBEq, Nat.reduceLT, Nat.reduceAdd, Nat.reduceEqDiff, reduceCtorEq, vmt, vzb, vzc, vlen, vleaf, velems, oks, vst, vmd, ty, Nat.reduceLeDiff, Nat.reduceMul, Nat.reduceSub, m42]
  show FinC (tm (tabT K42) (M42 (hand T42_69) 6)) 24 96 _ [.tmp 6, .cell 7 24] (R (tm (tabT K42) (M42 (hand T42_69) 6)) (sub [1, 1] c42) .top _) = _
  simp only [c42, Tryd.f42, gets, sub]
  unfold with2
  cases ha : validB a with
  | false =>
    have ea := F50_bad ha
    simp only [Bool.false_eq_true, false_and, if_false]
    unfold badS
    simp only [vmr, vmw, vmp, vza, ↓reduceIte, Nat.reduceBEq, Nat.reduceLT, Nat.reduceAdd, Nat.reduceEqDiff, reduceCtorEq, vmt, vzb, vzc, vlen, vleaf, velems, oks, vst, vmd, ty, Nat.reduceLeDiff, Nat.reduceMul, Nat.reduceSub, vzr, m42, ea, FinC_pan, FinC_ret, tidy_mk]
  | true =>
    have ea := F50_ok ha
    cases hb : validB b with
    | false =>
      have eb := F50_bad hb
      simp only [Bool.false_eq_true, and_false, if_false]
      unfold badS
      simp only [vmr, vmw, vmp, vza, ↓reduceIte, Nat.reduceBEq, Nat.reduceLT, Nat.reduceAdd, Nat.reduceEqDiff, reduceCtorEq, vmt, vzb, vzc, vlen, vleaf, velems, oks, vst, vmd, ty, Nat.reduceLeDiff, Nat.reduceMul, Nat.reduceSub, vzr, m42, ea, eb, FinC_pan, FinC_ret, tidy_mk]
    | true =>
      have eb := F50_ok hb
      have sa := ival_small ha
      have sb := ival_small hb
      simp only [and_self, if_true]
      generalize ival a = x at *
      generalize ival b = y at *
      have eg := F69_eq (small_few sa) (small_few sb)
      have e54 := F54_eq (x := x - y) (few_of (k := 501) (by omega) (by rw [Nat.pow_succ]; omega))
      unfold outS
      cases hf : fitB (Int.natAbs (x - y)) with
      | false =>
        rw [hf] at e54
        simp only [outT, Bool.false_eq_true, if_false] at e54 ⊢
        simp only [vmr, vmw, vmp, vza, ↓reduceIte, Nat.reduceBEq, Nat.reduceLT, Nat.reduceAdd, Nat.reduceEqDiff, reduceCtorEq, vmt, vzb, vzc, vlen, vleaf, velems, oks, vst, vmd, ty, Nat.reduceLeDiff, Nat.reduceMul, Nat.reduceSub, vzr, m42, ea, eb, eg, e54, FinC_pan, FinC_ret, tidy_mk]
      | true =>
        rw [hf] at e54
        simp only [outT, if_true] at e54 ⊢
        simp only [vmr, vmw, vmp, vza, ↓reduceIte, Nat.reduceBEq, Nat.reduceLT, Nat.reduceAdd, Nat.reduceEqDiff, reduceCtorEq, vmt, vzb, vzc, vlen, vleaf, velems, oks, vst, vmd, ty, Nat.reduceLeDiff, Nat.reduceMul, Nat.reduceSub, vzr, m42, ea, eb, eg, e54, FinC_pan, FinC_ret, tidy_mk]
noncomputable def F42_69 : List V → Option V := hF (α := List UInt8 × List UInt8) (fun a => [.str a.1, .str a.2, .fn (.func 69) [] []]) (fun _ => True) (fun a => with2 (fun x y => x - y) a.1 a.2)
theorem F42_69_eq (a b : List UInt8) : F42_69 [.str a, .str b, .fn (.func 69) [] []] = some (with2 (fun x y => x - y) a b) := hF_eq (a := (a, b)) (fun a b h => by injection h with h1 h2; injection h2 with h2 _; exact Prod.ext (Str_inj h1) (Str_inj h2)) (by simp only [cans, can, canStr]) trivial
end Go.Vi
set_option maxRecDepth 100000
set_option maxHeartbeats 1000000
namespace Go.Vi
open Go Go.Proofs

theorem with2_tup (G : Int → Int → Int) (a b : List UInt8) : ∃ s e, with2 G a b = .tup [.str s, I e] := by
  unfold with2 outS badS
  split
  · exact ⟨_, _, rfl⟩
  · exact ⟨_, _, rfl⟩
noncomputable abbrev T24 : List (FuncId × (List V → Option V)) := (42, F42_66) :: []
theorem hT24 : SoundHand Tryd.prog (hand T24) := sound_cons (hF_sound fun a _ => w42_66 a.1 a.2) sound_nil
theorem w24 (a b : List UInt8) : SoundPure Tryd.prog 24 [.str a, .str b] (.ret (with2 (fun x y => x + y) a b)) := by
  refine s24 hT24 5 (by simp) with2_pure ?_
  obtain ⟨s, e, h⟩ := with2_tup (fun x y => x + y) a b
  have e42 := F42_66_eq a b
  rw [h] at e42 ⊢
  simp only [c24, Tryd.f24, gets]
  simp only [vmr, vmw, vmp, vza, ↓reduceIte, Nat.reduceBEq, Nat.reduceLT, Nat.reduceAdd, Nat.reduceEqDiff, reduceCtorEq, vmt, vzb, vzc, vlen, vleaf, velems, oks, vst, vmd, ty, Nat.reduceLeDiff, Nat.reduceMul, Nat.reduceSub, vzr, m24, e42]
noncomputable abbrev T27 : List (FuncId × (List V → Option V)) := (42, F42_69) :: []
theorem hT27 : SoundHand Tryd.prog (hand T27) := sound_cons (hF_sound fun a _ => w42_69 a.1 a.2) sound_nil
theorem w27 (a b : List UInt8) : SoundPure Tryd.prog 27 [.str a, .str b] (.ret (with2 (fun x y => x - y) a b)) := by
  refine s27 hT27 5 (by simp) with2_pure ?_
  obtain ⟨s, e, h⟩ := with2_tup (fun x y => x - y) a b
  have e42 := F42_69_eq a b
  rw [h] at e42 ⊢
  simp only [c27, Tryd.f27, gets]
  simp only [vmr, vmw, vmp, vza, ↓reduceIte, Nat.reduceBEq, Nat.reduceLT, Nat.reduceAdd, Nat.reduceEqDiff, reduceCtorEq, vmt, vzb, vzc, vlen, vleaf, velems, oks, vst, vmd, ty, Nat.reduceLeDiff, Nat.reduceMul, Nat.reduceSub, vzr, m27, e42]
noncomputable abbrev T11 : List (FuncId × (List V → Option V)) := (42, F42_43) :: []
theorem hT11 : SoundHand Tryd.prog (hand T11) := sound_cons (hF_sound fun a _ => w42_43 a.1 a.2) sound_nil
theorem w11 (a b : List UInt8) : SoundPure Tryd.prog 11 [.str a, .str b] (.ret (with2 (fun x y => x * y) a b)) := by
  refine s11 hT11 5 (by simp) with2_pure ?_
  obtain ⟨s, e, h⟩ := with2_tup (fun x y => x * y) a b
  have e42 := F42_43_eq a b
  rw [h] at e42 ⊢
  simp only [c11, Tryd.f11, gets]
  simp only [vmr, vmw, vmp, vza, ↓reduceIte, Nat.reduceBEq, Nat.reduceLT, Nat.reduceAdd, Nat.reduceEqDiff, reduceCtorEq, vmt, vzb, vzc, vlen, vleaf, velems, oks, vst, vmd, ty, Nat.reduceLeDiff, Nat.reduceMul, Nat.reduceSub, vzr, m11, e42]
noncomputable abbrev T26 : List (FuncId × (List V → Option V)) := (42, F42_67) :: []
theorem hT26 : SoundHand Tryd.prog (hand T26) := sound_cons (hF_sound fun a _ => w42_67 a.1 a.2) sound_nil
theorem w26 (a : List UInt8) : SoundPure Tryd.prog 26 [.str a] (.ret (with2 (fun x y => -x) a [48])) := by
  refine s26 hT26 5 (by simp) with2_pure ?_
  obtain ⟨s, e, h⟩ := with2_tup (fun x y => -x) a [48]
  have e42 := F42_67_eq a [48]
  rw [h] at e42 ⊢
  simp only [c26, Tryd.f26, gets]
  simp only [vmr, vmw, vmp, vza, ↓reduceIte, Nat.reduceBEq, Nat.reduceLT, Nat.reduceAdd, Nat.reduceEqDiff, reduceCtorEq, vmt, vzb, vzc, vlen, vleaf, velems, oks, vst, vmd, ty, Nat.reduceLeDiff, Nat.reduceMul, Nat.reduceSub, vzr, m26, e42]
end Go.Vi
