/-
  Walks of the reference's IsNumber; right, the program's and the reference's.
-/
import Derived.Test.YtpibnnopnhmijaaGreatDoorRA
set_option linter.unusedSimpArgs false
set_option linter.unusedVariables false
set_option maxRecDepth 100000
set_option maxHeartbeats 1000000
namespace Go.Vi
open Go Go.Proofs
def restB (t : List UInt8) : Bool := match t with
  | [] => false
  | u :: r => (u :: r).all digU && (decide ((u :: r).length ≤ 500) && !(u == 48))
theorem restB_num (a : List UInt8) : (if (a == [48]) = true then true else restB (cutS a)) = numB a := by
  split
  · rename_i h
    have : a = [48] := by simpa using h
    subst this
    decide
  · rename_i h
    unfold restB numB
    cases e : cutS a with
    | nil => rfl
    | cons u r =>
      dsimp only
      cases h1 : (u :: r).all digU <;> cases h2 : decide ((u :: r).length ≤ 500) <;> cases h3 : u == 48 <;> try rfl
      simp only [Bool.and_true, Bool.true_and, Bool.not_true, Bool.false_or, Bool.and_false]
      by_cases h4 : (u :: r).length = 1
      · have hr : r = [] := by cases r; rfl; simp at h4
        have hu : u = 48 := by simpa using h3
        subst hr; subst hu
        have hn : negB a = true := by
          cases hn : negB a with
          | true => rfl
          | false =>
            unfold cutS at e
            rw [hn] at e
            simp only [Bool.false_eq_true, if_false] at e
            subst e
            exact absurd rfl h
        simp [hn]
      · have : r ≠ [] := fun hr => h4 (by rw [hr]; rfl)
        simp [this]
theorem g48 (u : UInt8) : (((u.toNat : Int)) == 48) = (u == 48) := by
  rw [Bool.eq_iff_iff, beq_iff_eq, beq_iff_eq]
  exact ⟨fun h => UInt8.toNat_inj.1 (by simpa using (show u.toNat = 48 by omega)), fun h => by subst h; rfl⟩
theorem g45 (u : UInt8) : (((u.toNat : Int)) == 45) = (u == 45) := by
  rw [Bool.eq_iff_iff, beq_iff_eq, beq_iff_eq]
  exact ⟨fun h => UInt8.toNat_inj.1 (by simpa using (show u.toNat = 45 by omega)), fun h => by subst h; rfl⟩
theorem tail820 {n : Nat} {t : List UInt8} {s : St} (ht : t.length ≤ 1000000000000000) (hn : t.length < n) (h0 : tget s.τ 0 = .str t) : P820 n (.bool (restB t)) (R (M820 (hand [(141, F135)]) n) (sub [1, 1, 1] c820) .top s) := by
  have a1 := fun k s => @l820 n k t ht (P820 n (.bool (restB t))) t 0 n s rfl (by omega)
  simp only [c820, Tryz.f126, gets, sub] at a1 ⊢
  simp only [vmr, vmw, vmp, vza, ↓reduceIte, Nat.reduceBEq, Nat.reduceLT, Nat.reduceAdd, Nat.reduceEqDiff, reduceCtorEq, vmt, vzb, vzc, vlen, vleaf, velems, oks, vst, vmd, ty, Nat.reduceLeDiff, Nat.reduceMul, Nat.reduceSub, m820]
  refine a1 _ _ ?_ ?_ (fun s' h h0 => ?_) (fun s' h e => ?_)
  case refine_3 =>
    cases t with
    | nil =>
      simp only [vmr, vmw, vmp, vza, ↓reduceIte, Nat.reduceBEq, Nat.reduceLT, Nat.reduceAdd, Nat.reduceEqDiff, reduceCtorEq, vmt, vzb, vzc, vlen, vleaf, velems, oks, vst, vmd, ty, Nat.reduceLeDiff, Nat.reduceMul, Nat.reduceSub, m820, h0, strOp, bq1, restB]
      unfold P820
      simp only [vmr, vmw, vmp, vza, ↓reduceIte, Nat.reduceBEq, Nat.reduceLT, Nat.reduceAdd, Nat.reduceEqDiff, reduceCtorEq, vmt, vzb, vzc, vlen, vleaf, velems, oks, vst, vmd, ty, Nat.reduceLeDiff, Nat.reduceMul, Nat.reduceSub, vzr, m820]
    | cons u r =>
      have q0 : ((u :: r : List UInt8) == []) = false := rfl
      have g0 : (u :: r)[0]? = some u := rfl
      have g3 : (((u.toNat : Int)) != 48) = !(u == 48) := by rw [← g48]; rfl
      have hr : restB (u :: r) = ((u :: r).all digU && (decide ((u :: r).length ≤ 500) && !(u == 48))) := rfl
      rw [hr, h]
      generalize ht : u :: r = t at *
      by_cases q1 : t.length ≤ 500
      · have q1' : ((t.length : Int) ≤ 500) = True := eq_true (by omega)
        rw [decide_eq_true q1]
        simp only [vmr, vmw, vmp, vza, ↓reduceIte, Nat.reduceBEq, Nat.reduceLT, Nat.reduceAdd, Nat.reduceEqDiff, reduceCtorEq, vmt, vzb, vzc, vlen, vleaf, velems, oks, vst, vmd, ty, Nat.reduceLeDiff, Nat.reduceMul, Nat.reduceSub, m820, h0, strOp, q0, q1', g0, g3]
        unfold P820
        simp only [vmr, vmw, vmp, vza, ↓reduceIte, Nat.reduceBEq, Nat.reduceLT, Nat.reduceAdd, Nat.reduceEqDiff, reduceCtorEq, vmt, vzb, vzc, vlen, vleaf, velems, oks, vst, vmd, ty, Nat.reduceLeDiff, Nat.reduceMul, Nat.reduceSub, vzr, m820]
      · have q1' : ((t.length : Int) ≤ 500) = False := eq_false (by omega)
        rw [decide_eq_false q1]
        simp only [vmr, vmw, vmp, vza, ↓reduceIte, Nat.reduceBEq, Nat.reduceLT, Nat.reduceAdd, Nat.reduceEqDiff, reduceCtorEq, vmt, vzb, vzc, vlen, vleaf, velems, oks, vst, vmd, ty, Nat.reduceLeDiff, Nat.reduceMul, Nat.reduceSub, m820, h0, strOp, q0, q1', g0, g3]
        unfold P820
        simp only [vmr, vmw, vmp, vza, ↓reduceIte, Nat.reduceBEq, Nat.reduceLT, Nat.reduceAdd, Nat.reduceEqDiff, reduceCtorEq, vmt, vzb, vzc, vlen, vleaf, velems, oks, vst, vmd, ty, Nat.reduceLeDiff, Nat.reduceMul, Nat.reduceSub, vzr, m820]
  case refine_4 =>
    have hr : restB t = false := by
      cases t with
      | nil => rfl
      | cons u r => unfold restB; dsimp only; rw [h, Bool.false_and]
    rw [hr]
    unfold P820
    simp only [vmr, vmw, vmp, vza, ↓reduceIte, Nat.reduceBEq, Nat.reduceLT, Nat.reduceAdd, Nat.reduceEqDiff, reduceCtorEq, vmt, vzb, vzc, vlen, vleaf, velems, oks, vst, vmd, ty, Nat.reduceLeDiff, Nat.reduceMul, Nat.reduceSub, vzr, m820, e]
  all_goals simp only [vmr, vmw, vmp, vza, ↓reduceIte, Nat.reduceBEq, Nat.reduceLT, Nat.reduceAdd, Nat.reduceEqDiff, reduceCtorEq, vmt, vzb, vzc, vlen, vleaf, velems, oks, vst, vmd, ty, Nat.reduceLeDiff, Nat.reduceMul, Nat.reduceSub, m820, h0]
theorem w120 (a : List UInt8) (ha : a.length ≤ 1000000000000000) : SoundPure Tryz.prog 126 [.str a] (.ret (.bool (numB a))) := by
  refine s820 (H := [(141, F135)]) (sound_cons F135_sound sound_nil) (a.length + 1) (by simp) rfl ?_
  show P820 _ _ _
  rw [← restB_num]
  have a1 := fun t s => @tail820 (a.length + 1) t s
  rw [show c820 = .seq (sub [0] c820) (.seq (sub [1, 0] c820) (.seq (sub [1, 1, 0] c820) (sub [1, 1, 1] c820))) from rfl]
  generalize sub [1, 1, 1] c820 = tl at a1 ⊢
  simp only [c820, Tryz.f126, gets, sub]
  cases h1 : a == [48] with
  | true =>
    simp only [vmr, vmw, vmp, vza, ↓reduceIte, Nat.reduceBEq, Nat.reduceLT, Nat.reduceAdd, Nat.reduceEqDiff, reduceCtorEq, vmt, vzb, vzc, vlen, vleaf, velems, oks, vst, vmd, ty, Nat.reduceLeDiff, Nat.reduceMul, Nat.reduceSub, m820, strOp, h1]
    unfold P820
    simp only [vmr, vmw, vmp, vza, ↓reduceIte, Nat.reduceBEq, Nat.reduceLT, Nat.reduceAdd, Nat.reduceEqDiff, reduceCtorEq, vmt, vzb, vzc, vlen, vleaf, velems, oks, vst, vmd, ty, Nat.reduceLeDiff, Nat.reduceMul, Nat.reduceSub, vzr, m820]
  | false =>
    simp only [Bool.false_eq_true, if_false]
    unfold cutS
    cases a with
    | nil =>
      simp only [vmr, vmw, vmp, vza, ↓reduceIte, Nat.reduceBEq, Nat.reduceLT, Nat.reduceAdd, Nat.reduceEqDiff, reduceCtorEq, vmt, vzb, vzc, vlen, vleaf, velems, oks, vst, vmd, ty, Nat.reduceLeDiff, Nat.reduceMul, Nat.reduceSub, m820, strOp, h1, bq1, negB]
      refine a1 [] _ (by simp) (by simp) ?_
      simp only [vmr, vmw, vmp, vza, ↓reduceIte, Nat.reduceBEq, Nat.reduceLT, Nat.reduceAdd, Nat.reduceEqDiff, reduceCtorEq, vmt, vzb, vzc, vlen, vleaf, velems, oks, vst, vmd, ty, Nat.reduceLeDiff, Nat.reduceMul, Nat.reduceSub, m820]
    | cons u r =>
      have q0 : ((u :: r : List UInt8) == []) = false := rfl
      have g0 : (u :: r)[0]? = some u := rfl
      have q2 : (1 ≤ r.length + 1) = True := eq_true (by omega)
      cases h2 : u == 45 with
      | true =>
        simp only [vmr, vmw, vmp, vza, ↓reduceIte, Nat.reduceBEq, Nat.reduceLT, Nat.reduceAdd, Nat.reduceEqDiff, reduceCtorEq, vmt, vzb, vzc, vlen, vleaf, velems, oks, vst, vmd, ty, Nat.reduceLeDiff, Nat.reduceMul, Nat.reduceSub, m820, strOp, h1, q0, g0, g45, h2, negB, sliceA, sliceV, boundOf, q2, Option.map_some, Option.map_none, Nat.add_sub_cancel, show Int.toNat 1 = 1 from rfl, show ((0 : Int) ≤ 1) = True from eq_true (by decide)]
        simp only [List.length_cons] at ha
        refine a1 r _ (by omega) (by simp only [List.length_cons]; omega) ?_
        simp only [vmr, vmw, vmp, vza, ↓reduceIte, Nat.reduceBEq, Nat.reduceLT, Nat.reduceAdd, Nat.reduceEqDiff, reduceCtorEq, vmt, vzb, vzc, vlen, vleaf, velems, oks, vst, vmd, ty, Nat.reduceLeDiff, Nat.reduceMul, Nat.reduceSub, m820]
      | false =>
        simp only [vmr, vmw, vmp, vza, ↓reduceIte, Nat.reduceBEq, Nat.reduceLT, Nat.reduceAdd, Nat.reduceEqDiff, reduceCtorEq, vmt, vzb, vzc, vlen, vleaf, velems, oks, vst, vmd, ty, Nat.reduceLeDiff, Nat.reduceMul, Nat.reduceSub, m820, strOp, h1, q0, g0, g45, h2, negB]
        refine a1 (u :: r) _ ha (by simp) ?_
        simp only [vmr, vmw, vmp, vza, ↓reduceIte, Nat.reduceBEq, Nat.reduceLT, Nat.reduceAdd, Nat.reduceEqDiff, reduceCtorEq, vmt, vzb, vzc, vlen, vleaf, velems, oks, vst, vmd, ty, Nat.reduceLeDiff, Nat.reduceMul, Nat.reduceSub, m820]
noncomputable def F120 : List V → Option V := hF (α := List UInt8) (fun a => [.str a]) (fun a => a.length ≤ 1000000000000000) (fun a => .bool (numB a))
theorem F120_eq {a : List UInt8} (ha : a.length ≤ 1000000000000000) : F120 [.str a] = some (.bool (numB a)) := hF_eq (a := a) (one_inj' fun _ _ => Str_inj) rfl ha
theorem F120_sound : ∀ args v, F120 args = some v → SoundPure Tryz.prog 126 args (.ret v) := hF_sound fun p hp => w120 p hp
end Go.Vi
set_option maxRecDepth 100000
set_option maxHeartbeats 1000000
namespace Go.Vi
open Go Go.Proofs
def rightB (k : Int) (s : List UInt8) (c : List Tm) : Bool :=
  if k = 4 then s == [] else if k = 8 then idB 40 s else if c ≠ [] then false else if k = 1 then decide (s.length = 1)
  else if k = 2 then !(s == []) && decide (s.length ≤ 60) && s.all prtU else if k = 3 then numB s
  else if k = 5 ∨ k = 6 ∨ k = 7 then !(s == []) && decide (s.length ≤ 40) && s.all lodU else false
noncomputable abbrev T763 : List (FuncId × (List V → Option V)) := [(98, F91), (99, F92), (101, F94), (102, F95)]
theorem h763 : SoundHand Tryz.prog (hand T763) := sound_cons F91_sound (sound_cons F92_sound (sound_cons F94_sound (sound_cons F95_sound sound_nil)))
theorem kids_len (c : List Tm) : ((c.length : Int) > 0) = (c ≠ []) := by cases c <;> simp
theorem w63 (k : Int) (s : List UInt8) (c : List Tm) (hs : s.length ≤ 1000000000000000) : SoundPure Tryz.prog 81 [.agg [I k, .str s, Ts c]] (.ret (.bool (rightB k s c))) := by
  refine s763 h763 1 (by simp) rfl ?_
  unfold rightB
  simp only [c763, Tryz.f81, gets, sub]
  by_cases k4 : k = 4
  · subst k4
    simp only [vmr, vmw, vmp, vza, ↓reduceIte, Nat.reduceBEq, Nat.reduceLT, Nat.reduceAdd, Nat.reduceEqDiff, reduceCtorEq, vmt, vzb, vzc, vlen, vleaf, velems, oks, vst, vmd, ty, Nat.reduceLeDiff, Nat.reduceMul, Nat.reduceSub, vzr, m763, strOp, Int.reduceBEq, Int.reduceBNe]
  · have k4' : (k == 4) = false := by simpa using k4
    rw [if_neg k4]
    by_cases k8 : k = 8
    · subst k8
      have e := F91_eq (m := 40) hs
      simp only [vmr, vmw, vmp, vza, ↓reduceIte, Nat.reduceBEq, Nat.reduceLT, Nat.reduceAdd, Nat.reduceEqDiff, reduceCtorEq, vmt, vzb, vzc, vlen, vleaf, velems, oks, vst, vmd, ty, Nat.reduceLeDiff, Nat.reduceMul, Nat.reduceSub, vzr, m763, strOp, Int.reduceBEq, Int.reduceBNe, k4', e]
    · have k8' : (k == 8) = false := by simpa using k8
      rw [if_neg k8]
      by_cases hc : c = []
      · have hc' : ((c.length : Int) > 0) = False := by rw [kids_len]; simp [hc]
        rw [if_neg (by simp [hc])]
        by_cases k1 : k = 1
        · subst k1
          have e : ((s.length : Int) == 1) = decide (s.length = 1) := by rw [Bool.eq_iff_iff, beq_iff_eq, decide_eq_true_iff]; omega
          simp only [vmr, vmw, vmp, vza, ↓reduceIte, Nat.reduceBEq, Nat.reduceLT, Nat.reduceAdd, Nat.reduceEqDiff, reduceCtorEq, vmt, vzb, vzc, vlen, vleaf, velems, oks, vst, vmd, ty, Nat.reduceLeDiff, Nat.reduceMul, Nat.reduceSub, vzr, m763, strOp, Int.reduceBEq, Int.reduceBNe, k4', k8', hc', e]
        · have k1' : (k == 1) = false := by simpa using k1
          rw [if_neg k1]
          by_cases k2 : k = 2
          · subst k2
            have e := F92_eq s
            have q2 : ((s.length : Int) ≤ 60) = (s.length ≤ 60) := by simp; omega
            cases q1 : s == [] with
            | true => simp only [vmr, vmw, vmp, vza, ↓reduceIte, Nat.reduceBEq, Nat.reduceLT, Nat.reduceAdd, Nat.reduceEqDiff, reduceCtorEq, vmt, vzb, vzc, vlen, vleaf, velems, oks, vst, vmd, ty, Nat.reduceLeDiff, Nat.reduceMul, Nat.reduceSub, vzr, m763, strOp, Int.reduceBEq, Int.reduceBNe, k4', k8', hc', k1', q1]
            | false =>
              by_cases q3 : s.length ≤ 60
              · have q3' := eq_true q3
                simp only [vmr, vmw, vmp, vza, ↓reduceIte, Nat.reduceBEq, Nat.reduceLT, Nat.reduceAdd, Nat.reduceEqDiff, reduceCtorEq, vmt, vzb, vzc, vlen, vleaf, velems, oks, vst, vmd, ty, Nat.reduceLeDiff, Nat.reduceMul, Nat.reduceSub, vzr, m763, strOp, Int.reduceBEq, Int.reduceBNe, k4', k8', hc', k1', q1, q2, q3', e, Bool.not_not]
              · have q3' := eq_false q3
                simp only [vmr, vmw, vmp, vza, ↓reduceIte, Nat.reduceBEq, Nat.reduceLT, Nat.reduceAdd, Nat.reduceEqDiff, reduceCtorEq, vmt, vzb, vzc, vlen, vleaf, velems, oks, vst, vmd, ty, Nat.reduceLeDiff, Nat.reduceMul, Nat.reduceSub, vzr, m763, strOp, Int.reduceBEq, Int.reduceBNe, k4', k8', hc', k1', q1, q2, q3']
          · have k2' : (k == 2) = false := by simpa using k2
            rw [if_neg k2]
            by_cases k3 : k = 3
            · subst k3
              have e := F94_eq hs
              simp only [vmr, vmw, vmp, vza, ↓reduceIte, Nat.reduceBEq, Nat.reduceLT, Nat.reduceAdd, Nat.reduceEqDiff, reduceCtorEq, vmt, vzb, vzc, vlen, vleaf, velems, oks, vst, vmd, ty, Nat.reduceLeDiff, Nat.reduceMul, Nat.reduceSub, vzr, m763, strOp, Int.reduceBEq, Int.reduceBNe, k4', k8', hc', k1', k2', e]
            · have k3' : (k == 3) = false := by simpa using k3
              rw [if_neg k3]
              have e : F95 [.str s, .int .u8 3] = some (.bool (s.all lodU)) := F95_eq (c := 3) (by simp) hs
              have q2 : ((s.length : Int) ≤ 40) = (s.length ≤ 40) := by simp; omega
              by_cases kv : k = 5 ∨ k = 6 ∨ k = 7
              · rw [if_pos kv]
                cases q1 : s == [] with
                | true => rcases kv with rfl | rfl | rfl <;> simp only [vmr, vmw, vmp, vza, ↓reduceIte, Nat.reduceBEq, Nat.reduceLT, Nat.reduceAdd, Nat.reduceEqDiff, reduceCtorEq, vmt, vzb, vzc, vlen, vleaf, velems, oks, vst, vmd, ty, Nat.reduceLeDiff, Nat.reduceMul, Nat.reduceSub, vzr, m763, strOp, Int.reduceBEq, Int.reduceBNe, k4', k8', hc', k1', k2', k3', q1]
                | false =>
                  by_cases q3 : s.length ≤ 40
                  · have q3' := eq_true q3
                    rcases kv with rfl | rfl | rfl <;> simp only [vmr, vmw, vmp, vza, ↓reduceIte, Nat.reduceBEq, Nat.reduceLT, Nat.reduceAdd, Nat.reduceEqDiff, reduceCtorEq, vmt, vzb, vzc, vlen, vleaf, velems, oks, vst, vmd, ty, Nat.reduceLeDiff, Nat.reduceMul, Nat.reduceSub, vzr, m763, strOp, Int.reduceBEq, Int.reduceBNe, k4', k8', hc', k1', k2', k3', q1, q2, q3', e]
                  · have q3' := eq_false q3
                    rcases kv with rfl | rfl | rfl <;> simp only [vmr, vmw, vmp, vza, ↓reduceIte, Nat.reduceBEq, Nat.reduceLT, Nat.reduceAdd, Nat.reduceEqDiff, reduceCtorEq, vmt, vzb, vzc, vlen, vleaf, velems, oks, vst, vmd, ty, Nat.reduceLeDiff, Nat.reduceMul, Nat.reduceSub, vzr, m763, strOp, Int.reduceBEq, Int.reduceBNe, k4', k8', hc', k1', k2', k3', q1, q2, q3']
              · rw [if_neg kv]
                have k5' : (k == 5) = false := by simp; omega
                have k6' : (k == 6) = false := by simp; omega
                have k7' : (k == 7) = false := by simp; omega
                simp only [vmr, vmw, vmp, vza, ↓reduceIte, Nat.reduceBEq, Nat.reduceLT, Nat.reduceAdd, Nat.reduceEqDiff, reduceCtorEq, vmt, vzb, vzc, vlen, vleaf, velems, oks, vst, vmd, ty, Nat.reduceLeDiff, Nat.reduceMul, Nat.reduceSub, vzr, m763, strOp, Int.reduceBEq, Int.reduceBNe, k4', k8', hc', k1', k2', k3', k5', k6', k7']
      · have hc' : ((c.length : Int) > 0) = True := by rw [kids_len]; simp [hc]
        rw [if_pos hc]
        simp only [vmr, vmw, vmp, vza, ↓reduceIte, Nat.reduceBEq, Nat.reduceLT, Nat.reduceAdd, Nat.reduceEqDiff, reduceCtorEq, vmt, vzb, vzc, vlen, vleaf, velems, oks, vst, vmd, ty, Nat.reduceLeDiff, Nat.reduceMul, Nat.reduceSub, vzr, m763, strOp, Int.reduceBEq, Int.reduceBNe, k4', k8', hc']
noncomputable abbrev T805 : List (FuncId × (List V → Option V)) := [(125, F119), (126, F120), (127, F121), (128, F122)]
theorem h805 : SoundHand Tryz.prog (hand T805) := sound_cons F119_sound (sound_cons F120_sound (sound_cons F121_sound (sound_cons F122_sound sound_nil)))
theorem w105 (k : Int) (s : List UInt8) (c : List Tm) (hs : s.length ≤ 1000000000000000) : SoundPure Tryz.prog 109 [.agg [I k, .str s, Ts c]] (.ret (.bool (rightB k s c))) := by
  refine s805 h805 1 (by simp) rfl ?_
  unfold rightB
  simp only [c805, Tryz.f109, gets, sub]
  by_cases k4 : k = 4
  · subst k4
    simp only [vmr, vmw, vmp, vza, ↓reduceIte, Nat.reduceBEq, Nat.reduceLT, Nat.reduceAdd, Nat.reduceEqDiff, reduceCtorEq, vmt, vzb, vzc, vlen, vleaf, velems, oks, vst, vmd, ty, Nat.reduceLeDiff, Nat.reduceMul, Nat.reduceSub, vzr, m805, strOp, Int.reduceBEq, Int.reduceBNe, Bool.not_true]
  · have k4' : (k == 4) = false := by simpa using k4
    have n4' : (k != 4) = true := by simpa using k4
    rw [if_neg k4]
    by_cases k8 : k = 8
    · subst k8
      have e := F122_eq (m := 40) hs
      simp only [vmr, vmw, vmp, vza, ↓reduceIte, Nat.reduceBEq, Nat.reduceLT, Nat.reduceAdd, Nat.reduceEqDiff, reduceCtorEq, vmt, vzb, vzc, vlen, vleaf, velems, oks, vst, vmd, ty, Nat.reduceLeDiff, Nat.reduceMul, Nat.reduceSub, vzr, m805, strOp, Int.reduceBEq, Int.reduceBNe, k4', n4', e, Bool.not_true]
    · have k8' : (k == 8) = false := by simpa using k8
      have n8' : (k != 8) = true := by simpa using k8
      rw [if_neg k8]
      by_cases hc : c = []
      · have hc' : ((c.length : Int) > 0) = False := by rw [kids_len]; simp [hc]
        rw [if_neg (by simp [hc])]
        by_cases k1 : k = 1
        · subst k1
          have e : ((s.length : Int) == 1) = decide (s.length = 1) := by rw [Bool.eq_iff_iff, beq_iff_eq, decide_eq_true_iff]; omega
          simp only [vmr, vmw, vmp, vza, ↓reduceIte, Nat.reduceBEq, Nat.reduceLT, Nat.reduceAdd, Nat.reduceEqDiff, reduceCtorEq, vmt, vzb, vzc, vlen, vleaf, velems, oks, vst, vmd, ty, Nat.reduceLeDiff, Nat.reduceMul, Nat.reduceSub, vzr, m805, strOp, Int.reduceBEq, Int.reduceBNe, k4', k8', n4', n8', hc', e]
        · have k1' : (k == 1) = false := by simpa using k1
          rw [if_neg k1]
          by_cases k2 : k = 2
          · subst k2
            have e := F119_eq hs
            rw [Bool.and_comm] at e
            simp only [vmr, vmw, vmp, vza, ↓reduceIte, Nat.reduceBEq, Nat.reduceLT, Nat.reduceAdd, Nat.reduceEqDiff, reduceCtorEq, vmt, vzb, vzc, vlen, vleaf, velems, oks, vst, vmd, ty, Nat.reduceLeDiff, Nat.reduceMul, Nat.reduceSub, vzr, m805, strOp, Int.reduceBEq, Int.reduceBNe, k4', k8', n4', n8', hc', k1', e]
          · have k2' : (k == 2) = false := by simpa using k2
            rw [if_neg k2]
            by_cases k3 : k = 3
            · subst k3
              have e := F120_eq hs
              simp only [vmr, vmw, vmp, vza, ↓reduceIte, Nat.reduceBEq, Nat.reduceLT, Nat.reduceAdd, Nat.reduceEqDiff, reduceCtorEq, vmt, vzb, vzc, vlen, vleaf, velems, oks, vst, vmd, ty, Nat.reduceLeDiff, Nat.reduceMul, Nat.reduceSub, vzr, m805, strOp, Int.reduceBEq, Int.reduceBNe, k4', k8', n4', n8', hc', k1', k2', e]
            · have k3' : (k == 3) = false := by simpa using k3
              rw [if_neg k3]
              have e := F121_eq hs
              rw [Bool.and_comm] at e
              by_cases kv : k = 5 ∨ k = 6 ∨ k = 7
              · rw [if_pos kv]
                rcases kv with rfl | rfl | rfl <;> simp only [vmr, vmw, vmp, vza, ↓reduceIte, Nat.reduceBEq, Nat.reduceLT, Nat.reduceAdd, Nat.reduceEqDiff, reduceCtorEq, vmt, vzb, vzc, vlen, vleaf, velems, oks, vst, vmd, ty, Nat.reduceLeDiff, Nat.reduceMul, Nat.reduceSub, vzr, m805, strOp, Int.reduceBEq, Int.reduceBNe, k4', k8', n4', n8', hc', k1', k2', k3', e]
              · rw [if_neg kv]
                have k5' : (k == 5) = false := by simp; omega
                have k6' : (k == 6) = false := by simp; omega
                have k7' : (k == 7) = false := by simp; omega
                simp only [vmr, vmw, vmp, vza, ↓reduceIte, Nat.reduceBEq, Nat.reduceLT, Nat.reduceAdd, Nat.reduceEqDiff, reduceCtorEq, vmt, vzb, vzc, vlen, vleaf, velems, oks, vst, vmd, ty, Nat.reduceLeDiff, Nat.reduceMul, Nat.reduceSub, vzr, m805, strOp, Int.reduceBEq, Int.reduceBNe, k4', k8', n4', n8', hc', k1', k2', k3', k5', k6', k7']
      · have hc' : ((c.length : Int) > 0) = True := by rw [kids_len]; simp [hc]
        rw [if_pos hc]
        simp only [vmr, vmw, vmp, vza, ↓reduceIte, Nat.reduceBEq, Nat.reduceLT, Nat.reduceAdd, Nat.reduceEqDiff, reduceCtorEq, vmt, vzb, vzc, vlen, vleaf, velems, oks, vst, vmd, ty, Nat.reduceLeDiff, Nat.reduceMul, Nat.reduceSub, vzr, m805, strOp, Int.reduceBEq, Int.reduceBNe, k4', k8', n4', n8', hc']
noncomputable def Fright : List V → Option V := hF (α := Int × List UInt8 × List Tm) (fun p => [.agg [I p.1, .str p.2.1, Ts p.2.2]]) (fun p => p.2.1.length ≤ 1000000000000000) (fun p => .bool (rightB p.1 p.2.1 p.2.2))
theorem Fright_eq {k : Int} {s : List UInt8} {c : List Tm} (hs : s.length ≤ 1000000000000000) : Fright [.agg [I k, .str s, Ts c]] = some (.bool (rightB k s c)) :=
  hF_eq (a := (k, s, c)) (fun a b h => by
    injection h with h
    injection h with h
    injection h with h1 h2
    injection h2 with h2 h3
    injection h3 with h3
    exact Prod.ext (I_inj h1) (Prod.ext (Str_inj h2) (Ts_inj h3))) (by show [V.agg [I k, .str s, can (Ts c)]] = _; rw [can_Ts]) hs
theorem F63_sound : ∀ args v, Fright args = some v → SoundPure Tryz.prog 81 args (.ret v) := hF_sound fun p hp => w63 p.1 p.2.1 p.2.2 hp
theorem F105_sound : ∀ args v, Fright args = some v → SoundPure Tryz.prog 109 args (.ret v) := hF_sound fun p hp => w105 p.1 p.2.1 p.2.2 hp
end Go.Vi
set_option maxRecDepth 100000
set_option maxHeartbeats 1000000
namespace Go.Vi
open Go Go.Proofs
mutual
def dpt : Tm → Nat
  | .mk k _ c => if k = 4 ∨ k = 8 ∨ c ≠ [] then dps c + 1 else 0
def dps : List Tm → Nat
  | [] => 0
  | x :: r => max (dpt x) (dps r)
end
mutual
theorem dpt_le : ∀ t, dpt t ≤ szt t
  | .mk k _ c => by have := dps_le c; simp only [dpt, szt]; split <;> omega
theorem dps_le : ∀ l, dps l ≤ szs l
  | [] => Nat.le_refl _
  | x :: r => by have := dpt_le x; have := dps_le r; simp only [dps, szs]; omega
end
theorem maxN (a b : Nat) : maxL (I a) [I b] = some (I (max a b : Nat)) := by
  simp only [maxL]
  by_cases h : a < b
  · simp only [show ((a : Int) < b) from by omega, if_true, decide_true, show max a b = b from by omega]
  · simp only [show ¬ ((a : Int) < b) from by omega, if_false, decide_false, show max a b = a from by omega]
    rfl
noncomputable def F66 (m : Nat) : List V → Option V := hF (α := List Tm) (fun p => [Ts p]) (fun p => szs p < m) (fun p => I (dps p))
theorem F66_eq {m : Nat} {a : List Tm} (h : szs a < m) : F66 m [Ts a] = some (I (dps a)) := hF_eq (a := a) (one_inj' fun _ _ => Ts_inj) (by simp only [cans, can_Ts]) h
noncomputable abbrev T766 (m : Nat) : List (FuncId × (List V → Option V)) := [(87, F66 m)]
def P766 (m n : Nat) (v : V) (r : Option (Ex × St)) : Prop := Fin (M766 (hand (T766 m)) n) [.tmp 2] r = some (.ret v)
theorem l766 {m n k} (a : List Tm) (hm : szs a ≤ m) (hb : szs a ≤ 1000000) {P : Option (Ex × St) → Prop} : ∀ r (i : Nat) (x : Nat) n' s, a.drop i = r → r.length < n' → x ≤ 1000000 → tget s.τ 6 = Ts a → tget s.τ 7 = I a.length → tget s.τ 8 = I i → tget s.τ 3 = I x →
    (∀ s', tget s'.τ 3 = I (max x (dps r) : Nat) → P (X (M766 (hand (T766 m)) n) (.exit 0) k s')) →
    P (L (M766 (hand (T766 m)) n) (sub [1, 1, 0, 1, 0, 0] c766) n' k s)
  | [], i, x, n' + 1, s, ha, hn, hx, h6, h7, h8, h3, hk => by
    have hc := inlt (drop_nil' ha)
    rw [L_succ]
    simp only [vmr, vmw, vmp, vza, ↓reduceIte, Nat.reduceBEq, Nat.reduceLT, Nat.reduceAdd, Nat.reduceEqDiff, reduceCtorEq, vmt, vzb, vzc, vlen, vleaf, velems, oks, vst, vmd, ty, Nat.reduceLeDiff, Nat.reduceMul, Nat.reduceSub, c766, Tryz.f87, m766, h6, h7, h8, hc]
    refine hk _ ?_
    simp only [vmr, vmw, vmp, vza, ↓reduceIte, Nat.reduceBEq, Nat.reduceLT, Nat.reduceAdd, Nat.reduceEqDiff, reduceCtorEq, vmt, vzb, vzc, vlen, vleaf, velems, oks, vst, vmd, ty, Nat.reduceLeDiff, Nat.reduceMul, Nat.reduceSub, m766, h3, dps, Nat.max_zero]
  | .mk k1 s1 c1 :: r, i, x, n' + 1, s, ha, hn, hx, h6, h7, h8, h3, hk => by
    obtain ⟨g1, g2, g3⟩ := drop_cons ha
    have hcl := ilt g3
    have ga : (a.map tv)[i]? = some (.agg [I k1, .str s1, Ts c1]) := by rw [List.getElem?_map, g1, Option.map_some, tv_mk]
    have hs := szs_mem (l := a) (List.mem_of_getElem? g1)
    have hd := dps_le c1
    have e := F66_eq (m := m) (a := c1) (by omega)
    have hla := szs_len a
    have w1 : IntKind.i64.wrap (1 + (dps c1 : Int)) = ((dps c1 + 1 : Nat) : Int) := by rw [wrap_id] <;> omega
    have w4 := wsuc g3 (by omega)
    have hk1 := kids_len c1
    have ih := fun x s => l766 (m := m) (n := n) (k := k) (P := P) a hm hb r (i + 1) x n' s g2 (by simp at hn; omega)
    simp only [sub, c766, Tryz.f87, gets] at ih
    rw [L_succ]
    have no : ∀ (q : ¬ (k1 = 4 ∨ k1 = 8 ∨ c1 ≠ [])), max x (dps (.mk k1 s1 c1 :: r)) = max x (dps r) := fun q => by simp only [dps, dpt, if_neg q]; omega
    have yes : ∀ (q : k1 = 4 ∨ k1 = 8 ∨ c1 ≠ []), max x (dps (.mk k1 s1 c1 :: r)) = max (max x (dps c1 + 1)) (dps r) := fun q => by simp only [dps, dpt, if_pos q]; omega
    by_cases k4 : k1 = 4
    · have k4' : (k1 == 4) = true := by simpa using k4
      have yes := yes (.inl k4)
      simp only [vmr, vmw, vmp, vza, ↓reduceIte, Nat.reduceBEq, Nat.reduceLT, Nat.reduceAdd, Nat.reduceEqDiff, reduceCtorEq, vmt, vzb, vzc, vlen, vleaf, velems, oks, vst, vmd, ty, Nat.reduceLeDiff, Nat.reduceMul, Nat.reduceSub, c766, Tryz.f87, m766, h6, h7, h8, hcl, ga, h3, k4', e, w1, maxN, w4]
      refine ih _ _ ?_ ?_ ?_ ?_ ?_ (fun s' h => hk s' (by rw [yes]; exact h))
      case refine_1 => omega
      all_goals simp only [vmr, vmw, vmp, vza, ↓reduceIte, Nat.reduceBEq, Nat.reduceLT, Nat.reduceAdd, Nat.reduceEqDiff, reduceCtorEq, vmt, vzb, vzc, vlen, vleaf, velems, oks, vst, vmd, ty, Nat.reduceLeDiff, Nat.reduceMul, Nat.reduceSub, m766, h6, h7]
    · have k4' : (k1 == 4) = false := by simpa using k4
      by_cases k8 : k1 = 8
      · have k8' : (k1 == 8) = true := by simpa using k8
        have yes := yes (.inr (.inl k8))
        simp only [vmr, vmw, vmp, vza, ↓reduceIte, Nat.reduceBEq, Nat.reduceLT, Nat.reduceAdd, Nat.reduceEqDiff, reduceCtorEq, vmt, vzb, vzc, vlen, vleaf, velems, oks, vst, vmd, ty, Nat.reduceLeDiff, Nat.reduceMul, Nat.reduceSub, c766, Tryz.f87, m766, h6, h7, h8, hcl, ga, h3, k4', k8', e, w1, maxN, w4]
        refine ih _ _ ?_ ?_ ?_ ?_ ?_ (fun s' h => hk s' (by rw [yes]; exact h))
        case refine_1 => omega
        all_goals simp only [vmr, vmw, vmp, vza, ↓reduceIte, Nat.reduceBEq, Nat.reduceLT, Nat.reduceAdd, Nat.reduceEqDiff, reduceCtorEq, vmt, vzb, vzc, vlen, vleaf, velems, oks, vst, vmd, ty, Nat.reduceLeDiff, Nat.reduceMul, Nat.reduceSub, m766, h6, h7]
      · have k8' : (k1 == 8) = false := by simpa using k8
        by_cases hc : c1 = []
        · have hc' : ((c1.length : Int) > 0) = False := by rw [hk1]; simp [hc]
          have no := no (by simp [k4, k8, hc])
          simp only [vmr, vmw, vmp, vza, ↓reduceIte, Nat.reduceBEq, Nat.reduceLT, Nat.reduceAdd, Nat.reduceEqDiff, reduceCtorEq, vmt, vzb, vzc, vlen, vleaf, velems, oks, vst, vmd, ty, Nat.reduceLeDiff, Nat.reduceMul, Nat.reduceSub, c766, Tryz.f87, m766, h6, h7, h8, hcl, ga, h3, k4', k8', hc', w4]
          refine ih _ _ hx ?_ ?_ ?_ ?_ (fun s' h => hk s' (by rw [no]; exact h))
          all_goals simp only [vmr, vmw, vmp, vza, ↓reduceIte, Nat.reduceBEq, Nat.reduceLT, Nat.reduceAdd, Nat.reduceEqDiff, reduceCtorEq, vmt, vzb, vzc, vlen, vleaf, velems, oks, vst, vmd, ty, Nat.reduceLeDiff, Nat.reduceMul, Nat.reduceSub, m766, h6, h7, h3]
        · have hc' : ((c1.length : Int) > 0) = True := by rw [hk1]; simp [hc]
          have yes := yes (.inr (.inr hc))
          simp only [vmr, vmw, vmp, vza, ↓reduceIte, Nat.reduceBEq, Nat.reduceLT, Nat.reduceAdd, Nat.reduceEqDiff, reduceCtorEq, vmt, vzb, vzc, vlen, vleaf, velems, oks, vst, vmd, ty, Nat.reduceLeDiff, Nat.reduceMul, Nat.reduceSub, c766, Tryz.f87, m766, h6, h7, h8, hcl, ga, h3, k4', k8', hc', e, w1, maxN, w4]
          refine ih _ _ ?_ ?_ ?_ ?_ ?_ (fun s' h => hk s' (by rw [yes]; exact h))
          case refine_1 => omega
          all_goals simp only [vmr, vmw, vmp, vza, ↓reduceIte, Nat.reduceBEq, Nat.reduceLT, Nat.reduceAdd, Nat.reduceEqDiff, reduceCtorEq, vmt, vzb, vzc, vlen, vleaf, velems, oks, vst, vmd, ty, Nat.reduceLeDiff, Nat.reduceMul, Nat.reduceSub, m766, h6, h7]
theorem w66 : ∀ (m : Nat) (a : List Tm), szs a ≤ m → szs a ≤ 1000000 → SoundPure Tryz.prog 87 [Ts a] (.ret (I (dps a))) := by
  intro m
  induction m using Nat.strongRecOn with
  | ind m IH =>
  intro a hm hb
  have hH : SoundHand Tryz.prog (hand (T766 (szs a))) := sound_cons (hF_sound fun p hp => IH (szs p) (by omega) p (Nat.le_refl _) (by omega)) sound_nil
  refine s766 hH (a.length + 1) (by simp) rfl ?_
  show P766 (szs a) _ _ _
  have a1 := fun k s => @l766 (szs a) (a.length + 1) k a (Nat.le_refl _) hb (P766 (szs a) (a.length + 1) (I (dps a))) a 0 0 (a.length + 1) s rfl (by omega) (by omega)
  simp only [c766, Tryz.f87, gets, sub] at a1 ⊢
  simp only [vmr, vmw, vmp, vza, ↓reduceIte, Nat.reduceBEq, Nat.reduceLT, Nat.reduceAdd, Nat.reduceEqDiff, reduceCtorEq, vmt, vzb, vzc, vlen, vleaf, velems, oks, vst, vmd, ty, Nat.reduceLeDiff, Nat.reduceMul, Nat.reduceSub, m766]
  refine a1 _ _ ?_ ?_ ?_ ?_ (fun s' h => ?_)
  case refine_5 =>
    simp only [vmr, vmw, vmp, vza, ↓reduceIte, Nat.reduceBEq, Nat.reduceLT, Nat.reduceAdd, Nat.reduceEqDiff, reduceCtorEq, vmt, vzb, vzc, vlen, vleaf, velems, oks, vst, vmd, ty, Nat.reduceLeDiff, Nat.reduceMul, Nat.reduceSub, m766, h, Nat.zero_max]
    unfold P766
    simp only [vmr, vmw, vmp, vza, ↓reduceIte, Nat.reduceBEq, Nat.reduceLT, Nat.reduceAdd, Nat.reduceEqDiff, reduceCtorEq, vmt, vzb, vzc, vlen, vleaf, velems, oks, vst, vmd, ty, Nat.reduceLeDiff, Nat.reduceMul, Nat.reduceSub, vzr, m766]
  all_goals simp only [vmr, vmw, vmp, vza, ↓reduceIte, Nat.reduceBEq, Nat.reduceLT, Nat.reduceAdd, Nat.reduceEqDiff, reduceCtorEq, vmt, vzb, vzc, vlen, vleaf, velems, oks, vst, vmd, ty, Nat.reduceLeDiff, Nat.reduceMul, Nat.reduceSub, m766]
noncomputable def Fdps : List V → Option V := hF (α := List Tm) (fun p => [Ts p]) (fun p => szs p ≤ 1000000) (fun p => I (dps p))
theorem Fdps_eq {a : List Tm} (h : szs a ≤ 1000000) : Fdps [Ts a] = some (I (dps a)) := hF_eq (a := a) (one_inj' fun _ _ => Ts_inj) (by simp only [cans, can_Ts]) h
theorem F66_sound : ∀ args v, Fdps args = some v → SoundPure Tryz.prog 87 args (.ret v) := hF_sound fun p hp => w66 _ p (Nat.le_refl _) hp
noncomputable def F86 (m : Nat) : List V → Option V := hF (α := List Tm) (fun p => [Ts p]) (fun p => szs p < m) (fun p => .tup [I (szs p), I (dps p)])
theorem F86_eq {m : Nat} {a : List Tm} (h : szs a < m) : F86 m [Ts a] = some (.tup [I (szs a), I (dps a)]) := hF_eq (a := a) (one_inj' fun _ _ => Ts_inj) (by simp only [cans, can_Ts]) h
noncomputable abbrev T786 (m : Nat) : List (FuncId × (List V → Option V)) := [(90, F86 m)]
def P786 (m n : Nat) (v : V) (r : Option (Ex × St)) : Prop := Fin (M786 (hand (T786 m)) n) [.tmp 2, .tmp 3] r = some (.ret v)
theorem l786 {m n k} (a : List Tm) (hm : szs a ≤ m) (hb : szs a ≤ 1000000) {P : Option (Ex × St) → Prop} : ∀ r (i : Nat) (y x : Nat) n' s, a.drop i = r → r.length < n' → x ≤ 1000000 → y + szs r ≤ 1000000 → tget s.τ 0 = Ts a → tget s.τ 6 = I i → tget s.τ 4 = I y → tget s.τ 5 = I x →
    (∀ s', tget s'.τ 4 = I (y + szs r : Nat) → tget s'.τ 5 = I (max x (dps r) : Nat) → P (X (M786 (hand (T786 m)) n) (.exit 0) k s')) →
    P (L (M786 (hand (T786 m)) n) (sub [1, 1, 0, 1, 0, 0] c786) n' k s)
  | [], i, y, x, n' + 1, s, ha, hn, hx, hy, h0, h6, h4, h5, hk => by
    have hc := inlt (drop_nil' ha)
    rw [L_succ]
    simp only [vmr, vmw, vmp, vza, ↓reduceIte, Nat.reduceBEq, Nat.reduceLT, Nat.reduceAdd, Nat.reduceEqDiff, reduceCtorEq, vmt, vzb, vzc, vlen, vleaf, velems, oks, vst, vmd, ty, Nat.reduceLeDiff, Nat.reduceMul, Nat.reduceSub, c786, Tryz.f90, m786, h0, h6, hc]
    refine hk _ ?_ ?_
    all_goals simp only [vmr, vmw, vmp, vza, ↓reduceIte, Nat.reduceBEq, Nat.reduceLT, Nat.reduceAdd, Nat.reduceEqDiff, reduceCtorEq, vmt, vzb, vzc, vlen, vleaf, velems, oks, vst, vmd, ty, Nat.reduceLeDiff, Nat.reduceMul, Nat.reduceSub, m786, h4, h5, dps, szs, Nat.max_zero, Nat.add_zero]
  | .mk k1 s1 c1 :: r, i, y, x, n' + 1, s, ha, hn, hx, hy, h0, h6, h4, h5, hk => by
    obtain ⟨g1, g2, g3⟩ := drop_cons ha
    have hcl := ilt g3
    have ga : (a.map tv)[i]? = some (.agg [I k1, .str s1, Ts c1]) := by rw [List.getElem?_map, g1, Option.map_some, tv_mk]
    have hs := szs_mem (l := a) (List.mem_of_getElem? g1)
    have hd := dps_le c1
    have e := F86_eq (m := m) (a := c1) (by omega)
    have hla := szs_len a
    have hy' : y + (szs c1 + 1) + szs r ≤ 1000000 := by simp only [szs, szt] at hy; omega
    have w1 : IntKind.i64.wrap ((dps c1 : Int) + 1) = ((dps c1 + 1 : Nat) : Int) := by rw [wrap_id] <;> omega
    have w2 : IntKind.i64.wrap ((y : Int) + (szs c1 : Int)) = ((y + szs c1 : Nat) : Int) := by rw [wrap_id] <;> omega
    have w3 : IntKind.i64.wrap (((y + szs c1 : Nat) : Int) + 1) = ((y + (szs c1 + 1) : Nat) : Int) := by rw [wrap_id] <;> omega
    have w4 := wsuc g3 (by omega)
    have hk1 := kids_len c1
    have ih := fun y x s => l786 (m := m) (n := n) (k := k) (P := P) a hm hb r (i + 1) y x n' s g2 (by simp at hn; omega)
    simp only [sub, c786, Tryz.f90, gets] at ih
    rw [L_succ]
    have ey : y + szs (.mk k1 s1 c1 :: r) = y + (szs c1 + 1) + szs r := by simp only [szs, szt]; omega
    have no : ∀ (q : ¬ (k1 = 4 ∨ k1 = 8 ∨ c1 ≠ [])), max x (dps (.mk k1 s1 c1 :: r)) = max (max x (dps c1)) (dps r) := fun q => by
      have : c1 = [] := Classical.byContradiction fun h => q (.inr (.inr h))
      subst this
      simp only [dps, dpt, if_neg q]; omega
    have yes : ∀ (q : k1 = 4 ∨ k1 = 8 ∨ c1 ≠ []), max x (dps (.mk k1 s1 c1 :: r)) = max (max x (dps c1 + 1)) (dps r) := fun q => by simp only [dps, dpt, if_pos q]; omega
    rw [ey] at hk
    by_cases k4 : k1 = 4
    · have k4' : (k1 == 4) = true := by simpa using k4
      have yes := yes (.inl k4)
      simp only [vmr, vmw, vmp, vza, ↓reduceIte, Nat.reduceBEq, Nat.reduceLT, Nat.reduceAdd, Nat.reduceEqDiff, reduceCtorEq, vmt, vzb, vzc, vlen, vleaf, velems, oks, vst, vmd, ty, Nat.reduceLeDiff, Nat.reduceMul, Nat.reduceSub, c786, Tryz.f90, m786, h0, h6, hcl, ga, h4, h5, k4', e, w1, w2, w3, maxN, w4]
      refine ih _ _ _ ?_ ?_ ?_ ?_ ?_ ?_ (fun s' h h' => hk s' h (by rw [yes]; exact h'))
      case refine_1 => omega
      case refine_2 => omega
      all_goals simp only [vmr, vmw, vmp, vza, ↓reduceIte, Nat.reduceBEq, Nat.reduceLT, Nat.reduceAdd, Nat.reduceEqDiff, reduceCtorEq, vmt, vzb, vzc, vlen, vleaf, velems, oks, vst, vmd, ty, Nat.reduceLeDiff, Nat.reduceMul, Nat.reduceSub, m786, h0]
    · have k4' : (k1 == 4) = false := by simpa using k4
      by_cases k8 : k1 = 8
      · have k8' : (k1 == 8) = true := by simpa using k8
        have yes := yes (.inr (.inl k8))
        simp only [vmr, vmw, vmp, vza, ↓reduceIte, Nat.reduceBEq, Nat.reduceLT, Nat.reduceAdd, Nat.reduceEqDiff, reduceCtorEq, vmt, vzb, vzc, vlen, vleaf, velems, oks, vst, vmd, ty, Nat.reduceLeDiff, Nat.reduceMul, Nat.reduceSub, c786, Tryz.f90, m786, h0, h6, hcl, ga, h4, h5, k4', k8', e, w1, w2, w3, maxN, w4]
        refine ih _ _ _ ?_ ?_ ?_ ?_ ?_ ?_ (fun s' h h' => hk s' h (by rw [yes]; exact h'))
        case refine_1 => omega
        case refine_2 => omega
        all_goals simp only [vmr, vmw, vmp, vza, ↓reduceIte, Nat.reduceBEq, Nat.reduceLT, Nat.reduceAdd, Nat.reduceEqDiff, reduceCtorEq, vmt, vzb, vzc, vlen, vleaf, velems, oks, vst, vmd, ty, Nat.reduceLeDiff, Nat.reduceMul, Nat.reduceSub, m786, h0]
      · have k8' : (k1 == 8) = false := by simpa using k8
        by_cases hc : c1 = []
        · have hc' : ((c1.length : Int) > 0) = False := by rw [hk1]; simp [hc]
          have no := no (by simp [k4, k8, hc])
          simp only [vmr, vmw, vmp, vza, ↓reduceIte, Nat.reduceBEq, Nat.reduceLT, Nat.reduceAdd, Nat.reduceEqDiff, reduceCtorEq, vmt, vzb, vzc, vlen, vleaf, velems, oks, vst, vmd, ty, Nat.reduceLeDiff, Nat.reduceMul, Nat.reduceSub, c786, Tryz.f90, m786, h0, h6, hcl, ga, h4, h5, k4', k8', hc', e, w1, w2, w3, maxN, w4]
          refine ih _ _ _ ?_ ?_ ?_ ?_ ?_ ?_ (fun s' h h' => hk s' h (by rw [no]; exact h'))
          case refine_1 => omega
          case refine_2 => omega
          all_goals simp only [vmr, vmw, vmp, vza, ↓reduceIte, Nat.reduceBEq, Nat.reduceLT, Nat.reduceAdd, Nat.reduceEqDiff, reduceCtorEq, vmt, vzb, vzc, vlen, vleaf, velems, oks, vst, vmd, ty, Nat.reduceLeDiff, Nat.reduceMul, Nat.reduceSub, m786, h0]
        · have hc' : ((c1.length : Int) > 0) = True := by rw [hk1]; simp [hc]
          have yes := yes (.inr (.inr hc))
          simp only [vmr, vmw, vmp, vza, ↓reduceIte, Nat.reduceBEq, Nat.reduceLT, Nat.reduceAdd, Nat.reduceEqDiff, reduceCtorEq, vmt, vzb, vzc, vlen, vleaf, velems, oks, vst, vmd, ty, Nat.reduceLeDiff, Nat.reduceMul, Nat.reduceSub, c786, Tryz.f90, m786, h0, h6, hcl, ga, h4, h5, k4', k8', hc', e, w1, w2, w3, maxN, w4]
          refine ih _ _ _ ?_ ?_ ?_ ?_ ?_ ?_ (fun s' h h' => hk s' h (by rw [yes]; exact h'))
          case refine_1 => omega
          case refine_2 => omega
          all_goals simp only [vmr, vmw, vmp, vza, ↓reduceIte, Nat.reduceBEq, Nat.reduceLT, Nat.reduceAdd, Nat.reduceEqDiff, reduceCtorEq, vmt, vzb, vzc, vlen, vleaf, velems, oks, vst, vmd, ty, Nat.reduceLeDiff, Nat.reduceMul, Nat.reduceSub, m786, h0]
theorem w86 : ∀ (m : Nat) (a : List Tm), szs a ≤ m → szs a ≤ 1000000 → SoundPure Tryz.prog 90 [Ts a] (.ret (.tup [I (szs a), I (dps a)])) := by
  intro m
  induction m using Nat.strongRecOn with
  | ind m IH =>
  intro a hm hb
  have hH : SoundHand Tryz.prog (hand (T786 (szs a))) := sound_cons (hF_sound fun p hp => IH (szs p) (by omega) p (Nat.le_refl _) (by omega)) sound_nil
  refine s786 hH (a.length + 1) (by simp) rfl ?_
  show P786 (szs a) _ _ _
  have a1 := fun k s => @l786 (szs a) (a.length + 1) k a (Nat.le_refl _) hb (P786 (szs a) (a.length + 1) (.tup [I (szs a), I (dps a)])) a 0 0 0 (a.length + 1) s rfl (by omega) (by omega) (by omega)
  simp only [c786, Tryz.f90, gets, sub] at a1 ⊢
  simp only [vmr, vmw, vmp, vza, ↓reduceIte, Nat.reduceBEq, Nat.reduceLT, Nat.reduceAdd, Nat.reduceEqDiff, reduceCtorEq, vmt, vzb, vzc, vlen, vleaf, velems, oks, vst, vmd, ty, Nat.reduceLeDiff, Nat.reduceMul, Nat.reduceSub, m786]
  refine a1 _ _ ?_ ?_ ?_ ?_ (fun s' h h' => ?_)
  case refine_5 =>
    simp only [vmr, vmw, vmp, vza, ↓reduceIte, Nat.reduceBEq, Nat.reduceLT, Nat.reduceAdd, Nat.reduceEqDiff, reduceCtorEq, vmt, vzb, vzc, vlen, vleaf, velems, oks, vst, vmd, ty, Nat.reduceLeDiff, Nat.reduceMul, Nat.reduceSub, m786, h, h', Nat.zero_max, Nat.zero_add]
    unfold P786
    simp only [vmr, vmw, vmp, vza, ↓reduceIte, Nat.reduceBEq, Nat.reduceLT, Nat.reduceAdd, Nat.reduceEqDiff, reduceCtorEq, vmt, vzb, vzc, vlen, vleaf, velems, oks, vst, vmd, ty, Nat.reduceLeDiff, Nat.reduceMul, Nat.reduceSub, vzr, m786]
  all_goals simp only [vmr, vmw, vmp, vza, ↓reduceIte, Nat.reduceBEq, Nat.reduceLT, Nat.reduceAdd, Nat.reduceEqDiff, reduceCtorEq, vmt, vzb, vzc, vlen, vleaf, velems, oks, vst, vmd, ty, Nat.reduceLeDiff, Nat.reduceMul, Nat.reduceSub, m786]
noncomputable def Fsize : List V → Option V := hF (α := List Tm) (fun p => [Ts p]) (fun p => szs p ≤ 1000000) (fun p => .tup [I (szs p), I (dps p)])
theorem Fsize_eq {a : List Tm} (h : szs a ≤ 1000000) : Fsize [Ts a] = some (.tup [I (szs a), I (dps a)]) := hF_eq (a := a) (one_inj' fun _ _ => Ts_inj) (by simp only [cans, can_Ts]) h
theorem F86_sound : ∀ args v, Fsize args = some v → SoundPure Tryz.prog 90 args (.ret v) := hF_sound fun p hp => w86 _ p (Nat.le_refl _) hp
end Go.Vi
set_option maxRecDepth 100000
set_option maxHeartbeats 1000000
namespace Go.Vi
open Go Go.Proofs
mutual
def txt1 : Tm → Prop
  | .mk _ s c => s.length ≤ 1000000000000000 ∧ txs c
def txs : List Tm → Prop
  | [] => True
  | x :: r => txt1 x ∧ txs r
end
theorem txs_mem : ∀ {l : List Tm} {t}, txs l → t ∈ l → txt1 t
  | x :: r, t, h, hm => by
    simp only [txs] at h
    rcases List.mem_cons.1 hm with rfl | hm
    · exact h.1
    · exact txs_mem h.2 hm
mutual
def fmt (most : Int) : Tm → Bool
  | .mk k s c => rightB k s c && decide (k ≤ most) && fms most c
def fms (most : Int) : List Tm → Bool
  | [] => true
  | x :: r => fmt most x && fms most r
end
noncomputable def F87 (m : Nat) : List V → Option V := hF (α := List Tm × Int) (fun p => [Ts p.1, I p.2]) (fun p => szs p.1 < m ∧ txs p.1) (fun p => .bool (fms p.2 p.1))
theorem F87_eq {m : Nat} {a : List Tm} {k : Int} (h : szs a < m) (ho : txs a) : F87 m [Ts a, I k] = some (.bool (fms k a)) := hF_eq (a := (a, k)) (two_inj (fun _ _ => Ts_inj) (fun _ _ => I_inj)) (by simp only [cans, can_Ts, canI]) ⟨h, ho⟩
noncomputable abbrev T787 (m : Nat) : List (FuncId × (List V → Option V)) := [(91, F87 m), (109, Fright)]
def P787 (m n : Nat) (v : V) (r : Option (Ex × St)) : Prop := Fin (M787 (hand (T787 m)) n) [.tmp 4] r = some (.ret v)
theorem l787 {m n k} {most : Int} (a : List Tm) (hm : szs a ≤ m) (hb : szs a ≤ 1000000) (ho : txs a) {P : Option (Ex × St) → Prop} : ∀ r (i : Nat) n' s, a.drop i = r → r.length < n' → tget s.τ 0 = Ts a → tget s.τ 1 = I most → tget s.τ 5 = I i →
    (∀ s', fms most r = true → P (X (M787 (hand (T787 m)) n) (.exit 0) k s')) → (∀ s', fms most r = false → tget s'.τ 4 = .bool false → P (some (.ret, s'))) →
    P (L (M787 (hand (T787 m)) n) (sub [1, 0, 1, 0, 0] c787) n' k s)
  | [], i, n' + 1, s, ha, hn, h0, h1, h5, hk, hf => by
    have hc := inlt (drop_nil' ha)
    rw [L_succ]
    simp only [vmr, vmw, vmp, vza, ↓reduceIte, Nat.reduceBEq, Nat.reduceLT, Nat.reduceAdd, Nat.reduceEqDiff, reduceCtorEq, vmt, vzb, vzc, vlen, vleaf, velems, oks, vst, vmd, ty, Nat.reduceLeDiff, Nat.reduceMul, Nat.reduceSub, c787, Tryz.f91, m787, h0, h5, hc]
    exact hk _ rfl
  | .mk k1 s1 c1 :: r, i, n' + 1, s, ha, hn, h0, h1, h5, hk, hf => by
    obtain ⟨g1, g2, g3⟩ := drop_cons ha
    have hcl := ilt g3
    have ga : (a.map tv)[i]? = some (.agg [I k1, .str s1, Ts c1]) := by rw [List.getElem?_map, g1, Option.map_some, tv_mk]
    have hs := szs_mem (l := a) (List.mem_of_getElem? g1)
    have hok := txs_mem ho (List.mem_of_getElem? g1)
    simp only [txt1] at hok
    have e := F87_eq (m := m) (a := c1) (k := most) (by omega) hok.2
    have e2 := Fright_eq (k := k1) (c := c1) hok.1
    have hla := szs_len a
    have w4 := wsuc g3 (by omega)
    have ih := fun s => l787 (m := m) (n := n) (k := k) (P := P) (most := most) a hm hb ho r (i + 1) n' s g2 (by simp at hn; omega)
    simp only [sub, c787, Tryz.f91, gets] at ih
    rw [L_succ]
    have ef : fms most (.mk k1 s1 c1 :: r) = ((rightB k1 s1 c1 && decide (k1 ≤ most) && fms most c1) && fms most r) := rfl
    rw [ef] at hk hf
    cases q1 : rightB k1 s1 c1 with
    | false =>
      rw [q1] at e2
      simp only [vmr, vmw, vmp, vza, ↓reduceIte, Nat.reduceBEq, Nat.reduceLT, Nat.reduceAdd, Nat.reduceEqDiff, reduceCtorEq, vmt, vzb, vzc, vlen, vleaf, velems, oks, vst, vmd, ty, Nat.reduceLeDiff, Nat.reduceMul, Nat.reduceSub, c787, Tryz.f91, m787, h0, h1, h5, hcl, ga, e2, w4]
      refine hf _ (by rw [q1]; simp) ?_
      simp only [vmr, vmw, vmp, vza, ↓reduceIte, Nat.reduceBEq, Nat.reduceLT, Nat.reduceAdd, Nat.reduceEqDiff, reduceCtorEq, vmt, vzb, vzc, vlen, vleaf, velems, oks, vst, vmd, ty, Nat.reduceLeDiff, Nat.reduceMul, Nat.reduceSub, m787]
    | true =>
      rw [q1] at e2
      by_cases q2 : k1 > most
      · have q2' := eq_true q2
        simp only [vmr, vmw, vmp, vza, ↓reduceIte, Nat.reduceBEq, Nat.reduceLT, Nat.reduceAdd, Nat.reduceEqDiff, reduceCtorEq, vmt, vzb, vzc, vlen, vleaf, velems, oks, vst, vmd, ty, Nat.reduceLeDiff, Nat.reduceMul, Nat.reduceSub, c787, Tryz.f91, m787, h0, h1, h5, hcl, ga, e2, q2', w4]
        refine hf _ (by rw [decide_eq_false (show ¬ k1 ≤ most by omega)]; simp) ?_
        simp only [vmr, vmw, vmp, vza, ↓reduceIte, Nat.reduceBEq, Nat.reduceLT, Nat.reduceAdd, Nat.reduceEqDiff, reduceCtorEq, vmt, vzb, vzc, vlen, vleaf, velems, oks, vst, vmd, ty, Nat.reduceLeDiff, Nat.reduceMul, Nat.reduceSub, m787]
      · have q2' := eq_false q2
        have q3 := decide_eq_true (show k1 ≤ most by omega)
        cases q4 : fms most c1 with
        | false =>
          rw [q4] at e
          simp only [vmr, vmw, vmp, vza, ↓reduceIte, Nat.reduceBEq, Nat.reduceLT, Nat.reduceAdd, Nat.reduceEqDiff, reduceCtorEq, vmt, vzb, vzc, vlen, vleaf, velems, oks, vst, vmd, ty, Nat.reduceLeDiff, Nat.reduceMul, Nat.reduceSub, c787, Tryz.f91, m787, h0, h1, h5, hcl, ga, e2, q2', e, w4]
          refine hf _ (by rw [q4]; simp) ?_
          simp only [vmr, vmw, vmp, vza, ↓reduceIte, Nat.reduceBEq, Nat.reduceLT, Nat.reduceAdd, Nat.reduceEqDiff, reduceCtorEq, vmt, vzb, vzc, vlen, vleaf, velems, oks, vst, vmd, ty, Nat.reduceLeDiff, Nat.reduceMul, Nat.reduceSub, m787]
        | true =>
          rw [q4] at e
          simp only [vmr, vmw, vmp, vza, ↓reduceIte, Nat.reduceBEq, Nat.reduceLT, Nat.reduceAdd, Nat.reduceEqDiff, reduceCtorEq, vmt, vzb, vzc, vlen, vleaf, velems, oks, vst, vmd, ty, Nat.reduceLeDiff, Nat.reduceMul, Nat.reduceSub, c787, Tryz.f91, m787, h0, h1, h5, hcl, ga, e2, q2', e, w4]
          refine ih _ ?_ ?_ ?_ (fun s' h => hk s' ?_) (fun s' h => hf s' ?_)
          case refine_4 => rw [q1, q3, q4, h]; rfl
          case refine_5 => rw [q1, q3, q4, h]; rfl
          all_goals simp only [vmr, vmw, vmp, vza, ↓reduceIte, Nat.reduceBEq, Nat.reduceLT, Nat.reduceAdd, Nat.reduceEqDiff, reduceCtorEq, vmt, vzb, vzc, vlen, vleaf, velems, oks, vst, vmd, ty, Nat.reduceLeDiff, Nat.reduceMul, Nat.reduceSub, m787, h0, h1]
theorem w87 : ∀ (m : Nat) (a : List Tm) (most : Int), szs a ≤ m → szs a ≤ 1000000 → txs a → SoundPure Tryz.prog 91 [Ts a, I most] (.ret (.bool (fms most a))) := by
  intro m
  induction m using Nat.strongRecOn with
  | ind m IH =>
  intro a most hm hb ho
  have hH : SoundHand Tryz.prog (hand (T787 (szs a))) := sound_cons (hF_sound fun p hp => IH (szs p.1) (by omega) p.1 p.2 (Nat.le_refl _) (by omega) hp.2) (sound_cons F105_sound sound_nil)
  refine s787 hH (a.length + 1) (by simp) rfl ?_
  show P787 (szs a) _ _ _
  have a1 := fun k s => @l787 (szs a) (a.length + 1) k most a (Nat.le_refl _) hb ho (P787 (szs a) (a.length + 1) (.bool (fms most a))) a 0 (a.length + 1) s rfl (by omega)
  simp only [c787, Tryz.f91, gets, sub] at a1 ⊢
  simp only [vmr, vmw, vmp, vza, ↓reduceIte, Nat.reduceBEq, Nat.reduceLT, Nat.reduceAdd, Nat.reduceEqDiff, reduceCtorEq, vmt, vzb, vzc, vlen, vleaf, velems, oks, vst, vmd, ty, Nat.reduceLeDiff, Nat.reduceMul, Nat.reduceSub, m787]
  refine a1 _ _ ?_ ?_ ?_ (fun s' h => ?_) (fun s' h h' => ?_)
  case refine_4 =>
    rw [h]
    simp only [vmr, vmw, vmp, vza, ↓reduceIte, Nat.reduceBEq, Nat.reduceLT, Nat.reduceAdd, Nat.reduceEqDiff, reduceCtorEq, vmt, vzb, vzc, vlen, vleaf, velems, oks, vst, vmd, ty, Nat.reduceLeDiff, Nat.reduceMul, Nat.reduceSub, m787]
    unfold P787
    simp only [vmr, vmw, vmp, vza, ↓reduceIte, Nat.reduceBEq, Nat.reduceLT, Nat.reduceAdd, Nat.reduceEqDiff, reduceCtorEq, vmt, vzb, vzc, vlen, vleaf, velems, oks, vst, vmd, ty, Nat.reduceLeDiff, Nat.reduceMul, Nat.reduceSub, vzr, m787]
  case refine_5 =>
    rw [h]
    unfold P787
    simp only [vmr, vmw, vmp, vza, ↓reduceIte, Nat.reduceBEq, Nat.reduceLT, Nat.reduceAdd, Nat.reduceEqDiff, reduceCtorEq, vmt, vzb, vzc, vlen, vleaf, velems, oks, vst, vmd, ty, Nat.reduceLeDiff, Nat.reduceMul, Nat.reduceSub, vzr, m787, h']
  all_goals simp only [vmr, vmw, vmp, vza, ↓reduceIte, Nat.reduceBEq, Nat.reduceLT, Nat.reduceAdd, Nat.reduceEqDiff, reduceCtorEq, vmt, vzb, vzc, vlen, vleaf, velems, oks, vst, vmd, ty, Nat.reduceLeDiff, Nat.reduceMul, Nat.reduceSub, m787]
noncomputable def Fform : List V → Option V := hF (α := List Tm × Int) (fun p => [Ts p.1, I p.2]) (fun p => szs p.1 ≤ 1000000 ∧ txs p.1) (fun p => .bool (fms p.2 p.1))
theorem Fform_eq {a : List Tm} {k : Int} (h : szs a ≤ 1000000) (ho : txs a) : Fform [Ts a, I k] = some (.bool (fms k a)) := hF_eq (a := (a, k)) (two_inj (fun _ _ => Ts_inj) (fun _ _ => I_inj)) (by simp only [cans, can_Ts, canI]) ⟨h, ho⟩
def errB (most : Int) (a : List Tm) : Int := if szs a > 4000 then 5 else if dps a > 100 then 6 else if fms most a = true then 0 else 2
theorem w57 (a : List Tm) (most : Int) (hb : szs a ≤ 1000000) (ho : txs a) : SoundPure Tryz.prog 64 [Ts a, I most] (.ret (I (errB most a))) := by
  refine s757 (H := [(90, Fsize), (91, Fform)]) (sound_cons F86_sound (sound_cons (hF_sound fun p hp => w87 _ p.1 p.2 (Nat.le_refl _) hp.1 hp.2) sound_nil)) 1 (by simp) rfl ?_
  simp only [c757, Tryz.f64, gets, sub]
  have e := Fsize_eq hb
  have e2 := Fform_eq (k := most) hb ho
  unfold errB
  by_cases q1 : szs a > 4000
  · have q1' : ((szs a : Int) > 4000) = True := eq_true (by omega)
    rw [if_pos q1]
    simp only [vmr, vmw, vmp, vza, ↓reduceIte, Nat.reduceBEq, Nat.reduceLT, Nat.reduceAdd, Nat.reduceEqDiff, reduceCtorEq, vmt, vzb, vzc, vlen, vleaf, velems, oks, vst, vmd, ty, Nat.reduceLeDiff, Nat.reduceMul, Nat.reduceSub, vzr, m757, e, q1']
  · have q1' : ((szs a : Int) > 4000) = False := eq_false (by omega)
    rw [if_neg q1]
    by_cases q2 : dps a > 100
    · have q2' : ((dps a : Int) > 100) = True := eq_true (by omega)
      rw [if_pos q2]
      simp only [vmr, vmw, vmp, vza, ↓reduceIte, Nat.reduceBEq, Nat.reduceLT, Nat.reduceAdd, Nat.reduceEqDiff, reduceCtorEq, vmt, vzb, vzc, vlen, vleaf, velems, oks, vst, vmd, ty, Nat.reduceLeDiff, Nat.reduceMul, Nat.reduceSub, vzr, m757, e, q1', q2']
    · have q2' : ((dps a : Int) > 100) = False := eq_false (by omega)
      rw [if_neg q2]
      cases q3 : fms most a with
      | false =>
        rw [q3] at e2
        simp only [vmr, vmw, vmp, vza, ↓reduceIte, Nat.reduceBEq, Nat.reduceLT, Nat.reduceAdd, Nat.reduceEqDiff, reduceCtorEq, vmt, vzb, vzc, vlen, vleaf, velems, oks, vst, vmd, ty, Nat.reduceLeDiff, Nat.reduceMul, Nat.reduceSub, vzr, m757, e, q1', q2', e2, Bool.false_eq_true, if_false]
      | true =>
        rw [q3] at e2
        simp only [vmr, vmw, vmp, vza, ↓reduceIte, Nat.reduceBEq, Nat.reduceLT, Nat.reduceAdd, Nat.reduceEqDiff, reduceCtorEq, vmt, vzb, vzc, vlen, vleaf, velems, oks, vst, vmd, ty, Nat.reduceLeDiff, Nat.reduceMul, Nat.reduceSub, vzr, m757, e, q1', q2', e2, if_true]
noncomputable def Ferr : List V → Option V := hF (α := List Tm × Int) (fun p => [Ts p.1, I p.2]) (fun p => szs p.1 ≤ 1000000 ∧ txs p.1) (fun p => I (errB p.2 p.1))
theorem Ferr_eq {a : List Tm} {k : Int} (h : szs a ≤ 1000000) (ho : txs a) : Ferr [Ts a, I k] = some (I (errB k a)) := hF_eq (a := (a, k)) (two_inj (fun _ _ => Ts_inj) (fun _ _ => I_inj)) (by simp only [cans, can_Ts, canI]) ⟨h, ho⟩
theorem F57_sound : ∀ args v, Ferr args = some v → SoundPure Tryz.prog 64 args (.ret v) := hF_sound fun p hp => w57 p.1 p.2 hp.1 hp.2
theorem w31 (a : List Tm) (hb : szs a ≤ 1000000) (ho : txs a) : SoundPure Tryz.prog 33 [Ts a] (.ret (I (errB 8 a))) := by
  refine s731 (H := [(64, Ferr)]) (sound_cons F57_sound sound_nil) 1 (by simp) rfl ?_
  simp only [c731, Tryz.f33, gets, sub]
  have e := Ferr_eq (k := 8) hb ho
  simp only [vmr, vmw, vmp, vza, ↓reduceIte, Nat.reduceBEq, Nat.reduceLT, Nat.reduceAdd, Nat.reduceEqDiff, reduceCtorEq, vmt, vzb, vzc, vlen, vleaf, velems, oks, vst, vmd, ty, Nat.reduceLeDiff, Nat.reduceMul, Nat.reduceSub, vzr, m731, e]
noncomputable def Fres : List V → Option V := hF (α := List Tm) (fun p => [Ts p]) (fun p => szs p ≤ 1000000 ∧ txs p) (fun p => I (errB 8 p))
theorem Fres_eq {a : List Tm} (h : szs a ≤ 1000000) (ho : txs a) : Fres [Ts a] = some (I (errB 8 a)) := hF_eq (a := a) (one_inj' fun _ _ => Ts_inj) (by simp only [cans, can_Ts]) ⟨h, ho⟩
theorem F31_sound : ∀ args v, Fres args = some v → SoundPure Tryz.prog 33 args (.ret v) := hF_sound fun p hp => w31 p hp.1 hp.2
end Go.Vi
set_option maxRecDepth 100000
set_option maxHeartbeats 1000000
namespace Go.Vi
open Go Go.Proofs
def CI (E : Env) (d : Nat) (s : St) : Option (COut × Nat × Heap) → Option Res
  | some (.ret v, c', O') => if shapeR v then some (.val (importV E d v (back E s c' O')).1 (importV E d v (back E s c' O')).2) else none
  | some (.pan v, c', O') => some (.pan v (back E s c' O'))
  | none => none
theorem callV_i {call : CallFn} {E : Env} {H : FuncId → Option (List V → Option V)} {d : Nat} {g : FuncId} {first caps args : List V} {s : St} (hg : E.ok.contains g = true) (hi : E.imp.contains g = true ∨ frzs E s (first ++ args ++ caps) = none) :
    callV call E H d (.fn (.func g) first caps) args s = CI E d s (call.fn g (first ++ args ++ caps) (E.lvl + 1) s.c (s.heap E)) := by
  unfold callV
  have hn : (if E.imp.contains g then none else frzs E s (first ++ args ++ caps)) = none := by
    rcases hi with h | h
    · rw [if_pos h]
    · rw [h]; split <;> rfl
  dsimp only
  rw [if_pos hg, hn]
  dsimp only
  cases call.fn g (first ++ args ++ caps) (E.lvl + 1) s.c (s.heap E) with
  | none => rfl
  | some q =>
    obtain ⟨o, c', O'⟩ := q
    cases o <;> rfl
theorem evF_at1 {C : Ctx} {g : FuncId} {fn : Func} {b : Code} {args : List V} {n lvl c r : Nat} {O : Heap} {s' : St} {v : V} (hf : C.P.funcs[g]? = some fn) (hb : fn.body = some b) (hl : args.length ≤ fn.ntmps) (hr : fn.results.toList = [.tmp r])
    (h : R ⟨evF C n, envOf C g fn lvl, C.hand, n⟩ b .top ⟨params 0 args, [], O, c⟩ = some (.norm, s') ∨ R ⟨evF C n, envOf C g fn lvl, C.hand, n⟩ b .top ⟨params 0 args, [], O, c⟩ = some (.ret, s')) (he : exports (envOf C g fn lvl) s' [tget s'.τ r] = some [v]) :
    (evF C (n + 1)).fn g args lvl c O = some (.ret v, s'.c, lower lvl s'.O) := by
  simp only [R, evM, K.back] at h
  unfold evF
  simp only [hf, hb, if_pos hl]
  rcases h with h | h <;> simp only [h, hr, resV, Option.map_some, Option.bind_some, he, tupV]
theorem RCl_yield {M : Mc} {k : K} {s : St} {ops : Array Oper} {d : Nat} {r : List Oper} {q : Key} {ver : Nat} {args : List V} {b : Bool} {c' : Nat} {O' : Heap} (hd : d < M.E.n) (h : M.call.rnd q ver args (M.E.lvl + 1) s.c (s.heap M.E) = some (b, c', O')) :
    RCl M ops (some d) r k (.mref q ver) args s = RO M ops r k ⟨tset s.τ d (.bool b), (back M.E s c' O').L, O', c'⟩ := by
  unfold RCl RO
  simp only [h, setD, if_pos hd, Option.bind_some]
  rfl
def mcRd (C : Ctx) (h : Lp) (lvl n : Nat) : Mc := ⟨evF C n, envLp C.P h lvl, C.hand, n⟩
def mcAt (C : Ctx) (g : FuncId) (fn : Func) (lvl n : Nat) : Mc := ⟨evF C n, envOf C g fn lvl, C.hand, n⟩
def rfA : Code → Code × Code
  | .rangeFunc _ _ a b => (a, b)
  | c => (c, c)
theorem heap_of {E : Env} {s : St} {l sl off : Nat} : St.heap E s ⟨l, sl, off⟩ = if l = E.lvl then lget s.L (sl, off) else if l < E.lvl then s.O ⟨l, sl, off⟩ else none := heapOf_get
theorem heap_ow {E : Env} {s : St} {l sl off : Nat} (h : E.lvl = l) : St.heap E s ⟨l, sl, off⟩ = lget s.L (sl, off) := by rw [heap_of, if_pos h.symm]
theorem heap_lw {E : Env} {s : St} {l m sl off : Nat} (hm : E.lvl = m) (h : l < m) : St.heap E s ⟨l, sl, off⟩ = s.O ⟨l, sl, off⟩ := by rw [heap_of, if_neg (by omega), if_pos (by omega)]
mutual
def visT {σ : Type} (step : σ → Tm → Bool × σ) (x : σ) : Tm → Bool × σ
  | .mk k s c => match step x (.mk k s c) with
    | (true, y) => visL step y c
    | (false, y) => (false, y)
def visL {σ : Type} (step : σ → Tm → Bool × σ) (x : σ) : List Tm → Bool × σ
  | [] => (true, x)
  | t :: r => match visT step x t with
    | (true, y) => visL step y r
    | (false, y) => (false, y)
end
def Yields {σ : Type} (H : FuncId → Option (List V → Option V)) (n0 : Nat) (q : Key) (ver : Nat) (ok : Tm → Prop) (Inv : σ → Bool → Heap → Prop) (step : σ → Tm → Bool × σ) : Prop :=
  ∀ n lvl x t c O, n0 ≤ n → 1 < lvl → ok t → Inv x true O → ∃ c' O', roundV (evF (Cx H) n) (Cx H) n q ver [tv t] lvl c O = some ((step x t).1, c', O') ∧ Inv (step x t).2 (step x t).1 O' ∧
    ∀ l sl off, 0 < l → l < lvl → O' ⟨l, sl, off⟩ = O ⟨l, sl, off⟩
theorem yield_at {H : FuncId → Option (List V → Option V)} {M : Mc} {k : K} {s : St} {ops : Array Oper} {d n : Nat} {r : List Oper} {q : Key} {ver : Nat} {args : List V} {b : Bool} {Inv : Heap → Prop} {P : Option (Ex × St) → Prop} (hM : M.call = evF (Cx H) (n + 1)) (hd : d < M.E.n)
    (hr : ∃ c' O', roundV (evF (Cx H) n) (Cx H) n q ver args (M.E.lvl + 1) s.c (s.heap M.E) = some (b, c', O') ∧ Inv O' ∧ ∀ l sl off, 0 < l → l < M.E.lvl + 1 → O' ⟨l, sl, off⟩ = s.heap M.E ⟨l, sl, off⟩) (hl : 0 < M.E.lvl)
    (h : ∀ L' O' c', (∀ sl off x, lget s.L (sl, off) = some x → lget L' (sl, off) = some x) → Inv O' → (∀ l sl off, 0 < l → l < M.E.lvl → O' ⟨l, sl, off⟩ = s.O ⟨l, sl, off⟩) → P (RO M ops r k ⟨tset s.τ d (.bool b), L', O', c'⟩)) :
    P (RCl M ops (some d) r k (.mref q ver) args s) := by
  obtain ⟨c', O', h1, h2, h3⟩ := hr
  rw [RCl_yield (b := b) (c' := c') (O' := O') hd (by rw [hM]; exact h1)]
  refine h _ _ _ (fun sl off x hx => ?_) h2 fun l sl off h0 hl' => ?_
  · exact back_get hx (by rw [h3 _ _ _ hl (by omega), heap_of, if_pos rfl, hx])
  · rw [h3 _ _ _ h0 (by omega), heap_of, if_neg (by omega), if_pos hl']
theorem rec_at {M : Mc} {k : K} {s : St} {ops : Array Oper} {d : Nat} {r : List Oper} {args : List V} {g lvl c : Nat} {O : Heap} {b : Bool} {Inv : Heap → Prop} {P : Option (Ex × St) → Prop} (hd : d < M.E.n)
    (hr : ∃ c' O', M.call.fn g args lvl c O = some (.ret (.bool b), c', O') ∧ Inv O') (h : ∀ L' O' c', Inv O' → P (RO M ops r k ⟨tset s.τ d (.bool b), L', O', c'⟩)) :
    P (RV M ops (some d) r k (CI M.E d s (M.call.fn g args lvl c O))) := by
  obtain ⟨c', O', h1, h2⟩ := hr
  rw [h1]
  have : CI M.E d s (some (.ret (.bool b), c', O')) = some (.val (.bool b) (back M.E s c' O')) := rfl
  rw [this, RV_val hd]
  exact h _ _ _ h2
noncomputable abbrev A83 (H : FuncId → Option (List V → Option V)) (lvl n : Nat) : Mc := mcAt (Cx H) 89 Tryz.f89 lvl n
theorem a83 (H lvl n) : (A83 H lvl n).E.keep = [0, 1, 2, 4, 6, 7, 8, 9, 10, 23] ∧ (A83 H lvl n).E.cnd = [10, 23] ∧ (A83 H lvl n).E.frz = [] ∧ (A83 H lvl n).E.pro = [] ∧ (A83 H lvl n).E.imp = [89] ∧ (A83 H lvl n).E.n = 25 ∧ (A83 H lvl n).E.lvl = lvl ∧ (A83 H lvl n).E.P = Tryz.prog ∧ (A83 H lvl n).fuel = n ∧ (A83 H lvl n).C = H ∧ (A83 H lvl n).E.ok = okL := ⟨rfl, rfl, rfl, rfl, rfl, rfl, rfl, rfl, rfl, rfl, rfl⟩
abbrev py (vy : Nat) : V := .ptr ⟨1, 2, 0⟩ vy 0 0
abbrev pw (vw : Nat) : V := .ptr ⟨1, 3, 0⟩ vw 0 0
def Q83 {σ : Type} (Inv : σ → Bool → Heap → Prop) (lvl : Nat) (O : Heap) (res : Bool × σ) (r : Option (Ex × St)) : Prop :=
  ∃ s', r = some (.ret, s') ∧ tget s'.τ 4 = .bool res.1 ∧ Inv res.2 res.1 s'.O ∧ ∀ l sl off, 0 < l → l < lvl → s'.O ⟨l, sl, off⟩ = O ⟨l, sl, off⟩
theorem l83 {σ : Type} {H : FuncId → Option (List V → Option V)} {n0 : Nat} {q : Key} {ver : Nat} {ok : Tm → Prop} {Inv : σ → Bool → Heap → Prop} {step : σ → Tm → Bool × σ} (hY : Yields H n0 q ver ok Inv step)
    (hI : ∀ x b O O', (∀ sl off, O' ⟨0, sl, off⟩ = O ⟨0, sl, off⟩) → Inv x b O → Inv x b O') (hok : ∀ k s c, ok (.mk k s c) → ∀ u ∈ c, ok u) {n lvl k vy vw} {O : Heap} (hlv : 1 < lvl) (hn0 : n0 ≤ n)
    (hy : O ⟨1, 2, 0⟩ = some (vy, .var [.mref q ver])) (hw : O ⟨1, 3, 0⟩ = some (vw, .var [.fn (.func 89) [] [py vy, pw vw]])) (a : List Tm) (ha : a.length ≤ 1000000) (hao : ∀ t ∈ a, ok t)
    (IH : ∀ c1 : List Tm, szs c1 < szs a → (∀ t ∈ c1, ok t) → ∀ x c O', (∀ l sl off, 0 < l → l < lvl → O' ⟨l, sl, off⟩ = O ⟨l, sl, off⟩) → Inv x true O' → ∃ c' O'', (evF (Cx H) (n + 1)).fn 89 [Ts c1, py vy, pw vw] (lvl + 1) c O' = some (.ret (.bool (visL step x c1).1), c', O'') ∧ Inv (visL step x c1).2 (visL step x c1).1 O'' ∧ ∀ l sl off, 0 < l → l < lvl + 1 → O'' ⟨l, sl, off⟩ = O' ⟨l, sl, off⟩)
    {res : Bool × σ} : ∀ r i x n' s, a.drop i = r → r.length < n' → tget s.τ 1 = py vy → tget s.τ 2 = pw vw → tget s.τ 7 = Ts a → tget s.τ 8 = I a.length → tget s.τ 9 = I (i : Nat) → Inv x true s.O → (∀ l sl off, 0 < l → l < lvl → s.O ⟨l, sl, off⟩ = O ⟨l, sl, off⟩) →
    visL step x r = res → (∀ s' x', res = (true, x') → Inv x' true s'.O → (∀ l sl off, 0 < l → l < lvl → s'.O ⟨l, sl, off⟩ = O ⟨l, sl, off⟩) → Q83 Inv lvl O res (X (A83 H lvl (n + 1)) (.exit 0) k s')) →
    Q83 Inv lvl O res (L (A83 H lvl (n + 1)) (sub [1, 0, 1, 0, 0] c783) n' k s)
  | [], i, x, n' + 1, s, hi, hn, h1, h2, h7, h8, h9, hinv, hS, hres, hx => by
    have hc := inlt (drop_nil' hi)
    rw [L_succ]
    simp only [vmr, vmw, vmp, vza, ↓reduceIte, Nat.reduceBEq, Nat.reduceLT, Nat.reduceAdd, Nat.reduceEqDiff, reduceCtorEq, vmt, vzb, vzc, vlen, vleaf, velems, oks, vst, vmd, ty, Nat.reduceLeDiff, Nat.reduceMul, Nat.reduceSub, c783, Tryz.f89, a83, h7, h8, h9, hc]
    exact hx _ x hres.symm hinv hS
  | .mk k1 s1 c1 :: r, i, x, n' + 1, s, hi, hn, h1, h2, h7, h8, h9, hinv, hS, hres, hx => by
    obtain ⟨g1, g2, g3⟩ := drop_cons hi
    have hcl := ilt g3
    have ga : (a.map tv)[i]? = some (.agg [I k1, .str s1, Ts c1]) := by rw [List.getElem?_map, g1, Option.map_some, tv_mk]
    have hsz := szs_mem (l := a) (List.mem_of_getElem? g1)
    have hok1 := hao _ (List.mem_of_getElem? g1)
    have w4 := wsuc g3 (by omega)
    have lv1 := eq_true hlv
    have o1 : s.O ⟨1, 2, 0⟩ = _ := (hS 1 2 0 (by omega) hlv).trans hy
    have o2 : s.O ⟨1, 3, 0⟩ = _ := (hS 1 3 0 (by omega) hlv).trans hw
    rw [L_succ]
    simp only [vmr, vmw, vmp, vza, ↓reduceIte, Nat.reduceBEq, Nat.reduceLT, Nat.reduceAdd, Nat.reduceEqDiff, reduceCtorEq, vmt, vzb, vzc, vlen, vleaf, velems, oks, vst, vmd, ty, Nat.reduceLeDiff, Nat.reduceMul, Nat.reduceSub, c783, Tryz.f89, a83, h1, h2, h7, h8, h9, hcl, ga, obj_lo, lv1, o1, o2]
    have hinv' : ∀ s' : St, s'.O = s.O → Inv x true (s'.heap (A83 H lvl (n + 1)).E) := fun s' e => hI _ _ s.O _ (fun sl off => by rw [heap_lw (m := lvl) rfl (by omega), e]) hinv
    have hyy := fun c O hO => hY n (lvl + 1) x (.mk k1 s1 c1) c O hn0 (by omega) hok1 hO
    simp only [tv_mk] at hyy
    refine yield_at rfl (show 15 < 25 by omega) (hyy _ _ (hinv' _ rfl)) (show 0 < lvl by omega) fun L' O2 c2 hL hi2 ho2 => ?_
    have o2' : O2 ⟨1, 3, 0⟩ = _ := (ho2 1 3 0 (by omega) hlv).trans o2
    have hS2 : ∀ l sl off, 0 < l → l < lvl → O2 ⟨l, sl, off⟩ = O ⟨l, sl, off⟩ := fun l sl off h0 hl => (ho2 l sl off h0 hl).trans (hS l sl off h0 hl)
    have hL6 := hL 6 0 (s.c, .var [I k1, .str s1, Ts c1]) (by simp only [vmr, vmw, vmp, vza, ↓reduceIte, Nat.reduceBEq, Nat.reduceLT, Nat.reduceAdd, Nat.reduceEqDiff, reduceCtorEq, vmt, vzb, vzc, vlen, vleaf, velems, oks, vst, vmd, ty, Nat.reduceLeDiff, Nat.reduceMul, Nat.reduceSub, a83])
    clear hL ho2 hyy
    simp only [visL, visT] at hres
    cases hb : (step x (.mk k1 s1 c1)).1 with
    | false =>
      rw [hb] at hi2
      have e : step x (.mk k1 s1 c1) = (false, (step x (.mk k1 s1 c1)).2) := by rw [← hb]
      rw [e] at hres
      dsimp only at hres
      subst hres
      simp only [vmr, vmw, vmp, vza, ↓reduceIte, Nat.reduceBEq, Nat.reduceLT, Nat.reduceAdd, Nat.reduceEqDiff, reduceCtorEq, vmt, vzb, vzc, vlen, vleaf, velems, oks, vst, vmd, ty, Nat.reduceLeDiff, Nat.reduceMul, Nat.reduceSub, a83]
      exact ⟨_, rfl, by simp only [vmr, vmw, vmp, vza, ↓reduceIte, Nat.reduceBEq, Nat.reduceLT, Nat.reduceAdd, Nat.reduceEqDiff, reduceCtorEq, vmt, vzb, vzc, vlen, vleaf, velems, oks, vst, vmd, ty, Nat.reduceLeDiff, Nat.reduceMul, Nat.reduceSub, a83], hi2, hS2⟩
    | true =>
      rw [hb] at hi2
      have e : step x (.mk k1 s1 c1) = (true, (step x (.mk k1 s1 c1)).2) := by rw [← hb]
      rw [e] at hres
      dsimp only at hres
      generalize (step x (.mk k1 s1 c1)).2 = y at hres hi2 hb
      simp only [vmr, vmw, vmp, vza, ↓reduceIte, Nat.reduceBEq, Nat.reduceLT, Nat.reduceAdd, Nat.reduceEqDiff, reduceCtorEq, vmt, vzb, vzc, vlen, vleaf, velems, oks, vst, vmd, ty, Nat.reduceLeDiff, Nat.reduceMul, Nat.reduceSub, a83, o2', hL6, h2, h7, h8, h9, obj_lo, lv1, callV_i]
      have hh : ∀ (s' : St), s'.O = O2 → (∀ l sl off, 0 < l → l < lvl → s'.heap (A83 H lvl (n + 1)).E ⟨l, sl, off⟩ = O ⟨l, sl, off⟩) ∧ Inv y true (s'.heap (A83 H lvl (n + 1)).E) := fun s' e => ⟨fun l sl off h0 hl => by rw [heap_lw (m := lvl) rfl hl, e, hS2 l sl off h0 hl], hI _ _ O2 _ (fun sl off => by rw [heap_lw (m := lvl) rfl (by omega), e]) hi2⟩
      have IH' : ∀ (s' : St), s'.O = O2 → ∀ c, ∃ c' O'', (A83 H lvl (n + 1)).call.fn 89 [Ts c1, py vy, pw vw] (lvl + 1) c (s'.heap (A83 H lvl (n + 1)).E) = some (.ret (.bool (visL step y c1).1), c', O'') ∧ (Inv (visL step y c1).2 (visL step y c1).1 O'' ∧ ∀ l sl off, 0 < l → l < lvl → O'' ⟨l, sl, off⟩ = O ⟨l, sl, off⟩) := fun s' e c => by
        obtain ⟨c', O'', q1, q2, q3⟩ := IH c1 hsz (hok _ _ _ hok1) y c _ (hh s' e).1 (hh s' e).2
        exact ⟨c', O'', q1, q2, fun l sl off h0 hl => (q3 l sl off h0 (by omega)).trans ((hh s' e).1 l sl off h0 hl)⟩
      refine rec_at (show 21 < 25 by omega) (IH' _ rfl _) fun L3 O3 c3 ⟨hi3, hS3⟩ => ?_
      have ih := fun z s => l83 hY hI hok (k := k) (vy := vy) (vw := vw) (res := res) hlv hn0 hy hw a ha hao IH r (i + 1) z n' s g2 (by simp at hn; omega)
      simp only [sub, c783, Tryz.f89, gets] at ih
      generalize visL step y c1 = z at hres hi3
      obtain ⟨b, z⟩ := z
      cases b with
      | false =>
        dsimp only at hres hi3
        subst hres
        simp only [vmr, vmw, vmp, vza, ↓reduceIte, Nat.reduceBEq, Nat.reduceLT, Nat.reduceAdd, Nat.reduceEqDiff, reduceCtorEq, vmt, vzb, vzc, vlen, vleaf, velems, oks, vst, vmd, ty, Nat.reduceLeDiff, Nat.reduceMul, Nat.reduceSub, a83]
        exact ⟨_, rfl, by simp only [vmr, vmw, vmp, vza, ↓reduceIte, Nat.reduceBEq, Nat.reduceLT, Nat.reduceAdd, Nat.reduceEqDiff, reduceCtorEq, vmt, vzb, vzc, vlen, vleaf, velems, oks, vst, vmd, ty, Nat.reduceLeDiff, Nat.reduceMul, Nat.reduceSub, a83], hi3, hS3⟩
      | true =>
        dsimp only at hres hi3
        simp only [vmr, vmw, vmp, vza, ↓reduceIte, Nat.reduceBEq, Nat.reduceLT, Nat.reduceAdd, Nat.reduceEqDiff, reduceCtorEq, vmt, vzb, vzc, vlen, vleaf, velems, oks, vst, vmd, ty, Nat.reduceLeDiff, Nat.reduceMul, Nat.reduceSub, a83, h9, w4]
        refine ih z _ ?_ ?_ ?_ ?_ ?_ hi3 hS3 hres hx
        all_goals simp only [vmr, vmw, vmp, vza, ↓reduceIte, Nat.reduceBEq, Nat.reduceLT, Nat.reduceAdd, Nat.reduceEqDiff, reduceCtorEq, vmt, vzb, vzc, vlen, vleaf, velems, oks, vst, vmd, ty, Nat.reduceLeDiff, Nat.reduceMul, Nat.reduceSub, a83, h1, h2, h7, h8]
theorem w83 {σ : Type} {H : FuncId → Option (List V → Option V)} {n0 : Nat} {q : Key} {ver : Nat} {ok : Tm → Prop} {Inv : σ → Bool → Heap → Prop} {step : σ → Tm → Bool × σ} (hY : Yields H n0 q ver ok Inv step)
    (hI : ∀ x b O O', (∀ sl off, O' ⟨0, sl, off⟩ = O ⟨0, sl, off⟩) → Inv x b O → Inv x b O') (hok : ∀ k s c, ok (.mk k s c) → ∀ u ∈ c, ok u) {vy vw : Nat} : ∀ (m : Nat) (a : List Tm), szs a ≤ m → szs a ≤ 1000000 → (∀ t ∈ a, ok t) → ∀ n lvl c O x, n0 + m < n → 1 < lvl →
    O ⟨1, 2, 0⟩ = some (vy, .var [.mref q ver]) → O ⟨1, 3, 0⟩ = some (vw, .var [.fn (.func 89) [] [py vy, pw vw]]) → Inv x true O →
    ∃ c' O', (evF (Cx H) (n + 1)).fn 89 [Ts a, py vy, pw vw] lvl c O = some (.ret (.bool (visL step x a).1), c', O') ∧ Inv (visL step x a).2 (visL step x a).1 O' ∧ ∀ l sl off, 0 < l → l < lvl → O' ⟨l, sl, off⟩ = O ⟨l, sl, off⟩ := by
  intro m
  induction m using Nat.strongRecOn with
  | ind m IHm =>
  intro a hm hb hao n lvl c O x hn hlv hy hw hinv
  obtain ⟨n, rfl⟩ : ∃ n', n = n' + 1 := ⟨n - 1, by omega⟩
  have hla := szs_len a
  have key : Q83 Inv lvl O (visL step x a) (R (A83 H lvl (n + 1)) c783 .top ⟨params 0 [Ts a, py vy, pw vw], [], O, c⟩) := by
    have a1 := fun k s => l83 (n := n) (k := k) (vy := vy) (vw := vw) (O := O) hY hI hok hlv (by omega) hy hw a (by omega) hao (fun c1 h1 h2 x c O' h3 h4 => by
      obtain ⟨c', O'', q1, q2, q3⟩ := IHm (szs c1) (by omega) c1 (Nat.le_refl _) (by omega) h2 n (lvl + 1) c O' x (by omega) (by omega) ((h3 1 2 0 (by omega) hlv).trans hy) ((h3 1 3 0 (by omega) hlv).trans hw) h4
      exact ⟨c', O'', q1, q2, q3⟩) (res := visL step x a) a 0 x (n + 1) s rfl (by omega)
    simp only [sub, c783, Tryz.f89, gets] at a1
    simp only [vmr, vmw, vmp, vza, ↓reduceIte, Nat.reduceBEq, Nat.reduceLT, Nat.reduceAdd, Nat.reduceEqDiff, reduceCtorEq, vmt, vzb, vzc, vlen, vleaf, velems, oks, vst, vmd, ty, Nat.reduceLeDiff, Nat.reduceMul, Nat.reduceSub, c783, Tryz.f89, a83]
    refine a1 _ _ ?_ ?_ ?_ ?_ ?_ hinv (fun _ _ _ _ _ => rfl) trivial (fun s' x' e hi hS => ?_)
    case refine_6 =>
      rw [e]
      simp only [vmr, vmw, vmp, vza, ↓reduceIte, Nat.reduceBEq, Nat.reduceLT, Nat.reduceAdd, Nat.reduceEqDiff, reduceCtorEq, vmt, vzb, vzc, vlen, vleaf, velems, oks, vst, vmd, ty, Nat.reduceLeDiff, Nat.reduceMul, Nat.reduceSub, a83]
      exact ⟨_, rfl, by simp only [vmr, vmw, vmp, vza, ↓reduceIte, Nat.reduceBEq, Nat.reduceLT, Nat.reduceAdd, Nat.reduceEqDiff, reduceCtorEq, vmt, vzb, vzc, vlen, vleaf, velems, oks, vst, vmd, ty, Nat.reduceLeDiff, Nat.reduceMul, Nat.reduceSub, a83], hi, hS⟩
    all_goals simp only [vmr, vmw, vmp, vza, ↓reduceIte, Nat.reduceBEq, Nat.reduceLT, Nat.reduceAdd, Nat.reduceEqDiff, reduceCtorEq, vmt, vzb, vzc, vlen, vleaf, velems, oks, vst, vmd, ty, Nat.reduceLeDiff, Nat.reduceMul, Nat.reduceSub, a83]
  obtain ⟨s', hr, h4, hi, hS⟩ := key
  refine ⟨_, _, evF_at1 (C := Cx H) (n := n + 1) (fn := Tryz.f89) (b := c783) (s' := s') Tryz.func89 rfl (show 3 ≤ 25 by omega) rfl (.inr hr) (by rw [h4]; rfl), hI _ _ s'.O _ (fun sl off => by rw [lower_get, if_pos (by omega)]) hi, fun l sl off h0 hl => by rw [lower_get, if_pos hl]; exact hS l sl off h0 hl⟩
end Go.Vi
set_option maxRecDepth 100000
set_option maxHeartbeats 1000000
namespace Go.Vi
open Go Go.Proofs
noncomputable abbrev A82 (H : FuncId → Option (List V → Option V)) (n : Nat) : Mc := mcAt (Cx H) 88 Tryz.f88 1 n
theorem a82 (H n) : (A82 H n).E.keep = [0, 1, 2, 3] ∧ (A82 H n).E.cnd = [] ∧ (A82 H n).E.frz = [] ∧ (A82 H n).E.pro = [] ∧ (A82 H n).E.imp = [89] ∧ (A82 H n).E.n = 8 ∧ (A82 H n).E.lvl = 1 ∧ (A82 H n).E.P = Tryz.prog ∧ (A82 H n).fuel = n ∧ (A82 H n).C = H ∧ (A82 H n).E.ok = okL := ⟨rfl, rfl, rfl, rfl, rfl, rfl, rfl, rfl, rfl, rfl, rfl⟩
theorem w82 {σ : Type} {H : FuncId → Option (List V → Option V)} {n0 : Nat} {q : Key} {ver : Nat} {ok : Tm → Prop} {Inv : σ → Bool → Heap → Prop} {step : σ → Tm → Bool × σ} (hY : Yields H n0 q ver ok Inv step)
    (hI : ∀ x b O O', (∀ sl off, O' ⟨0, sl, off⟩ = O ⟨0, sl, off⟩) → Inv x b O → Inv x b O') (hok : ∀ k s c, ok (.mk k s c) → ∀ u ∈ c, ok u) {a : List Tm} (hb : szs a ≤ 1000000) (hao : ∀ t ∈ a, ok t) {n c O x} (hn : n0 + szs a < n) (hq : q.lvl = 0) (hinv : Inv x true O) :
    ∃ c' O', (evF (Cx H) (n + 2)).fn 88 [.mref q ver, .iptr [Ts a]] 1 c O = some (.ret (.tup []), c', O') ∧ Inv (visL step x a).2 (visL step x a).1 O' := by
  let Po : Option (Ex × St) → Prop := fun r => ∃ s', r = some (.norm, s') ∧ Inv (visL step x a).2 (visL step x a).1 s'.O
  have key : Po (R (A82 H (n + 1)) c782 .top ⟨params 0 [.mref q ver, .iptr [Ts a]], [], O, c⟩) := by
    have hq1 : (q.lvl = 1) = False := by rw [hq]; simp
    simp only [vmr, vmw, vmp, vza, ↓reduceIte, Nat.reduceBEq, Nat.reduceLT, Nat.reduceAdd, Nat.reduceEqDiff, reduceCtorEq, vmt, vzb, vzc, vlen, vleaf, velems, oks, vst, vmd, ty, Nat.reduceLeDiff, Nat.reduceMul, Nat.reduceSub, c782, Tryz.f88, a82, callV_i, hq1, false_and, if_false]
    have hh : ∀ (s' : St), s'.O = O → lget s'.L (2, 0) = some (c, .var [.mref q ver]) → lget s'.L (3, 0) = some (c + 1, .var [.fn (.func 89) [] [py c, pw (c + 1)]]) → ∀ c2, ∃ c' O', (A82 H (n + 1)).call.fn 89 [Ts a, py c, pw (c + 1)] 2 c2 (s'.heap (A82 H (n + 1)).E) = some (.ret (.bool (visL step x a).1), c', O') ∧ Inv (visL step x a).2 (visL step x a).1 O' := fun s' e e2 e3 c2 => by
      obtain ⟨n, rfl⟩ : ∃ n', n = n' + 1 := ⟨n - 1, by omega⟩
      obtain ⟨c', O', q1, q2, _⟩ := w83 hY hI hok (szs a) a (Nat.le_refl _) hb hao (n + 1) 2 c2 (s'.heap (A82 H (n + 1 + 1)).E) x (by omega) (by omega) ((heap_ow rfl).trans e2) ((heap_ow rfl).trans e3) (hI _ _ O _ (fun sl off => by rw [heap_lw (m := 1) rfl (by omega), e]) hinv)
      exact ⟨c', O', q1, q2⟩
    refine rec_at (show 7 < 8 by omega) (hh _ rfl ?_ ?_ _) fun L' O' c' hi => ?_
    · simp only [vmr, vmw, vmp, vza, ↓reduceIte, Nat.reduceBEq, Nat.reduceLT, Nat.reduceAdd, Nat.reduceEqDiff, reduceCtorEq, vmt, vzb, vzc, vlen, vleaf, velems, oks, vst, vmd, ty, Nat.reduceLeDiff, Nat.reduceMul, Nat.reduceSub, a82]
    · simp only [vmr, vmw, vmp, vza, ↓reduceIte, Nat.reduceBEq, Nat.reduceLT, Nat.reduceAdd, Nat.reduceEqDiff, reduceCtorEq, vmt, vzb, vzc, vlen, vleaf, velems, oks, vst, vmd, ty, Nat.reduceLeDiff, Nat.reduceMul, Nat.reduceSub, a82]
    · simp only [vmr, vmw, vmp, vza, ↓reduceIte, Nat.reduceBEq, Nat.reduceLT, Nat.reduceAdd, Nat.reduceEqDiff, reduceCtorEq, vmt, vzb, vzc, vlen, vleaf, velems, oks, vst, vmd, ty, Nat.reduceLeDiff, Nat.reduceMul, Nat.reduceSub, a82]
      exact ⟨_, rfl, hi⟩
  obtain ⟨s', hr, hi⟩ := key
  refine ⟨_, _, evF_at (C := Cx H) (n := n + 1) (fn := Tryz.f88) (b := c782) (s' := s') Tryz.func88 rfl (show 2 ≤ 8 by omega) rfl (.inl hr), hI _ _ s'.O _ (fun sl off => by rw [lower_get, if_pos (by omega)]) hi⟩
theorem oput_hi {O : Heap} {a b l sl off : Nat} {x : Nat × Obj} (h : 0 < l) : oput O ⟨0, a, b⟩ x ⟨l, sl, off⟩ = O ⟨l, sl, off⟩ := by rw [oput_get, if_neg (fun e => by injection e; omega)]
def InvL {σ : Type} (q : Key) (ver : Nat) (lp : Lp) (τ : List (Nat × V)) (ps : List Nat) (ac bd : Code) (jf : σ → Code) (U : σ → Bool → Heap → Prop) (x : σ) (b : Bool) (O : Heap) : Prop :=
  O q = some (ver, .loop lp τ ps ac bd (if b then .ready else .done) (if b then none else some (jf x))) ∧ U x b O
def BodyQ {σ : Type} (q : Key) (ver lvl : Nat) (ob : Obj) (O : Heap) (jf : σ → Code) (U : σ → Bool → Heap → Prop) (res : Bool × σ) (r : Option (Ex × St)) : Prop :=
  ∃ e s3, r = some (e, s3) ∧ jumpOf e = some (if res.1 then none else some (jf res.2)) ∧ s3.O q = some (ver, ob) ∧ U res.2 res.1 s3.O ∧ ∀ l sl off, 0 < l → l < lvl → s3.O ⟨l, sl, off⟩ = O ⟨l, sl, off⟩
theorem yields_of {σ : Type} {H : FuncId → Option (List V → Option V)} {n0 ver : Nat} {q : Key} {lp : Lp} {τ : List (Nat × V)} {ps : List Nat} {ac bd : Code} {jf : σ → Code} {U : σ → Bool → Heap → Prop} {ok : Tm → Prop} {step : σ → Tm → Bool × σ} (hq : q.lvl = 0)
    (hs : ps.length = 1 ∧ lp.ok.all ((Cx H).ok.contains ·) = true ∧ ps.all (· < lp.n) = true) (hU : ∀ x b O O', (∀ sl off, (⟨0, sl, off⟩ : Key) ≠ q → O' ⟨0, sl, off⟩ = O ⟨0, sl, off⟩) → U x b O → U x b O')
    (hb : ∀ n lvl x t c O, n0 ≤ n → 1 < lvl → ok t → U x true O → ∃ s1 : St, R (mcRd (Cx H) lp lvl n) ac .top ⟨setPs τ ps [tv t], [], O, c⟩ = some (.norm, s1) ∧ s1.O = O ∧
      ∀ O2, (∀ k, k ≠ q → O2 k = O k) → O2 q = some (ver, .loop lp τ ps ac bd .busy none) → BodyQ q ver lvl (.loop lp τ ps ac bd .busy none) O2 jf U (step x t) (R (mcRd (Cx H) lp lvl n) bd .top ⟨s1.τ, s1.L, O2, s1.c⟩)) :
    Yields H n0 q ver ok (InvL q ver lp τ ps ac bd jf U) step := by
  intro n lvl x t c O hn hlv hok ⟨h1, h2⟩
  obtain ⟨s1, r1, e1, hb⟩ := hb n lvl x t c O hn hlv hok h2
  obtain ⟨e, s3, r3, hj, hq3, hU3, hS⟩ := hb (oput O q (ver, .loop lp τ ps ac bd .busy none)) (fun k hk => by rw [oput_get, if_neg hk]) (by rw [oput_get, if_pos rfl])
  have hlt : q.lvl < lvl := by omega
  obtain ⟨ql, qs, qo⟩ := q
  dsimp only at hq hlt
  subst hq
  have hne : ∀ l sl off, 0 < l → ¬ (⟨l, sl, off⟩ : Key) = ⟨0, qs, qo⟩ := fun l sl off h0 h => by injection h; omega
  have hL : 0 < (envLp (Cx H).P lp lvl).lvl := hlt
  have s2 : setLoop (envLp (Cx H).P lp lvl) ⟨0, qs, qo⟩ ver .ready .busy none s1 = some ⟨s1.τ, s1.L, oput O ⟨0, qs, qo⟩ (ver, .loop lp τ ps ac bd .busy none), s1.c⟩ := by
    unfold setLoop
    rw [obj_lo hL, e1, h1]
    simp only [ob, if_true]
    rw [put_lo hL, e1]
    rfl
  have s4 : setLoop (envLp (Cx H).P lp lvl) ⟨0, qs, qo⟩ ver .busy (if (if (step x t).1 then none else some (jf (step x t).2)).isNone then .ready else .done) (some (if (step x t).1 then none else some (jf (step x t).2))) s3 = some ⟨s3.τ, s3.L, oput s3.O ⟨0, qs, qo⟩ (ver, .loop lp τ ps ac bd (if (step x t).1 then .ready else .done) (if (step x t).1 then none else some (jf (step x t).2))), s3.c⟩ := by
    unfold setLoop
    rw [obj_lo hL, hq3]
    simp only [ob, if_true]
    rw [put_lo hL]
    cases (step x t).1 <;> rfl
  have hR := round_of (call := evF (Cx H) n) (C := Cx H) (n := n) (args := [tv t]) (lvl := lvl) (c := c) h1 ⟨hs.1.symm, hlt, hs.2.1, hs.2.2⟩ r1 s2 r3 hj s4
  rw [show (if (step x t).1 = true then none else some (jf (step x t).2)).isNone = (step x t).1 by cases (step x t).1 <;> rfl] at hR
  refine ⟨_, _, hR, ?_, ?_⟩
  · refine ⟨?_, hU _ _ s3.O _ (fun sl off hk => ?_) hU3⟩
    · dsimp only; rw [lower_get, if_pos hlt, oput_get, if_pos rfl]
    · dsimp only; rw [lower_get, if_pos hlt, oput_get, if_neg hk]
  · intro l sl off h0 hl
    dsimp only
    rw [lower_get, if_pos hl, oput_get, if_neg (hne _ _ _ h0), hS l sl off h0 hl, oput_get, if_neg (hne _ _ _ h0)]
theorem range_all {σ : Type} {H : FuncId → Option (List V → Option V)} {M : Mc} {n n0 : Nat} {k : K} {s : St} {f : Operand} {ps : Array Nat} {ac bd : Code} {jf : σ → Code} {U : σ → Bool → Heap → Prop} {ok : Tm → Prop} {step : σ → Tm → Bool × σ} {P : Option (Ex × St) → Prop} {x : σ} {a : List Tm} (hM : M.call = evF (Cx H) (n + 2)) (hl : M.E.lvl = 0) (hk : M.E.ok.contains 88 = true) (hi : M.E.inr = false)
    (hf : evalO s f = .fn (.func 88) [] [.iptr [Ts a]]) (hY : Yields H n0 (loopKey M.E) s.c ok (InvL (loopKey M.E) s.c (lpOf M.E) s.τ ps.toList ac bd jf U) step)
    (hU : ∀ x b O O', (∀ sl off, (⟨0, sl, off⟩ : Key) ≠ loopKey M.E → O' ⟨0, sl, off⟩ = O ⟨0, sl, off⟩) → U x b O → U x b O') (hok : ∀ k s c, ok (.mk k s c) → ∀ u ∈ c, ok u) (hb : szs a ≤ 1000000) (hao : ∀ t ∈ a, ok t) (hn : n0 + szs a < n)
    (h0 : ∀ O, (∀ sl off, O ⟨0, sl, off⟩ = lget s.L (sl, off)) → U x true O) (hj : ∀ x, ∃ e, jumpEx (some (jf x)) = some e)
    (h : ∀ s' e O', s'.τ = s.τ → U (visL step x a).2 (visL step x a).1 O' → (∀ sl off y, sl ≠ M.E.n + 1 → (lget s.L (sl, off)).isSome = true → O' ⟨0, sl, off⟩ = some y → lget s'.L (sl, off) = some y) → jumpEx (if (visL step x a).1 then none else some (jf (visL step x a).2)) = some e → P (X M e k s')) :
    P (R M (.rangeFunc f ps ac bd) k s) := by
  have hkey : loopKey M.E = ⟨0, M.E.n + 1, 0⟩ := by unfold loopKey; rw [hl]
  have hI : ∀ x b O O', (∀ sl off, O' ⟨0, sl, off⟩ = O ⟨0, sl, off⟩) → InvL (loopKey M.E) s.c (lpOf M.E) s.τ ps.toList ac bd jf U x b O → InvL (loopKey M.E) s.c (lpOf M.E) s.τ ps.toList ac bd jf U x b O' := fun x b O O' e ⟨h1, h2⟩ =>
    ⟨by rw [hkey] at h1 ⊢; rw [e]; exact h1, hU _ _ O _ (fun sl off _ => e sl off) h2⟩
  have hin : InvL (loopKey M.E) s.c (lpOf M.E) s.τ ps.toList ac bd jf U x true (heapOf 0 (lput s.L (M.E.n + 1, 0) (s.c, .loop (lpOf M.E) s.τ ps.toList ac bd .ready none)) s.O) := by
    refine ⟨?_, hU _ _ (heapOf 0 s.L s.O) _ (fun sl off hk => ?_) (h0 _ fun sl off => by rw [heapOf_get, if_pos rfl])⟩
    · rw [hkey, heapOf_get, if_pos rfl, lget_lput, if_pos rfl]; rfl
    · rw [heapOf_get, if_pos rfl, lget_lput, if_neg (fun e => hk (by rw [hkey]; injection e with e1 e2; rw [e1, e2])), heapOf_get, if_pos rfl]
  obtain ⟨c', O', hcall, hO1, hO2⟩ := w82 hY hI hok hb hao (n := n) (c := s.c + 1) hn (by rw [hkey]) hin
  obtain ⟨e, he⟩ : ∃ e, jumpEx (if (visL step x a).1 then none else some (jf (visL step x a).2)) = some e := by
    cases (visL step x a).1 with
    | true => exact ⟨_, rfl⟩
    | false => exact hj _
  rw [R_range (g := 88) (first := []) (c' := c') (O' := O') hf hk hi (by rw [hM, hl]; exact hcall) hO1 (by cases (visL step x a).1 <;> simp) he]
  refine h _ _ O' (by rw [hkey, del_s hl.symm]; rfl) hO2 (fun sl off y hs hx hy => ?_) he
  obtain ⟨z, hx⟩ := Option.isSome_iff_exists.1 hx
  have hb := back_get (E := M.E) (s := ⟨s.τ, lput s.L (M.E.n + 1, 0) (s.c, .loop (lpOf M.E) s.τ ps.toList ac bd .ready none), s.O, s.c + 1⟩) (c' := c') (O' := O') (sl := sl) (off := off) (x := z) (y := y)
    (by show lget (lput s.L (M.E.n + 1, 0) _) (sl, off) = some z; rw [lget_lput, if_neg (by simp [hs]), hx]) (by rw [hl]; exact hy)
  rw [hkey, del_s hl.symm]
  show lget (ldel _ (M.E.n + 1, 0)) (sl, off) = some y
  rw [lget_ldel, if_neg (by simp [hs])]
  exact hb
end Go.Vi
set_option maxRecDepth 100000
set_option maxHeartbeats 1000000
namespace Go.Vi
open Go Go.Proofs
def cntS (n : Nat) (_ : Tm) : Bool × Nat := (decide (n + 1 ≤ 4000), n + 1)
mutual
theorem cnt_T : ∀ (t : Tm) (n : Nat), n ≤ 4000 → visT cntS n t = if n + szt t ≤ 4000 then (true, n + szt t) else (false, 4001)
  | .mk k s c, n, h => by
    rw [szt]
    simp only [visT, cntS]
    by_cases h1 : n + 1 ≤ 4000
    · rw [decide_eq_true h1]
      dsimp only
      rw [cnt_L c (n + 1) h1, show n + 1 + szs c = n + (szs c + 1) by omega]
    · rw [decide_eq_false h1]
      dsimp only
      rw [if_neg (by omega), show n + 1 = 4001 by omega]
theorem cnt_L : ∀ (l : List Tm) (n : Nat), n ≤ 4000 → visL cntS n l = if n + szs l ≤ 4000 then (true, n + szs l) else (false, 4001)
  | [], n, h => by rw [szs, Nat.add_zero, if_pos h]; rfl
  | t :: r, n, h => by
    rw [szs]
    simp only [visL]
    rw [cnt_T t n h]
    by_cases h1 : n + szt t ≤ 4000
    · rw [if_pos h1]
      dsimp only
      rw [cnt_L r _ h1, show n + szt t + szs r = n + (szt t + szs r) by omega]
    · rw [if_neg h1, if_neg (by omega)]
end
def frmS (most : Int) (_ : Bool) : Tm → Bool × Bool
  | .mk k s c => (rightB k s c && decide (k ≤ most), rightB k s c && decide (k ≤ most))
mutual
theorem frm_T (most : Int) : ∀ t : Tm, visT (frmS most) true t = (fmt most t, fmt most t)
  | .mk k s c => by
    simp only [visT, frmS, fmt]
    cases rightB k s c && decide (k ≤ most) with
    | false => rfl
    | true => dsimp only; rw [frm_L most c, Bool.true_and]
theorem frm_L (most : Int) : ∀ l : List Tm, visL (frmS most) true l = (fms most l, fms most l)
  | [] => rfl
  | t :: r => by
    simp only [visL, fms]
    rw [frm_T most t]
    cases fmt most t with
    | false => rfl
    | true => dsimp only; rw [frm_L most r, Bool.true_and]
end
theorem w53 (a : List Tm) : SoundPure Tryz.prog 62 [Ts a] (.ret (.fn (.func 88) [] [.iptr [Ts a]])) := by
  refine s753 (H := []) sound_nil 1 (by simp) rfl ?_
  simp only [c753, Tryz.f62, gets, sub]
  simp only [vmr, vmw, vmp, vza, ↓reduceIte, Nat.reduceBEq, Nat.reduceLT, Nat.reduceAdd, Nat.reduceEqDiff, reduceCtorEq, vmt, vzb, vzc, vlen, vleaf, velems, oks, vst, vmd, ty, Nat.reduceLeDiff, Nat.reduceMul, Nat.reduceSub, vzr, m753]
noncomputable def F53 : List V → Option V := hF (α := List Tm) (fun p => [Ts p]) (fun _ => True) (fun p => .fn (.func 88) [] [.iptr [Ts p]])
theorem F53_eq (a : List Tm) : F53 [Ts a] = some (.fn (.func 88) [] [.iptr [Ts a]]) := hF_eq (a := a) (one_inj' fun _ _ => Ts_inj) (by simp only [cans, can_Ts]) trivial
theorem F53_sound : ∀ args v, F53 args = some v → SoundPure Tryz.prog 62 args (.ret v) := hF_sound fun p _ => w53 p
noncomputable abbrev T740 : List (FuncId × (List V → Option V)) := [(62, F53), (81, Fright), (87, Fdps)]
noncomputable abbrev B40 (lvl n : Nat) : Mc := mcRd (Cx (hand T740)) (lpOf (M740 (hand T740) 0).E) lvl n
theorem b40 (lvl n) : (B40 lvl n).E.keep = [0, 1, 3, 4, 5, 6, 8, 9, 13, 16, 18, 19, 28] ∧ (B40 lvl n).E.cnd = [13, 16, 28] ∧ (B40 lvl n).E.frz = [3] ∧ (B40 lvl n).E.pro = [] ∧ (B40 lvl n).E.imp = [] ∧ (B40 lvl n).E.n = 29 ∧ (B40 lvl n).E.lvl = lvl ∧ (B40 lvl n).E.P = Tryz.prog ∧ (B40 lvl n).fuel = n ∧ (B40 lvl n).C = hand T740 ∧ (B40 lvl n).E.ok = okL := ⟨rfl, rfl, rfl, rfl, rfl, rfl, rfl, rfl, rfl, rfl, rfl⟩
def U40a (v4 v5 : Nat) (x : Nat) (b : Bool) (O : Heap) : Prop := O ⟨0, 4, 0⟩ = some (v4, .var [I (if b then 0 else 5)]) ∧ O ⟨0, 5, 0⟩ = some (v5, .var [I x]) ∧ (b = true → x ≤ 4000)
def U40b (v4 : Nat) (_ : Bool) (b : Bool) (O : Heap) : Prop := O ⟨0, 4, 0⟩ = some (v4, .var [I (if b then 0 else 2)])
noncomputable abbrev as40a : Code := (rfA (sub [1, 1, 0, 1, 0] c740)).1
noncomputable abbrev bd40a : Code := (rfA (sub [1, 1, 0, 1, 0] c740)).2
noncomputable abbrev as40b : Code := (rfA (sub [1, 1, 1, 1, 0, 1, 0] c740)).1
noncomputable abbrev bd40b : Code := (rfA (sub [1, 1, 1, 1, 0, 1, 0] c740)).2
noncomputable abbrev lp40 : Lp := lpOf (M740 (hand T740) 0).E
theorem y40a {v4 v5 ver : Nat} {τ : List (Nat × V)} (h4 : tget τ 4 = .ptr ⟨0, 4, 0⟩ v4 0 0) (h5 : tget τ 5 = .ptr ⟨0, 5, 0⟩ v5 0 0) :
    Yields (hand T740) 0 ⟨0, 30, 0⟩ ver txt1 (InvL ⟨0, 30, 0⟩ ver lp40 τ [9] as40a bd40a (fun _ => .ret) (U40a v4 v5)) cntS := by
  refine yields_of rfl ⟨rfl, by decide, by decide⟩ (fun x b O O' e ⟨h1, h2, h3⟩ => ⟨(e 4 0 (by simp)).trans h1, (e 5 0 (by simp)).trans h2, h3⟩) ?_
  intro n lvl x t c O hn hlv hok ⟨u1, u2, u3⟩
  refine ⟨⟨setPs τ [9] [tv t], [], O, c⟩, rfl, rfl, fun O2 ho hq => ?_⟩
  have g1 := (ho ⟨0, 4, 0⟩ (by simp)).trans u1
  have g2 := (ho ⟨0, 5, 0⟩ (by simp)).trans u2
  have lv0 := eq_true (show 0 < lvl by omega)
  have u3 := u3 rfl
  have w1 : IntKind.i64.wrap ((x : Int) + 1) = ((x + 1 : Nat) : Int) := by rw [wrap_id] <;> omega
  generalize Obj.loop lp40 τ [9] as40a bd40a .busy none = ob at hq ⊢
  simp only [bd40a, rfA, sub, c740, Tryz.f61, gets]
  change BodyQ _ _ _ _ _ _ _ _ (R (B40 lvl n) _ _ _)
  unfold cntS
  by_cases q1 : x + 1 ≤ 4000
  · have q1' : (((x + 1 : Nat) : Int) > 4000) = False := eq_false (by omega)
    rw [decide_eq_true q1]
    simp only [vmr, vmw, vmp, vza, ↓reduceIte, Nat.reduceBEq, Nat.reduceLT, Nat.reduceAdd, Nat.reduceEqDiff, reduceCtorEq, vmt, vzb, vzc, vlen, vleaf, velems, oks, vst, vmd, ty, Nat.reduceLeDiff, Nat.reduceMul, Nat.reduceSub, b40, setPs, h4, h5, g1, g2, obj_lo, put_lo, oput_get, key_eq, lv0, w1, q1', X_top]
    refine ⟨_, _, rfl, rfl, ?_, ⟨?_, ?_, fun _ => q1⟩, fun l sl off h0 hl => ?_⟩
    case refine_4 => simp only [oput_hi h0]
    all_goals simp [oput_get, key_eq, hq, g1, g2]
  · have q1' : (((x + 1 : Nat) : Int) > 4000) = True := eq_true (by omega)
    rw [decide_eq_false q1]
    simp only [vmr, vmw, vmp, vza, ↓reduceIte, Nat.reduceBEq, Nat.reduceLT, Nat.reduceAdd, Nat.reduceEqDiff, reduceCtorEq, vmt, vzb, vzc, vlen, vleaf, velems, oks, vst, vmd, ty, Nat.reduceLeDiff, Nat.reduceMul, Nat.reduceSub, b40, setPs, h4, h5, g1, g2, obj_lo, put_lo, oput_get, key_eq, lv0, w1, q1', X_top]
    refine ⟨_, _, rfl, rfl, ?_, ⟨?_, ?_, fun h => by cases h⟩, fun l sl off h0 hl => ?_⟩
    case refine_4 => simp only [oput_hi h0]
    all_goals simp [oput_get, key_eq, hq, g1, g2]
theorem y40b {v4 ver : Nat} {most : Int} {τ : List (Nat × V)} (h3 : tget τ 3 = .iptr [I most]) (h4 : tget τ 4 = .ptr ⟨0, 4, 0⟩ v4 0 0) :
    Yields (hand T740) 0 ⟨0, 30, 0⟩ ver txt1 (InvL ⟨0, 30, 0⟩ ver lp40 τ [19] as40b bd40b (fun _ => .ret) (U40b v4)) (frmS most) := by
  refine yields_of rfl ⟨rfl, by decide, by decide⟩ (fun x b O O' e h1 => (e 4 0 (by simp)).trans h1) ?_
  intro n lvl x t c O hn hlv hok u1
  obtain ⟨k1, s1, c1⟩ := t
  simp only [txt1] at hok
  have e := Fright_eq (k := k1) (c := c1) hok.1
  have lv0 := eq_true (show 0 < lvl by omega)
  rw [tv_mk]
  have hA : ∃ s : St, R (mcRd (Cx (hand T740)) lp40 lvl n) as40b .top ⟨setPs τ [19] [.agg [I k1, .str s1, Ts c1]], [], O, c⟩ = some (.norm, s) ∧ s.O = O ∧ tget s.τ 3 = .iptr [I most] ∧ tget s.τ 4 = .ptr ⟨0, 4, 0⟩ v4 0 0 ∧ tget s.τ 6 = .ptr ⟨lvl, 6, 0⟩ c 0 0 ∧ lget s.L (6, 0) = some (c, .var [I k1, .str s1, Ts c1]) := by
    simp only [as40b, rfA, sub, c740, Tryz.f61, gets]
    change ∃ s : St, R (B40 lvl n) _ _ _ = _ ∧ _
    simp only [vmr, vmw, vmp, vza, ↓reduceIte, Nat.reduceBEq, Nat.reduceLT, Nat.reduceAdd, Nat.reduceEqDiff, reduceCtorEq, vmt, vzb, vzc, vlen, vleaf, velems, oks, vst, vmd, ty, Nat.reduceLeDiff, Nat.reduceMul, Nat.reduceSub, b40, setPs, X_top]
    refine ⟨_, rfl, rfl, ?_, ?_, ?_, ?_⟩
    all_goals simp only [vmr, vmw, vmp, vza, ↓reduceIte, Nat.reduceBEq, Nat.reduceLT, Nat.reduceAdd, Nat.reduceEqDiff, reduceCtorEq, vmt, vzb, vzc, vlen, vleaf, velems, oks, vst, vmd, ty, Nat.reduceLeDiff, Nat.reduceMul, Nat.reduceSub, b40, h3, h4]
  obtain ⟨s, hr, hO, t3, t4, t6, l6⟩ := hA
  refine ⟨s, hr, hO, fun O2 ho hq => ?_⟩
  have g1 := (ho ⟨0, 4, 0⟩ (by simp)).trans u1
  generalize Obj.loop lp40 τ [19] as40b bd40b .busy none = ob at hq ⊢
  simp only [bd40b, rfA, sub, c740, Tryz.f61, gets]
  change BodyQ _ _ _ _ _ _ _ _ (R (B40 lvl n) _ _ _)
  simp only [frmS]
  by_cases q1 : k1 > most
  · have q1' := eq_true q1
    rw [decide_eq_false (show ¬ k1 ≤ most by omega), Bool.and_false]
    simp only [vmr, vmw, vmp, vza, ↓reduceIte, Nat.reduceBEq, Nat.reduceLT, Nat.reduceAdd, Nat.reduceEqDiff, reduceCtorEq, vmt, vzb, vzc, vlen, vleaf, velems, oks, vst, vmd, ty, Nat.reduceLeDiff, Nat.reduceMul, Nat.reduceSub, b40, t3, t4, t6, l6, g1, obj_lo, put_lo, oput_get, key_eq, lv0, q1', X_top]
    refine ⟨_, _, rfl, rfl, ?_, ?_, fun l sl off h0 hl => ?_⟩
    case refine_3 => simp only [oput_hi h0]
    all_goals simp [U40b, oput_get, key_eq, hq]
  · have q1' := eq_false q1
    rw [decide_eq_true (show k1 ≤ most by omega), Bool.and_true]
    cases q2 : rightB k1 s1 c1 with
    | true =>
      rw [q2] at e
      simp only [vmr, vmw, vmp, vza, ↓reduceIte, Nat.reduceBEq, Nat.reduceLT, Nat.reduceAdd, Nat.reduceEqDiff, reduceCtorEq, vmt, vzb, vzc, vlen, vleaf, velems, oks, vst, vmd, ty, Nat.reduceLeDiff, Nat.reduceMul, Nat.reduceSub, b40, t3, t4, t6, l6, g1, obj_lo, put_lo, oput_get, key_eq, lv0, q1', e, X_top]
      refine ⟨_, _, rfl, rfl, ?_, ?_, fun l sl off h0 hl => ?_⟩
      all_goals simp [U40b, oput_get, key_eq, hq, g1]
    | false =>
      rw [q2] at e
      simp only [vmr, vmw, vmp, vza, ↓reduceIte, Nat.reduceBEq, Nat.reduceLT, Nat.reduceAdd, Nat.reduceEqDiff, reduceCtorEq, vmt, vzb, vzc, vlen, vleaf, velems, oks, vst, vmd, ty, Nat.reduceLeDiff, Nat.reduceMul, Nat.reduceSub, b40, t3, t4, t6, l6, g1, obj_lo, put_lo, oput_get, key_eq, lv0, q1', e, X_top]
      refine ⟨_, _, rfl, rfl, ?_, ?_, fun l sl off h0 hl => ?_⟩
      case refine_3 => simp only [oput_hi h0]
      all_goals simp [U40b, oput_get, key_eq, hq]
theorem txt_kids (k : Int) (s : List UInt8) (c : List Tm) (h : txt1 (.mk k s c)) : ∀ u ∈ c, txt1 u := by
  simp only [txt1] at h
  exact fun u hu => txs_mem h.2 hu
def Fi40 (n : Nat) (v : V) (r : Option (Ex × St)) : Prop := Fin (M740 (hand T740) n) [.cell 4 27] r = some (.ret v)
theorem h740 : SoundHand Tryz.prog (hand T740) := sound_cons F53_sound (sound_cons F63_sound (sound_cons F66_sound sound_nil))
theorem w40 (a : List Tm) (most : Int) (hb : szs a ≤ 1000000) (ho : txs a) : SoundPure Tryz.prog 61 [Ts a, I most] (.ret (I (errB most a))) := by
  refine s740 h740 (szs a + 4) (by simp) rfl ?_
  show Fi40 _ _ _
  have e1 := F53_eq a
  have e2 := Fdps_eq hb
  have r1 := fun k s => @range_all Nat (hand T740) (M740 (hand T740) (szs a + 4)) (szs a + 2) 0 k s (.tmp 8) #[9] as40a bd40a (fun _ => .ret)
  have r2 := fun k s => @range_all Bool (hand T740) (M740 (hand T740) (szs a + 4)) (szs a + 2) 0 k s (.tmp 18) #[19] as40b bd40b (fun _ => .ret)
  simp only [as40a, bd40a, as40b, bd40b, rfA, sub, c740, Tryz.f61, gets] at r1 r2
  simp only [c740, Tryz.f61, gets]
  simp only [vmr, vmw, vmp, vza, ↓reduceIte, Nat.reduceBEq, Nat.reduceLT, Nat.reduceAdd, Nat.reduceEqDiff, reduceCtorEq, vmt, vzb, vzc, vlen, vleaf, velems, oks, vst, vmd, ty, Nat.reduceLeDiff, Nat.reduceMul, Nat.reduceSub, m740, e1]
  have u40a : ∀ x b O O', (∀ sl off, (⟨0, sl, off⟩ : Key) ≠ ⟨0, 30, 0⟩ → O' ⟨0, sl, off⟩ = O ⟨0, sl, off⟩) → U40a 1 2 x b O → U40a 1 2 x b O' := fun x b O O' e ⟨h1, h2, h3⟩ => ⟨(e 4 0 (by simp)).trans h1, (e 5 0 (by simp)).trans h2, h3⟩
  have u40b : ∀ x b O O', (∀ sl off, (⟨0, sl, off⟩ : Key) ≠ ⟨0, 30, 0⟩ → O' ⟨0, sl, off⟩ = O ⟨0, sl, off⟩) → U40b 1 x b O → U40b 1 x b O' := fun x b O O' e h1 => (e 4 0 (by simp)).trans h1
  refine r1 _ _ (U := U40a 1 2) (ok := txt1) (step := cntS) (x := 0) (a := a) (P := Fi40 (szs a + 4) (I (errB most a))) rfl rfl (show okL.contains 88 = true by decide) rfl ?_ (y40a ?_ ?_) u40a txt_kids hb (fun t ht => txs_mem ho ht) (by omega) (fun O h => ⟨(h 4 0).trans ?_, (h 5 0).trans ?_, fun _ => by omega⟩) (fun _ => ⟨_, rfl⟩) ?_
  case refine_6 =>
    intro s' e O' hτ hu hL hj
    rw [cnt_L a 0 (by omega), Nat.zero_add] at hu hj
    obtain ⟨u1, u2, _⟩ := hu
    have g4 := hL 4 0 _ (by show 4 ≠ 30; omega) (by simp only [vmr, vmw, vmp, vza, ↓reduceIte, Nat.reduceBEq, Nat.reduceLT, Nat.reduceAdd, Nat.reduceEqDiff, reduceCtorEq, vmt, vzb, vzc, vlen, vleaf, velems, oks, vst, vmd, ty, Nat.reduceLeDiff, Nat.reduceMul, Nat.reduceSub, m740]) u1
    have t0 : tget s'.τ 0 = Ts a := by rw [hτ]; simp only [vmr, vmw, vmp, vza, ↓reduceIte, Nat.reduceBEq, Nat.reduceLT, Nat.reduceAdd, Nat.reduceEqDiff, reduceCtorEq, vmt, vzb, vzc, vlen, vleaf, velems, oks, vst, vmd, ty, Nat.reduceLeDiff, Nat.reduceMul, Nat.reduceSub, m740]
    have t3 : tget s'.τ 3 = .iptr [I most] := by rw [hτ]; simp only [vmr, vmw, vmp, vza, ↓reduceIte, Nat.reduceBEq, Nat.reduceLT, Nat.reduceAdd, Nat.reduceEqDiff, reduceCtorEq, vmt, vzb, vzc, vlen, vleaf, velems, oks, vst, vmd, ty, Nat.reduceLeDiff, Nat.reduceMul, Nat.reduceSub, m740]
    have t4 : tget s'.τ 4 = .ptr ⟨0, 4, 0⟩ 1 0 0 := by rw [hτ]; simp only [vmr, vmw, vmp, vza, ↓reduceIte, Nat.reduceBEq, Nat.reduceLT, Nat.reduceAdd, Nat.reduceEqDiff, reduceCtorEq, vmt, vzb, vzc, vlen, vleaf, velems, oks, vst, vmd, ty, Nat.reduceLeDiff, Nat.reduceMul, Nat.reduceSub, m740]
    clear hτ hL u1 u2
    unfold errB
    by_cases q1 : szs a ≤ 4000
    · rw [if_neg (show ¬ szs a > 4000 by omega)]
      rw [if_pos q1] at hj g4
      injection hj with hj
      subst hj
      simp only [if_true] at g4
      by_cases q2 : dps a > 100
      · have q2' : ((dps a : Int) > 100) = True := eq_true (by omega)
        rw [if_pos q2]
        simp only [vmr, vmw, vmp, vza, ↓reduceIte, Nat.reduceBEq, Nat.reduceLT, Nat.reduceAdd, Nat.reduceEqDiff, reduceCtorEq, vmt, vzb, vzc, vlen, vleaf, velems, oks, vst, vmd, ty, Nat.reduceLeDiff, Nat.reduceMul, Nat.reduceSub, m740, X_blk, t0, t4, g4, e2, q2']
        unfold Fi40
        simp only [vmr, vmw, vmp, vza, ↓reduceIte, Nat.reduceBEq, Nat.reduceLT, Nat.reduceAdd, Nat.reduceEqDiff, reduceCtorEq, vmt, vzb, vzc, vlen, vleaf, velems, oks, vst, vmd, ty, Nat.reduceLeDiff, Nat.reduceMul, Nat.reduceSub, vzr, m740, t4, g4]
      · have q2' : ((dps a : Int) > 100) = False := eq_false (by omega)
        rw [if_neg q2]
        simp only [vmr, vmw, vmp, vza, ↓reduceIte, Nat.reduceBEq, Nat.reduceLT, Nat.reduceAdd, Nat.reduceEqDiff, reduceCtorEq, vmt, vzb, vzc, vlen, vleaf, velems, oks, vst, vmd, ty, Nat.reduceLeDiff, Nat.reduceMul, Nat.reduceSub, m740, X_blk, t0, t3, t4, g4, e2, q2', e1]
        refine r2 _ _ (U := U40b 1) (ok := txt1) (step := frmS most) (x := true) (a := a) (P := Fi40 (szs a + 4) (I (if fms most a = true then 0 else 2))) rfl rfl (show okL.contains 88 = true by decide) rfl ?_ (y40b ?_ ?_) u40b txt_kids hb (fun t ht => txs_mem ho ht) (by omega) (fun O h => (h 4 0).trans ?_) (fun _ => ⟨_, rfl⟩) ?_
        case refine_5 =>
          intro s2 e O2 hτ hu hL hj
          rw [frm_L] at hu hj
          have g4 := hL 4 0 _ (by show 4 ≠ 30; omega) (by simp only [vmr, vmw, vmp, vza, ↓reduceIte, Nat.reduceBEq, Nat.reduceLT, Nat.reduceAdd, Nat.reduceEqDiff, reduceCtorEq, vmt, vzb, vzc, vlen, vleaf, velems, oks, vst, vmd, ty, Nat.reduceLeDiff, Nat.reduceMul, Nat.reduceSub, m740, g4]) hu
          have t4' : tget s2.τ 4 = .ptr ⟨0, 4, 0⟩ 1 0 0 := by rw [hτ]; simp only [vmr, vmw, vmp, vza, ↓reduceIte, Nat.reduceBEq, Nat.reduceLT, Nat.reduceAdd, Nat.reduceEqDiff, reduceCtorEq, vmt, vzb, vzc, vlen, vleaf, velems, oks, vst, vmd, ty, Nat.reduceLeDiff, Nat.reduceMul, Nat.reduceSub, m740, t4]
          cases q3 : fms most a with
          | true =>
            rw [q3] at hj g4
            injection hj with hj
            subst hj
            simp only [if_true] at g4 ⊢
            simp only [vmr, vmw, vmp, vza, ↓reduceIte, Nat.reduceBEq, Nat.reduceLT, Nat.reduceAdd, Nat.reduceEqDiff, reduceCtorEq, vmt, vzb, vzc, vlen, vleaf, velems, oks, vst, vmd, ty, Nat.reduceLeDiff, Nat.reduceMul, Nat.reduceSub, m740, X_blk, t4', g4]
            unfold Fi40
            simp only [vmr, vmw, vmp, vza, ↓reduceIte, Nat.reduceBEq, Nat.reduceLT, Nat.reduceAdd, Nat.reduceEqDiff, reduceCtorEq, vmt, vzb, vzc, vlen, vleaf, velems, oks, vst, vmd, ty, Nat.reduceLeDiff, Nat.reduceMul, Nat.reduceSub, vzr, m740, t4', g4]
          | false =>
            rw [q3] at hj g4
            injection hj with hj
            subst hj
            rw [X_ret]
            unfold Fi40
            simp only [vmr, vmw, vmp, vza, ↓reduceIte, Nat.reduceBEq, Nat.reduceLT, Nat.reduceAdd, Nat.reduceEqDiff, reduceCtorEq, vmt, vzb, vzc, vlen, vleaf, velems, oks, vst, vmd, ty, Nat.reduceLeDiff, Nat.reduceMul, Nat.reduceSub, vzr, m740, t4', g4]
        all_goals simp only [vmr, vmw, vmp, vza, ↓reduceIte, Nat.reduceBEq, Nat.reduceLT, Nat.reduceAdd, Nat.reduceEqDiff, reduceCtorEq, vmt, vzb, vzc, vlen, vleaf, velems, oks, vst, vmd, ty, Nat.reduceLeDiff, Nat.reduceMul, Nat.reduceSub, m740, t0, t3, t4, g4]
    · rw [if_pos (show szs a > 4000 by omega)]
      rw [if_neg q1] at hj g4
      injection hj with hj
      subst hj
      rw [X_ret]
      unfold Fi40
      simp only [vmr, vmw, vmp, vza, ↓reduceIte, Nat.reduceBEq, Nat.reduceLT, Nat.reduceAdd, Nat.reduceEqDiff, reduceCtorEq, vmt, vzb, vzc, vlen, vleaf, velems, oks, vst, vmd, ty, Nat.reduceLeDiff, Nat.reduceMul, Nat.reduceSub, vzr, m740, t4, g4]
  all_goals simp only [vmr, vmw, vmp, vza, ↓reduceIte, Nat.reduceBEq, Nat.reduceLT, Nat.reduceAdd, Nat.reduceEqDiff, reduceCtorEq, vmt, vzb, vzc, vlen, vleaf, velems, oks, vst, vmd, ty, Nat.reduceLeDiff, Nat.reduceMul, Nat.reduceSub, m740]
theorem F40_sound : ∀ args v, Ferr args = some v → SoundPure Tryz.prog 61 args (.ret v) := hF_sound fun p hp => w40 p.1 p.2 hp.1 hp.2
theorem w17 (a : List Tm) (hb : szs a ≤ 1000000) (ho : txs a) : SoundPure Tryz.prog 29 [Ts a] (.ret (I (errB 8 a))) := by
  refine s717 (H := [(61, Ferr)]) (sound_cons F40_sound sound_nil) 1 (by simp) rfl ?_
  simp only [c717, Tryz.f29, gets, sub]
  have e := Ferr_eq (k := 8) hb ho
  simp only [vmr, vmw, vmp, vza, ↓reduceIte, Nat.reduceBEq, Nat.reduceLT, Nat.reduceAdd, Nat.reduceEqDiff, reduceCtorEq, vmt, vzb, vzc, vlen, vleaf, velems, oks, vst, vmd, ty, Nat.reduceLeDiff, Nat.reduceMul, Nat.reduceSub, vzr, m717, e]
theorem F17_sound : ∀ args v, Fres args = some v → SoundPure Tryz.prog 29 args (.ret v) := hF_sound fun p hp => w17 p hp.1 hp.2
end Go.Vi
