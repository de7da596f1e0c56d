/-
  Walks of package ref: Valid, two.
-/
import Derived.Test.YtpdeblfnbcponaaGreatDoorXG
set_option linter.unusedSimpArgs false
set_option linter.unusedVariables false
set_option maxRecDepth 100000
set_option maxHeartbeats 1000000
set_option exponentiation.threshold 256
namespace Go.Vi
open Go Go.Proofs

def F31P (H : FuncId → Option (List V → Option V)) (n : Nat) (v : V) (r : Option (Ex × St)) : Prop := Fin (M31 H n) [.tmp 2] r = some (.ret v)
theorem l31 {H n k} {t : List UInt8} (ht : t.length ≤ 1000) {P : Option (Ex × St) → Prop} : ∀ r i n' s, t.drop i = r → r.length < n' → tget s.τ 0 = .str t → tget s.τ 3 = I (i : Nat) →
    (∀ s', r.all isDig = true → P (X (M31 H n) (.exit 0) k s')) → (∀ s', r.all isDig = false → tget s'.τ 2 = .bool false → P (some (.ret, s'))) →
    P (L (M31 H n) (sub [1, 1, 1, 0, 1, 0, 0] c31) n' k s) := by
  intro r
  induction r with
  | nil =>
    intro i n' s hi hn h0 h3 hx hf
    obtain ⟨n', rfl⟩ : ∃ m, n' = m + 1 := ⟨n' - 1, by omega⟩
    have hc := inlt (drop_nil' hi)
    rw [L_succ]
    simp only [vmr, vmw, vmp, vza, ↓reduceIte, Nat.reduceBEq, Nat.reduceLT, Nat.reduceAdd, Nat.reduceEqDiff, reduceCtorEq, vmt, vzb, vzc, vlen, vleaf, velems, oks, vst, vmd, ty, Nat.reduceLeDiff, Nat.reduceMul, Nat.reduceSub, c31, Tryz.f26, m31, h0, h3, hc]
    exact hx _ rfl
  | cons u r ih =>
    intro i n' s hi hn h0 h3 hx hf
    obtain ⟨n', rfl⟩ : ∃ m, n' = m + 1 := ⟨n' - 1, by omega⟩
    obtain ⟨hg, hd, hlt2⟩ := drop_cons hi
    have hc := ilt hlt2
    have hw := wsucc9' (i := i) (by omega)
    have ih := fun s => ih (i + 1) n' s hd (by simp at hn; omega)
    simp only [sub, c31, Tryz.f26, gets] at ih
    rw [L_succ]
    by_cases h1 : u.toNat < 48
    · have c1 : ((u.toNat : Int) < 48) = True := eq_true (by omega)
      have hu : isDig u = false := by simp [isDig]; omega
      simp only [vmr, vmw, vmp, vza, ↓reduceIte, Nat.reduceBEq, Nat.reduceLT, Nat.reduceAdd, Nat.reduceEqDiff, reduceCtorEq, vmt, vzb, vzc, vlen, vleaf, velems, oks, vst, vmd, ty, Nat.reduceLeDiff, Nat.reduceMul, Nat.reduceSub, c31, Tryz.f26, m31, h0, h3, hc, hg, c1]
      refine hf _ (by rw [List.all_cons, hu, Bool.false_and]) ?_
      simp only [vmr, vmw, vmp, vza, ↓reduceIte, Nat.reduceBEq, Nat.reduceLT, Nat.reduceAdd, Nat.reduceEqDiff, reduceCtorEq, vmt, vzb, vzc, vlen, vleaf, velems, oks, vst, vmd, ty, Nat.reduceLeDiff, Nat.reduceMul, Nat.reduceSub, m31]
    · have c1 : ((u.toNat : Int) < 48) = False := eq_false (by omega)
      by_cases h2 : u.toNat > 57
      · have c2 : ((u.toNat : Int) > 57) = True := eq_true (by omega)
        have hu : isDig u = false := by simp [isDig]; omega
        simp only [vmr, vmw, vmp, vza, ↓reduceIte, Nat.reduceBEq, Nat.reduceLT, Nat.reduceAdd, Nat.reduceEqDiff, reduceCtorEq, vmt, vzb, vzc, vlen, vleaf, velems, oks, vst, vmd, ty, Nat.reduceLeDiff, Nat.reduceMul, Nat.reduceSub, c31, Tryz.f26, m31, h0, h3, hc, hg, c1, c2]
        refine hf _ (by rw [List.all_cons, hu, Bool.false_and]) ?_
        simp only [vmr, vmw, vmp, vza, ↓reduceIte, Nat.reduceBEq, Nat.reduceLT, Nat.reduceAdd, Nat.reduceEqDiff, reduceCtorEq, vmt, vzb, vzc, vlen, vleaf, velems, oks, vst, vmd, ty, Nat.reduceLeDiff, Nat.reduceMul, Nat.reduceSub, m31]
      · have c2 : ((u.toNat : Int) > 57) = False := eq_false (by omega)
        have hu : isDig u = true := by simp [isDig]; omega
        simp only [vmr, vmw, vmp, vza, ↓reduceIte, Nat.reduceBEq, Nat.reduceLT, Nat.reduceAdd, Nat.reduceEqDiff, reduceCtorEq, vmt, vzb, vzc, vlen, vleaf, velems, oks, vst, vmd, ty, Nat.reduceLeDiff, Nat.reduceMul, Nat.reduceSub, c31, Tryz.f26, m31, h0, h3, hc, hg, c1, c2, hw]
        refine ih _ ?_ ?_ (fun s' h => hx s' (by rw [List.all_cons, hu, Bool.true_and]; exact h)) (fun s' h => hf s' (by rw [List.all_cons, hu, Bool.true_and]; exact h))
        all_goals simp only [vmr, vmw, vmp, vza, ↓reduceIte, Nat.reduceBEq, Nat.reduceLT, Nat.reduceAdd, Nat.reduceEqDiff, reduceCtorEq, vmt, vzb, vzc, vlen, vleaf, velems, oks, vst, vmd, ty, Nat.reduceLeDiff, Nat.reduceMul, Nat.reduceSub, m31, h0]
/-- What is accepted behind the sign. -/
def rest31 (t : List UInt8) : Bool := decide (1 ≤ t.length ∧ t.length ≤ 500) && !(decide (t.head? = some 48) && decide (1 < t.length)) && t.all isDig
def ref31 (s : List UInt8) : Bool := if s.head? = some 45 then (!(s.drop 1 == [48]) && rest31 (s.drop 1)) else rest31 s
theorem tail31 {H n} {t : List UInt8} {s : St} (hn : 600 < n) (h0 : tget s.τ 0 = .str t) : F31P H n (.bool (rest31 t)) (R (M31 H n) (sub [1, 1] c31) .top s) := by
  unfold rest31
  by_cases h1 : t.length < 1
  · have c1 : ((t.length : Int) < 1) = True := eq_true (by omega)
    rw [decide_eq_false (show ¬ (1 ≤ t.length ∧ t.length ≤ 500) by omega), Bool.false_and, Bool.false_and]
    simp only [sub, c31, Tryz.f26, gets]
    simp only [vmr, vmw, vmp, vza, ↓reduceIte, Nat.reduceBEq, Nat.reduceLT, Nat.reduceAdd, Nat.reduceEqDiff, reduceCtorEq, vmt, vzb, vzc, vlen, vleaf, velems, oks, vst, vmd, ty, Nat.reduceLeDiff, Nat.reduceMul, Nat.reduceSub, m31, h0, c1]
    unfold F31P
    simp only [vmr, vmw, vmp, vza, ↓reduceIte, Nat.reduceBEq, Nat.reduceLT, Nat.reduceAdd, Nat.reduceEqDiff, reduceCtorEq, vmt, vzb, vzc, vlen, vleaf, velems, oks, vst, vmd, ty, Nat.reduceLeDiff, Nat.reduceMul, Nat.reduceSub, vzr, m31]
  · have c1 : ((t.length : Int) < 1) = False := eq_false (by omega)
    by_cases h2 : t.length > 500
    · have c2 : ((t.length : Int) > 500) = True := eq_true (by omega)
      have d : decide (1 ≤ t.length ∧ t.length ≤ 500) = false := decide_eq_false (by omega)
      rw [d, Bool.false_and, Bool.false_and]
      simp only [sub, c31, Tryz.f26, gets]
      simp only [vmr, vmw, vmp, vza, ↓reduceIte, Nat.reduceBEq, Nat.reduceLT, Nat.reduceAdd, Nat.reduceEqDiff, reduceCtorEq, vmt, vzb, vzc, vlen, vleaf, velems, oks, vst, vmd, ty, Nat.reduceLeDiff, Nat.reduceMul, Nat.reduceSub, m31, h0, c1, c2]
      unfold F31P
      simp only [vmr, vmw, vmp, vza, ↓reduceIte, Nat.reduceBEq, Nat.reduceLT, Nat.reduceAdd, Nat.reduceEqDiff, reduceCtorEq, vmt, vzb, vzc, vlen, vleaf, velems, oks, vst, vmd, ty, Nat.reduceLeDiff, Nat.reduceMul, Nat.reduceSub, vzr, m31]
    · have c2 : ((t.length : Int) > 500) = False := eq_false (by omega)
      have d : decide (1 ≤ t.length ∧ t.length ≤ 500) = true := decide_eq_true (by omega)
      rw [d, Bool.true_and]
      have a1 := fun k s => @l31 H n k t (by omega) (F31P H n (.bool (t.all isDig))) t 0 n s rfl (by omega)
      simp only [sub, c31, Tryz.f26, gets] at a1 ⊢
      obtain ⟨u, r, hur⟩ : ∃ u r, t = u :: r := by cases t with | nil => simp at h1 | cons u r => exact ⟨u, r, rfl⟩
      have hg : t[0]? = some u := by rw [hur]; rfl
      have hh : t.head? = some u := by rw [hur]; rfl
      rw [hh]
      have hall : ∀ s : St, tget s.τ 0 = .str t → tget s.τ 3 = I ((0 : Nat) : Int) → F31P H n (.bool (t.all isDig)) (L (M31 H n) (sub [1, 1, 1, 0, 1, 0, 0] c31) n (.blk 0 (.seq (sub [1, 1, 1, 1] c31) .top)) s) := fun s e0 e3 => by
        simp only [sub, c31, Tryz.f26, gets]
        refine a1 _ _ e0 e3 (fun s' h => ?_) (fun s' h e2 => ?_)
        · rw [h]
          simp only [vmr, vmw, vmp, vza, ↓reduceIte, Nat.reduceBEq, Nat.reduceLT, Nat.reduceAdd, Nat.reduceEqDiff, reduceCtorEq, vmt, vzb, vzc, vlen, vleaf, velems, oks, vst, vmd, ty, Nat.reduceLeDiff, Nat.reduceMul, Nat.reduceSub, m31]
          unfold F31P
          simp only [vmr, vmw, vmp, vza, ↓reduceIte, Nat.reduceBEq, Nat.reduceLT, Nat.reduceAdd, Nat.reduceEqDiff, reduceCtorEq, vmt, vzb, vzc, vlen, vleaf, velems, oks, vst, vmd, ty, Nat.reduceLeDiff, Nat.reduceMul, Nat.reduceSub, vzr, m31]
        · rw [h]
          unfold F31P
          simp only [vmr, vmw, vmp, vza, ↓reduceIte, Nat.reduceBEq, Nat.reduceLT, Nat.reduceAdd, Nat.reduceEqDiff, reduceCtorEq, vmt, vzb, vzc, vlen, vleaf, velems, oks, vst, vmd, ty, Nat.reduceLeDiff, Nat.reduceMul, Nat.reduceSub, vzr, m31, e2]
      simp only [sub, c31, Tryz.f26, gets] at hall
      by_cases hu : u = 48
      · have hd : ((u.toNat : Int) == 48) = true := by subst hu; rfl
        have hd2 : decide (some u = some (48 : UInt8)) = true := by subst hu; rfl
        by_cases hr : t.length > 1
        · have c3 : ((t.length : Int) > 1) = True := eq_true (by omega)
          rw [hd2, decide_eq_true (show 1 < t.length from hr), Bool.true_and, Bool.not_true, Bool.false_and]
          simp only [vmr, vmw, vmp, vza, ↓reduceIte, Nat.reduceBEq, Nat.reduceLT, Nat.reduceAdd, Nat.reduceEqDiff, reduceCtorEq, vmt, vzb, vzc, vlen, vleaf, velems, oks, vst, vmd, ty, Nat.reduceLeDiff, Nat.reduceMul, Nat.reduceSub, m31, h0, hg, c1, c2, c3, hd]
          unfold F31P
          simp only [vmr, vmw, vmp, vza, ↓reduceIte, Nat.reduceBEq, Nat.reduceLT, Nat.reduceAdd, Nat.reduceEqDiff, reduceCtorEq, vmt, vzb, vzc, vlen, vleaf, velems, oks, vst, vmd, ty, Nat.reduceLeDiff, Nat.reduceMul, Nat.reduceSub, vzr, m31]
        · have c3 : ((t.length : Int) > 1) = False := eq_false (by omega)
          rw [hd2, decide_eq_false (show ¬ 1 < t.length from hr), Bool.true_and, Bool.not_false, Bool.true_and]
          simp only [vmr, vmw, vmp, vza, ↓reduceIte, Nat.reduceBEq, Nat.reduceLT, Nat.reduceAdd, Nat.reduceEqDiff, reduceCtorEq, vmt, vzb, vzc, vlen, vleaf, velems, oks, vst, vmd, ty, Nat.reduceLeDiff, Nat.reduceMul, Nat.reduceSub, m31, h0, hg, c1, c2, c3, hd]
          refine hall _ ?_ ?_
          all_goals simp only [vmr, vmw, vmp, vza, ↓reduceIte, Nat.reduceBEq, Nat.reduceLT, Nat.reduceAdd, Nat.reduceEqDiff, reduceCtorEq, vmt, vzb, vzc, vlen, vleaf, velems, oks, vst, vmd, ty, Nat.reduceLeDiff, Nat.reduceMul, Nat.reduceSub, m31, h0]
      · have hd : ((u.toNat : Int) == 48) = false := by
          rw [beq_eq_false_iff_ne]
          exact fun h => hu (UInt8.toNat_inj.1 (by simpa using (show u.toNat = 48 by omega)))
        have hd2 : decide (some u = some (48 : UInt8)) = false := decide_eq_false (by simpa using hu)
        rw [hd2, Bool.false_and, Bool.not_false, Bool.true_and]
        simp only [vmr, vmw, vmp, vza, ↓reduceIte, Nat.reduceBEq, Nat.reduceLT, Nat.reduceAdd, Nat.reduceEqDiff, reduceCtorEq, vmt, vzb, vzc, vlen, vleaf, velems, oks, vst, vmd, ty, Nat.reduceLeDiff, Nat.reduceMul, Nat.reduceSub, m31, h0, hg, c1, c2, hd]
        refine hall _ ?_ ?_
        all_goals simp only [vmr, vmw, vmp, vza, ↓reduceIte, Nat.reduceBEq, Nat.reduceLT, Nat.reduceAdd, Nat.reduceEqDiff, reduceCtorEq, vmt, vzb, vzc, vlen, vleaf, velems, oks, vst, vmd, ty, Nat.reduceLeDiff, Nat.reduceMul, Nat.reduceSub, m31, h0]
theorem z01 : ((0 : Int) ≤ 1) = True := eq_true (by decide)
theorem t1N : Int.toNat 1 = 1 := rfl
theorem k31 (s : List UInt8) : SoundPure Tryz.prog 26 [.str s] (.ret (.bool (ref31 s))) := by
  refine s31 (H := []) sound_nil 601 (by simp) rfl ?_
  show F31P (hand []) 601 (.bool (ref31 s)) _
  unfold ref31
  have a1 := fun t s => @tail31 (hand []) 601 t s (by omega)
  rw [show c31 = .seq (sub [0] c31) (.seq (sub [1, 0] c31) (sub [1, 1] c31)) from rfl]
  generalize sub [1, 1] c31 = tl at a1 ⊢
  simp only [sub, c31, Tryz.f26, gets]
  by_cases hs : s = []
  · have c0 : ((s.length : Int) > 0) = False := eq_false (by rw [hs]; decide)
    rw [if_neg (by simp [hs])]
    simp only [vmr, vmw, vmp, vza, ↓reduceIte, Nat.reduceBEq, Nat.reduceLT, Nat.reduceAdd, Nat.reduceEqDiff, reduceCtorEq, vmt, vzb, vzc, vlen, vleaf, velems, oks, vst, vmd, ty, Nat.reduceLeDiff, Nat.reduceMul, Nat.reduceSub, m31, c0]
    refine a1 s _ ?_
    simp only [vmr, vmw, vmp, vza, ↓reduceIte, Nat.reduceBEq, Nat.reduceLT, Nat.reduceAdd, Nat.reduceEqDiff, reduceCtorEq, vmt, vzb, vzc, vlen, vleaf, velems, oks, vst, vmd, ty, Nat.reduceLeDiff, Nat.reduceMul, Nat.reduceSub, m31]
  · obtain ⟨u, r, hur⟩ : ∃ u r, s = u :: r := by cases s with | nil => exact absurd rfl hs | cons u r => exact ⟨u, r, rfl⟩
    have c0 : ((s.length : Int) > 0) = True := eq_true (by simp [hur])
    have hg : s[0]? = some u := by rw [hur]; rfl
    have hdr : (List.drop 1 s).take (s.length - 1) = r := by simp [hur]
    have hdr2 : List.drop 1 s = r := by rw [hur]; rfl
    have hh : s.head? = some u := by rw [hur]; rfl
    rw [hh, hdr2]
    have h1le : (1 ≤ s.length) = True := eq_true (by simp [hur])
    by_cases hu : u = 45
    · have hd : ((u.toNat : Int) == 45) = true := by subst hu; rfl
      rw [if_pos (by rw [hu])]
      cases hz : r == [48] with
      | true =>
        simp only [vmr, vmw, vmp, vza, ↓reduceIte, Nat.reduceBEq, Nat.reduceLT, Nat.reduceAdd, Nat.reduceEqDiff, reduceCtorEq, vmt, vzb, vzc, vlen, vleaf, velems, oks, vst, vmd, ty, Nat.reduceLeDiff, Nat.reduceMul, Nat.reduceSub, m31, c0, hg, hd, sliceA, sliceV, boundOf, z01, t1N, h1le, hdr, strOp, hz, Option.map_some, Option.map_none, Nat.le_refl]
        unfold F31P
        simp only [vmr, vmw, vmp, vza, ↓reduceIte, Nat.reduceBEq, Nat.reduceLT, Nat.reduceAdd, Nat.reduceEqDiff, reduceCtorEq, vmt, vzb, vzc, vlen, vleaf, velems, oks, vst, vmd, ty, Nat.reduceLeDiff, Nat.reduceMul, Nat.reduceSub, vzr, m31]
      | false =>
        rw [Bool.not_false, Bool.true_and]
        simp only [vmr, vmw, vmp, vza, ↓reduceIte, Nat.reduceBEq, Nat.reduceLT, Nat.reduceAdd, Nat.reduceEqDiff, reduceCtorEq, vmt, vzb, vzc, vlen, vleaf, velems, oks, vst, vmd, ty, Nat.reduceLeDiff, Nat.reduceMul, Nat.reduceSub, m31, c0, hg, hd, sliceA, sliceV, boundOf, z01, t1N, h1le, hdr, strOp, hz, Option.map_some, Option.map_none, Nat.le_refl]
        refine a1 r _ ?_
        simp only [vmr, vmw, vmp, vza, ↓reduceIte, Nat.reduceBEq, Nat.reduceLT, Nat.reduceAdd, Nat.reduceEqDiff, reduceCtorEq, vmt, vzb, vzc, vlen, vleaf, velems, oks, vst, vmd, ty, Nat.reduceLeDiff, Nat.reduceMul, Nat.reduceSub, m31]
    · have hd : ((u.toNat : Int) == 45) = false := by
        rw [beq_eq_false_iff_ne]
        exact fun h => hu (UInt8.toNat_inj.1 (by simpa using (show u.toNat = 45 by omega)))
      rw [if_neg (by simpa using hu)]
      simp only [vmr, vmw, vmp, vza, ↓reduceIte, Nat.reduceBEq, Nat.reduceLT, Nat.reduceAdd, Nat.reduceEqDiff, reduceCtorEq, vmt, vzb, vzc, vlen, vleaf, velems, oks, vst, vmd, ty, Nat.reduceLeDiff, Nat.reduceMul, Nat.reduceSub, m31, c0, hg, hd]
      refine a1 _ _ ?_
      simp only [vmr, vmw, vmp, vza, ↓reduceIte, Nat.reduceBEq, Nat.reduceLT, Nat.reduceAdd, Nat.reduceEqDiff, reduceCtorEq, vmt, vzb, vzc, vlen, vleaf, velems, oks, vst, vmd, ty, Nat.reduceLeDiff, Nat.reduceMul, Nat.reduceSub, m31]
theorem ref31_eq (s : List UInt8) : ref31 s = validB s := by
  have key : ∀ t : List UInt8, rest31 t = (t == [48] || validT t) := by
    intro t
    unfold rest31 validT
    cases t with
    | nil => rfl
    | cons u r =>
      by_cases h2 : (u :: r).length > 500
      · have hr : r ≠ [] := by rintro rfl; simp at h2
        rw [decide_eq_false (show ¬ (1 ≤ (u :: r).length ∧ (u :: r).length ≤ 500) by omega), decide_eq_true h2]
        simp [hr]
      · rw [decide_eq_true (show 1 ≤ (u :: r).length ∧ (u :: r).length ≤ 500 by simp at h2 ⊢; omega), decide_eq_false h2]
        cases r with
        | nil =>
          by_cases hu : u = 48
          · subst hu; rfl
          · have : (u == 48) = false := by simpa using hu
            simp [hu, this]
        | cons v r =>
          by_cases hu : u = 48
          · subst hu; simp
          · simp [hu]
  unfold ref31 validB
  cases s with
  | nil => rfl
  | cons u r =>
    by_cases hu : u = 45
    · subst hu
      have hp : dropB (45 :: r) [45] = r := rfl
      rw [hp, if_pos (by rfl), key]
      show (!(r == [48]) && (r == [48] || validT r)) = ((45 :: r) == [48] || validT r)
      have h1 : ((45 :: r : List UInt8) == [48]) = false := by simp
      rw [h1]
      cases hz : r == [48] with
      | true =>
        have : r = [48] := by simpa using hz
        subst this
        rfl
      | false => simp
    · have hp : dropB (u :: r) [45] = u :: r := by
        unfold dropB
        rw [if_neg]
        simp [preB, hu]
      rw [hp, if_neg (by simpa using hu), key]
noncomputable def F31 : List V → Option V := hF (α := List UInt8) (fun a => [.str a]) (fun _ => True) (fun a => .bool (validB a))
theorem F31_eq (t : List UInt8) : F31 [.str t] = some (.bool (validB t)) := hF_eq (a := t) (one_inj' fun _ _ => Str_inj) (by simp only [cans, canStr]) trivial
theorem w31 (s : List UInt8) : SoundPure Tryz.prog 26 [.str s] (.ret (.bool (validB s))) := by
  have := k31 s
  rw [ref31_eq] at this
  exact this
end Go.Vi
set_option maxRecDepth 100000
set_option maxHeartbeats 1000000
set_option exponentiation.threshold 256
namespace Go.Vi
open Go Go.Proofs

section
variable {M : Mc} {k : K} {s : St} {z : Option St} {ops : Array Oper} {c0 : Nat} {r : List Oper} {d : Option Tmp} {ty : TypeId} {pos : String} {af : Array Edge} {g : Option (Nat × Bool)}
theorem omap_looks {o : Oper} {x : Option Operand} {τ : List (Nat × V)} {L O c} (hτ : τ = fget s.τ (Oper.looksAt ops o)) (h : ∀ y, x = some y → y ∈ o.op.operands.toList) : x.map (evalO ⟨τ, L, O, c⟩) = x.map (evalO s) := by
  cases x with
  | none => rfl
  | some y => simp only [Option.map_some, evalO_looks (h y rfl) hτ]
theorem RD_slice {t x lo hi} : RD M ops c0 z ({ dst := d, op := .slice t x lo hi none, type := ty, pos := pos, after := af, guard := g } :: r) k s = RW M ops c0 z d r k s (wantedV ops s g) (qr (valOf (qst ops { dst := d, op := .slice t x lo hi none, type := ty, pos := pos, after := af, guard := g } s) (sliceA M.E t (evalO s x) (lo.map (evalO s)) (hi.map (evalO s)) (qst ops { dst := d, op := .slice t x lo hi none, type := ty, pos := pos, after := af, guard := g } s)))) := by
  rw [RD_quiet rfl]
  unfold qop
  simp only [quietK, if_true, aop]
  rw [show evalO (qst ops { dst := d, op := .slice t x lo hi none, type := ty, pos := pos, after := af, guard := g } s) x = evalO s x from evalO_looks (o := { dst := d, op := .slice t x lo hi none, type := ty, pos := pos, after := af, guard := g }) (by simp [Op.operands, Call.operands]) rfl]
  rw [show lo.map (evalO (qst ops { dst := d, op := .slice t x lo hi none, type := ty, pos := pos, after := af, guard := g } s)) = lo.map (evalO s) from omap_looks (o := { dst := d, op := .slice t x lo hi none, type := ty, pos := pos, after := af, guard := g }) rfl (fun y hy => by subst hy; simp [Op.operands, Call.operands])]
  rw [show hi.map (evalO (qst ops { dst := d, op := .slice t x lo hi none, type := ty, pos := pos, after := af, guard := g } s)) = hi.map (evalO s) from omap_looks (o := { dst := d, op := .slice t x lo hi none, type := ty, pos := pos, after := af, guard := g }) rfl (fun y hy => by subst hy; simp [Op.operands, Call.operands])]
  try rfl
theorem evalPs_looks {o : Oper} {τ : List (Nat × V)} {L O c} (hτ : τ = fget s.τ (Oper.looksAt ops o)) : ∀ {ps : List (Nat × Operand)}, (∀ p ∈ ps, p.2 ∈ o.op.operands.toList) → evalPs ⟨τ, L, O, c⟩ ps = evalPs s ps
  | [], _ => rfl
  | (j, x) :: r, h => by simp only [evalPs, evalO_looks (h (j, x) (by simp)) hτ, evalPs_looks (ps := r) hτ fun y hy => h y (List.mem_cons_of_mem _ hy)]
theorem RD_build {t ps} : RD M ops c0 z ({ dst := d, op := .build t ps, type := ty, pos := pos, after := af, guard := g } :: r) k s = RW M ops c0 z d r k s (wantedV ops s g) (qr (match structT M.E.P t, zeroT M.E.P t with
    | true, some z => if (cellsV z).all leafV = true then valOf (qst ops { dst := d, op := .build t ps, type := ty, pos := pos, after := af, guard := g } s) ((fillE M.E.P t (cellsV z) (evalPs s ps.toList)).map .agg) else none
    | _, _ => none)) := by
  rw [RD_quiet rfl]
  unfold qop
  simp only [quietK, if_true, aop]
  rw [show evalPs (qst ops { dst := d, op := .build t ps, type := ty, pos := pos, after := af, guard := g } s) ps.toList = evalPs s ps.toList from evalPs_looks (o := { dst := d, op := .build t ps, type := ty, pos := pos, after := af, guard := g }) rfl (fun p hp => by simp [Op.operands, Call.operands]; exact ⟨p.1, by simpa using hp⟩)]
  try rfl
end
theorem take_snoc {l : List Int} {m : Nat} {x : Int} (h : l[m]? = some x) : l.take (m + 1) = l.take m ++ [x] := by
  rw [List.take_add_one, h]
  rfl
structure P47 (s : St) (b : Bool) (l : List Int) (v1 v2 m : Nat) : Prop where
  h1 : tget s.τ 1 = .ptr ⟨0, 1, 0⟩ v1 0 0
  h1' : lget s.L (1, 0) = some (v1, .var [.bool b, Is l])
  h2 : tget s.τ 2 = .ptr ⟨0, 2, 0⟩ v2 0 0
  h2' : lget s.L (2, 0) = some (v2, .var [.bool false, .nilS])
  h3 : tget s.τ 3 = I (m : Nat)
theorem wpred {m : Nat} (h : m + 1 ≤ 1000000) : IntKind.i64.wrap (((m + 1 : Nat) : Int) - 1) = ((m : Nat) : Int) := by rw [wrap_id] <;> omega
theorem l47 {H n k} {b : Bool} {l : List Int} {v1 v2 : Nat} (hl : l.length ≤ 1000000) {P : Option (Ex × St) → Prop} : ∀ m n' s, m < n' → m ≤ l.length → trimL (l.take m) = trimL l → P47 s b l v1 v2 m →
    (∀ s' m, l.take m = trimL l → m ≤ l.length → P47 s' b l v1 v2 m → P (X (M47 H n) (.exit 0) k s')) →
    P (L (M47 H n) (sub [1, 1, 0, 0, 0] c47) n' k s) := by
  intro m
  induction m with
  | zero =>
    intro n' s hn hm ht hP hx
    obtain ⟨n', rfl⟩ : ∃ m, n' = m + 1 := ⟨n' - 1, by omega⟩
    obtain ⟨h1, h1', h2, h2', h3⟩ := hP
    have hc : (((0 : Nat) : Int) > 0) = False := eq_false (by decide)
    rw [L_succ]
    simp only [vmr, vmw, vmp, vza, ↓reduceIte, Nat.reduceBEq, Nat.reduceLT, Nat.reduceAdd, Nat.reduceEqDiff, reduceCtorEq, vmt, vzb, vzc, vlen, vleaf, velems, oks, vst, vmd, ty, Nat.reduceLeDiff, Nat.reduceMul, Nat.reduceSub, c47, Tryz.f37, m47, h3, hc]
    refine hx _ 0 (by rw [← ht]; rfl) hm ⟨?_, ?_, ?_, ?_, ?_⟩
    all_goals simp only [vmr, vmw, vmp, vza, ↓reduceIte, Nat.reduceBEq, Nat.reduceLT, Nat.reduceAdd, Nat.reduceEqDiff, reduceCtorEq, vmt, vzb, vzc, vlen, vleaf, velems, oks, vst, vmd, ty, Nat.reduceLeDiff, Nat.reduceMul, Nat.reduceSub, m47, h1, h1', h2, h2', h3]
  | succ m ih =>
    intro n' s hn hm ht hP hx
    obtain ⟨n', rfl⟩ : ∃ m, n' = m + 1 := ⟨n' - 1, by omega⟩
    obtain ⟨h1, h1', h2, h2', h3⟩ := hP
    have hc : (((m + 1 : Nat) : Int) > 0) = True := eq_true (by omega)
    have hg : l[m]? = some l[m] := List.getElem?_eq_getElem (by omega)
    have hgm : (l.map I)[m]? = some (I l[m]) := by simp [hg]
    have w1 := wpred (m := m) (by omega)
    have hts := take_snoc hg
    have hlm : ((m : Int) < (l.length : Int)) = True := eq_true (by omega)
    generalize l[m] = x at *
    rw [hts, trimL_append] at ht
    have ih := fun s => ih n' s (by omega) (by omega)
    simp only [sub, c47, Tryz.f37, gets] at ih
    rw [L_succ]
    by_cases h0 : x = 0
    · subst h0
      rw [if_pos rfl] at ht
      simp only [vmr, vmw, vmp, vza, ↓reduceIte, Nat.reduceBEq, Nat.reduceLT, Nat.reduceAdd, Nat.reduceEqDiff, reduceCtorEq, vmt, vzb, vzc, vlen, vleaf, velems, oks, vst, vmd, ty, Nat.reduceLeDiff, Nat.reduceMul, Nat.reduceSub, c47, Tryz.f37, m47, h1, h1', h3, hc, w1, hgm, hlm]
      refine ih _ ht ⟨?_, ?_, ?_, ?_, ?_⟩ hx
      all_goals simp only [vmr, vmw, vmp, vza, ↓reduceIte, Nat.reduceBEq, Nat.reduceLT, Nat.reduceAdd, Nat.reduceEqDiff, reduceCtorEq, vmt, vzb, vzc, vlen, vleaf, velems, oks, vst, vmd, ty, Nat.reduceLeDiff, Nat.reduceMul, Nat.reduceSub, m47, h1, h1', h2, h2', h3, w1]
    · rw [if_neg h0] at ht
      have hx0 : (x == 0) = false := by rw [beq_eq_false_iff_ne]; exact h0
      simp only [vmr, vmw, vmp, vza, ↓reduceIte, Nat.reduceBEq, Nat.reduceLT, Nat.reduceAdd, Nat.reduceEqDiff, reduceCtorEq, vmt, vzb, vzc, vlen, vleaf, velems, oks, vst, vmd, ty, Nat.reduceLeDiff, Nat.reduceMul, Nat.reduceSub, c47, Tryz.f37, m47, h1, h1', h3, hc, w1, hgm, hlm, hx0]
      refine hx _ (m + 1) (by rw [hts]; exact ht) hm ⟨?_, ?_, ?_, ?_, ?_⟩
      all_goals simp only [vmr, vmw, vmp, vza, ↓reduceIte, Nat.reduceBEq, Nat.reduceLT, Nat.reduceAdd, Nat.reduceEqDiff, reduceCtorEq, vmt, vzb, vzc, vlen, vleaf, velems, oks, vst, vmd, ty, Nat.reduceLeDiff, Nat.reduceMul, Nat.reduceSub, m47, h1, h1', h2, h2', h3]
def F47P (H : FuncId → Option (List V → Option V)) (n : Nat) (v : V) (r : Option (Ex × St)) : Prop := Fin (M47 H n) [.cell 2 53] r = some (.ret v)
theorem w47 (b : Bool) (l : List Int) (hl : l.length ≤ 1000000) : SoundPure Tryz.prog 37 [Z b l] (.ret (Z (b && decide (0 < (trimL l).length)) (trimL l))) := by
  refine s47 (H := []) sound_nil (l.length + 2) (by simp) sZ ?_
  show F47P (hand []) (l.length + 2) _ _
  have hs : calm (M47 (hand []) (l.length + 2)).E (opsAt (sub [1, 1, 1, 0] c47)) = true := by kernel_rfl
  have a1 := fun k v1 v2 s => @l47 (hand []) (l.length + 2) k b l v1 v2 hl (F47P (hand []) (l.length + 2) (Z (b && decide (0 < (trimL l).length)) (trimL l))) l.length (l.length + 2) s (by omega) (by omega) (by rw [List.take_length])
  simp only [sub, c47, Tryz.f37, gets, opsAt] at a1 hs ⊢
  simp only [vmr, vmw, vmp, vza, ↓reduceIte, Nat.reduceBEq, Nat.reduceLT, Nat.reduceAdd, Nat.reduceEqDiff, reduceCtorEq, vmt, vzb, vzc, vlen, vleaf, velems, oks, vst, vmd, ty, Nat.reduceLeDiff, Nat.reduceMul, Nat.reduceSub, m47]
  refine a1 _ 0 1 _ ⟨?_, ?_, ?_, ?_, ?_⟩ (fun s' m ht hm ⟨h1, h1', h2, h2', h3⟩ => ?_)
  case refine_6 =>
    have hml : (trimL l).length = m := by rw [← ht, List.length_take]; omega
    have htm : (l.map I).take m = (trimL l).map I := by rw [← List.map_take, ht]
    have hle : (m ≤ l.length) = True := eq_true hm
    rw [hml]
    have h0m : ((0 : Int) ≤ (m : Int)) = True := eq_true (by omega)
    by_cases h0 : 0 < m
    · have c1 : ((m : Int) > 0) = True := eq_true (by omega)
      rw [decide_eq_true h0]
      cases b
      · simp only [vmr, vmw, vmp, vza, ↓reduceIte, Nat.reduceBEq, Nat.reduceLT, Nat.reduceAdd, Nat.reduceEqDiff, reduceCtorEq, vmt, vzb, vzc, vlen, vleaf, velems, oks, vst, vmd, ty, Nat.reduceLeDiff, Nat.reduceMul, Nat.reduceSub, m47, hs, h1, h1', h2, h2', h3, c1, RD_slice, RD_build, sliceA, sliceV, boundOf, firstFits, onone, Option.map_some, Option.map_none, h0m, hle, htm, List.drop_zero, Nat.sub_zero, Nat.zero_le, allflatI, pureLI, shI, import_I, refsI]
        unfold F47P
        simp only [vmr, vmw, vmp, vza, ↓reduceIte, Nat.reduceBEq, Nat.reduceLT, Nat.reduceAdd, Nat.reduceEqDiff, reduceCtorEq, vmt, vzb, vzc, vlen, vleaf, velems, oks, vst, vmd, ty, Nat.reduceLeDiff, Nat.reduceMul, Nat.reduceSub, vzr, m47, h2, h2']
      · simp only [vmr, vmw, vmp, vza, ↓reduceIte, Nat.reduceBEq, Nat.reduceLT, Nat.reduceAdd, Nat.reduceEqDiff, reduceCtorEq, vmt, vzb, vzc, vlen, vleaf, velems, oks, vst, vmd, ty, Nat.reduceLeDiff, Nat.reduceMul, Nat.reduceSub, m47, hs, h1, h1', h2, h2', h3, c1, RD_slice, RD_build, sliceA, sliceV, boundOf, firstFits, onone, Option.map_some, Option.map_none, h0m, hle, htm, List.drop_zero, Nat.sub_zero, Nat.zero_le, allflatI, pureLI, shI, import_I, refsI]
        unfold F47P
        simp only [vmr, vmw, vmp, vza, ↓reduceIte, Nat.reduceBEq, Nat.reduceLT, Nat.reduceAdd, Nat.reduceEqDiff, reduceCtorEq, vmt, vzb, vzc, vlen, vleaf, velems, oks, vst, vmd, ty, Nat.reduceLeDiff, Nat.reduceMul, Nat.reduceSub, vzr, m47, h2, h2']
    · have c1 : ((m : Int) > 0) = False := eq_false (by omega)
      rw [decide_eq_false h0]
      cases b
      · simp only [vmr, vmw, vmp, vza, ↓reduceIte, Nat.reduceBEq, Nat.reduceLT, Nat.reduceAdd, Nat.reduceEqDiff, reduceCtorEq, vmt, vzb, vzc, vlen, vleaf, velems, oks, vst, vmd, ty, Nat.reduceLeDiff, Nat.reduceMul, Nat.reduceSub, m47, hs, h1, h1', h2, h2', h3, c1, RD_slice, RD_build, sliceA, sliceV, boundOf, firstFits, onone, Option.map_some, Option.map_none, h0m, hle, htm, List.drop_zero, Nat.sub_zero, Nat.zero_le, allflatI, pureLI, shI, import_I, refsI]
        unfold F47P
        simp only [vmr, vmw, vmp, vza, ↓reduceIte, Nat.reduceBEq, Nat.reduceLT, Nat.reduceAdd, Nat.reduceEqDiff, reduceCtorEq, vmt, vzb, vzc, vlen, vleaf, velems, oks, vst, vmd, ty, Nat.reduceLeDiff, Nat.reduceMul, Nat.reduceSub, vzr, m47, h2, h2']
      · simp only [vmr, vmw, vmp, vza, ↓reduceIte, Nat.reduceBEq, Nat.reduceLT, Nat.reduceAdd, Nat.reduceEqDiff, reduceCtorEq, vmt, vzb, vzc, vlen, vleaf, velems, oks, vst, vmd, ty, Nat.reduceLeDiff, Nat.reduceMul, Nat.reduceSub, m47, hs, h1, h1', h2, h2', h3, c1, RD_slice, RD_build, sliceA, sliceV, boundOf, firstFits, onone, Option.map_some, Option.map_none, h0m, hle, htm, List.drop_zero, Nat.sub_zero, Nat.zero_le, allflatI, pureLI, shI, import_I, refsI]
        unfold F47P
        simp only [vmr, vmw, vmp, vza, ↓reduceIte, Nat.reduceBEq, Nat.reduceLT, Nat.reduceAdd, Nat.reduceEqDiff, reduceCtorEq, vmt, vzb, vzc, vlen, vleaf, velems, oks, vst, vmd, ty, Nat.reduceLeDiff, Nat.reduceMul, Nat.reduceSub, vzr, m47, h2, h2']
  all_goals simp only [vmr, vmw, vmp, vza, ↓reduceIte, Nat.reduceBEq, Nat.reduceLT, Nat.reduceAdd, Nat.reduceEqDiff, reduceCtorEq, vmt, vzb, vzc, vlen, vleaf, velems, oks, vst, vmd, ty, Nat.reduceLeDiff, Nat.reduceMul, Nat.reduceSub, m47]
theorem two_ZB : ∀ a b : Bool × List Int, ([Z a.1 a.2] : List V) = [Z b.1 b.2] → a = b := fun a b h => by
  injection h with h
  obtain ⟨h1, h2⟩ := Z_inj h
  exact Prod.ext h1 h2
noncomputable def F47 : List V → Option V := hF (α := Bool × List Int) (fun a => [Z a.1 a.2]) (fun a => a.2.length ≤ 1000000) (fun a => Z (a.1 && decide (0 < (trimL a.2).length)) (trimL a.2))
theorem F47_eq (b : Bool) {l : List Int} (hl : l.length ≤ 1000000) : F47 [Z b l] = some (Z (b && decide (0 < (trimL l).length)) (trimL l)) := hF_eq (a := (b, l)) two_ZB (by simp only [cans, canZ]) hl
/-- The value of an integer, in the reference. -/
abbrev Zr (z : Int) : V := Z (decide (z < 0)) (lm 10 z.natAbs)
abbrev D (n : Nat) : V := Is (lm 10 n)
theorem Zr_inj {x y : Int} (h : Zr x = Zr y) : x = y := by
  obtain ⟨h1, h2⟩ := Z_inj h
  have h3 := lm_inj (by omega) h2
  have h4 : (x < 0) ↔ (y < 0) := by simpa using h1
  omega
theorem F47_pos {k n : Nat} (hk : k ≤ 1000000) (h : n < 10 ^ k) : F47 [Z false (fx 10 k n)] = some (Zr (n : Int)) := by
  rw [F47_eq false (by rw [fx_len]; exact hk), trimL_fx (by omega) n k h, Bool.false_and]
  simp only [Zr, Int.natAbs_natCast]
  rw [decide_eq_false (show ¬ ((n : Int) < 0) by omega)]
theorem F47_neg {k n : Nat} (hk : k ≤ 1000000) (h : n < 10 ^ k) : F47 [Z true (fx 10 k n)] = some (Zr (-(n : Int))) := by
  rw [F47_eq true (by rw [fx_len]; exact hk), trimL_fx (by omega) n k h, Bool.true_and]
  simp only [Zr, Int.natAbs_neg, Int.natAbs_natCast]
  congr 3
  by_cases h : n = 0
  · subst h; simp [lm_zero]
  · have : 0 < (lm 10 n).length := by have := mt (lm_nil (B := 10) (by omega) n).1 h; omega
    exact propext ⟨fun _ => by omega, fun _ => this⟩
theorem F47_posD {n : Nat} (h : n < 10 ^ 1000000) : F47 [Z false (lm 10 n)] = some (Zr (n : Int)) := F47_pos (k := nlen 10 n n) (by rw [← lm_len]; exact (lm_len_le (by omega) n 1000000).2 h) (by have := lm_lt (B := 10) (by omega) n; rw [lm_len] at this; exact this)
end Go.Vi
