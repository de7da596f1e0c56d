/-
  Walks of package chiasmusref34: Check, bad, IsBad, Start.
-/
import Derived.Test.YtkpcgnjjkaamgaaDoorPA
set_option linter.unusedSimpArgs false
set_option linter.unusedVariables false
set_option maxRecDepth 100000
set_option maxHeartbeats 4000000
namespace Go.Vi
open Go Go.Proofs

noncomputable def F35 : List V → Option V := hF (α := Rule × Int) (fun a => [a.1.v, I a.2]) (fun a => a.1.ok) (fun a => .bool (rightF a.1 a.2))
theorem F35_eq {r : Rule} (n : Int) (h : r.ok) : F35 [r.v, I n] = some (.bool (rightF r n)) :=
  hF_eq (a := (r, n)) (two_inj (fun _ _ => Rule_inj) (fun _ _ => I_inj)) (by simp only [cans, canRulev, canI]) h
noncomputable abbrev U3 : List (FuncId × (List V → Option V)) := (47, F35) :: U1
theorem hU3 : SoundHand Tryd.prog (hand U3) := sound_cons (hF_sound fun a h => w35 a.1 a.2 h) hU1
theorem mem_of {α : Type} {l : List α} {i : Nat} {x : α} (hg : l[i]? = some x) : x ∈ l := by
  rw [List.getElem?_eq_some_iff] at hg; obtain ⟨_, hg⟩ := hg; rw [← hg]; exact List.getElem_mem _

/-! ### Check -/
theorem l15a {n k out v1} (p : Prot) (hp : p.ok) : ∀ r i n' s, p.rules.drop i = r → r.length < n' → tget s.τ 1 = .ptr ⟨0, 1, 0⟩ v1 0 0 → lget s.L (1, 0) = some (v1, .var p.cs) → tget s.τ 3 = I p.begin.length → tget s.τ 4 = I (i : Nat) →
    ((r.any fun r => !rightF r p.begin.length) = true → out = some (.ret (I 360))) →
    ((r.any fun r => !rightF r p.begin.length) = false → ∀ s', tget s'.τ 1 = .ptr ⟨0, 1, 0⟩ v1 0 0 → lget s'.L (1, 0) = some (v1, .var p.cs) → tget s'.τ 3 = I p.begin.length → Fin (M15 (hand U3) n) [.tmp 2] (X (M15 (hand U3) n) (.exit 0) k s') = out) →
    Fin (M15 (hand U3) n) [.tmp 2] (L (M15 (hand U3) n) (sub [1, 1, 1, 1, 0, 1, 0, 0] c15) n' k s) = out
  | [], i, n' + 1, s, hi, hn, h1, h1', h3, h4, ho, hx => by
    have hc := inlt (drop_nil' hi)
    rw [L_succ]
    simp only [vmr, vmw, vmp, vza, ↓reduceIte, Nat.reduceBEq, Nat.reduceLT, Nat.reduceAdd, Nat.reduceEqDiff, reduceCtorEq, vmt, vzb, vzc, vlen, vleaf, velems, oks, vst, vmd, ty, Nat.reduceLeDiff, Nat.reduceMul, Nat.reduceSub, c15, Tryd.f18, m15, h1, h1', h3, h4, hc]
    refine hx rfl _ ?_ ?_ ?_
    all_goals simp only [vmr, vmw, vmp, vza, ↓reduceIte, Nat.reduceBEq, Nat.reduceLT, Nat.reduceAdd, Nat.reduceEqDiff, reduceCtorEq, vmt, vzb, vzc, vlen, vleaf, velems, oks, vst, vmd, ty, Nat.reduceLeDiff, Nat.reduceMul, Nat.reduceSub, m15, h1, h1', h3]
  | x :: r, i, n' + 1, s, hi, hn, h1, h1', h3, h4, ho, hx => by
    obtain ⟨hg, hd, hlt⟩ := drop_cons hi
    have hc := ilt hlt
    have hw := wsucc hlt (by have := hp.rules; omega)
    have e := F35_eq p.begin.length (hp.rule x (mem_of hg))
    rw [L_succ]
    cases hr : rightF x p.begin.length with
    | false =>
      rw [hr] at e
      rw [ho (by simp [hr])]
      simp only [vmr, vmw, vmp, vza, ↓reduceIte, Nat.reduceBEq, Nat.reduceLT, Nat.reduceAdd, Nat.reduceEqDiff, reduceCtorEq, vmt, vzb, vzc, vlen, vleaf, velems, oks, vst, vmd, ty, Nat.reduceLeDiff, Nat.reduceMul, Nat.reduceSub, vzr, c15, Tryd.f18, m15, h1, h1', h3, h4, hc, hg, hw, e]
    | true =>
      rw [hr] at e
      simp only [vmr, vmw, vmp, vza, ↓reduceIte, Nat.reduceBEq, Nat.reduceLT, Nat.reduceAdd, Nat.reduceEqDiff, reduceCtorEq, vmt, vzb, vzc, vlen, vleaf, velems, oks, vst, vmd, ty, Nat.reduceLeDiff, Nat.reduceMul, Nat.reduceSub, c15, Tryd.f18, m15, h1, h1', h3, h4, hc, hg, hw, e]
      simp only [List.any_cons, hr, Bool.not_true, Bool.false_or] at ho hx
      have := fun s => @l15a n k out v1 p hp r (i+1) n' s hd (by simp at hn; omega)
      simp only [sub, c15, Tryd.f18, gets] at this
      refine this _ ?_ ?_ ?_ ?_ ho hx
      all_goals simp only [vmr, vmw, vmp, vza, ↓reduceIte, Nat.reduceBEq, Nat.reduceLT, Nat.reduceAdd, Nat.reduceEqDiff, reduceCtorEq, vmt, vzb, vzc, vlen, vleaf, velems, oks, vst, vmd, ty, Nat.reduceLeDiff, Nat.reduceMul, Nat.reduceSub, m15, h1, h1', h3, h4]
theorem l15b {n k out v1} (p : Prot) (hp : p.ok) : ∀ r i n' s, p.bad.drop i = r → r.length < n' → tget s.τ 1 = .ptr ⟨0, 1, 0⟩ v1 0 0 → lget s.L (1, 0) = some (v1, .var p.cs) → tget s.τ 3 = I p.begin.length → tget s.τ 5 = I (i : Nat) →
    ((r.any fun l => !withinF l p.begin.length 6) = true → out = some (.ret (I 360))) →
    ((r.any fun l => !withinF l p.begin.length 6) = false → ∀ s', Fin (M15 (hand U3) n) [.tmp 2] (X (M15 (hand U3) n) (.exit 2) k s') = out) →
    Fin (M15 (hand U3) n) [.tmp 2] (L (M15 (hand U3) n) (sub [1, 1, 1, 1, 1, 0, 1, 0, 0] c15) n' k s) = out
  | [], i, n' + 1, s, hi, hn, h1, h1', h3, h4, ho, hx => by
    have hc := inlt (drop_nil' hi)
    have := hx rfl
    rw [L_succ]
    simp only [vmr, vmw, vmp, vza, ↓reduceIte, Nat.reduceBEq, Nat.reduceLT, Nat.reduceAdd, Nat.reduceEqDiff, reduceCtorEq, vmt, vzb, vzc, vlen, vleaf, velems, oks, vst, vmd, ty, Nat.reduceLeDiff, Nat.reduceMul, Nat.reduceSub, c15, Tryd.f18, m15, h1, h1', h3, h4, hc, this]
  | x :: r, i, n' + 1, s, hi, hn, h1, h1', h3, h4, ho, hx => by
    obtain ⟨hg, hd, hlt⟩ := drop_cons hi
    have hc := ilt hlt
    have hw := wsucc hlt (by have := hp.bad; omega)
    have e := F34_eq (l := x) p.begin.length (by have := hp.bads x (mem_of hg); omega)
    rw [L_succ]
    cases hr : withinF x p.begin.length 6 with
    | false =>
      rw [hr] at e
      rw [ho (by simp [hr])]
      simp only [vmr, vmw, vmp, vza, ↓reduceIte, Nat.reduceBEq, Nat.reduceLT, Nat.reduceAdd, Nat.reduceEqDiff, reduceCtorEq, vmt, vzb, vzc, vlen, vleaf, velems, oks, vst, vmd, ty, Nat.reduceLeDiff, Nat.reduceMul, Nat.reduceSub, vzr, c15, Tryd.f18, m15, h1, h1', h3, h4, hc, hg, hw, e]
    | true =>
      rw [hr] at e
      simp only [vmr, vmw, vmp, vza, ↓reduceIte, Nat.reduceBEq, Nat.reduceLT, Nat.reduceAdd, Nat.reduceEqDiff, reduceCtorEq, vmt, vzb, vzc, vlen, vleaf, velems, oks, vst, vmd, ty, Nat.reduceLeDiff, Nat.reduceMul, Nat.reduceSub, c15, Tryd.f18, m15, h1, h1', h3, h4, hc, hg, hw, e]
      simp only [List.any_cons, hr, Bool.not_true, Bool.false_or] at ho hx
      have := fun s => @l15b n k out v1 p hp r (i+1) n' s hd (by simp at hn; omega)
      simp only [sub, c15, Tryd.f18, gets] at this
      refine this _ ?_ ?_ ?_ ?_ ho hx
      all_goals simp only [vmr, vmw, vmp, vza, ↓reduceIte, Nat.reduceBEq, Nat.reduceLT, Nat.reduceAdd, Nat.reduceEqDiff, reduceCtorEq, vmt, vzb, vzc, vlen, vleaf, velems, oks, vst, vmd, ty, Nat.reduceLeDiff, Nat.reduceMul, Nat.reduceSub, m15, h1, h1', h3, h4]
theorem w15 (p : Prot) (hp : p.ok) : SoundPure Tryd.prog 18 [p.v] (.ret (I (checkF p))) := by
  refine s15 hU3 (p.rules.length + p.bad.length + 1) (by simp) rfl ?_
  have e1 := F34_eq (l := p.begin) p.begin.length (by have := hp.begin; omega)
  have a1 := fun k out => @l15a (p.rules.length + p.bad.length + 1) k out 0 p hp p.rules 0 (p.rules.length + p.bad.length + 1)
  have a2 := fun k out => @l15b (p.rules.length + p.bad.length + 1) k out 0 p hp p.bad 0 (p.rules.length + p.bad.length + 1)
  simp only [sub, c15, Tryd.f18, gets] at a1 a2 ⊢
  unfold checkF
  by_cases q1 : (p.begin.length : Int) < 1
  · have q1' := eq_true q1
    simp only [vmr, vmw, vmp, vza, ↓reduceIte, Nat.reduceBEq, Nat.reduceLT, Nat.reduceAdd, Nat.reduceEqDiff, reduceCtorEq, vmt, vzb, vzc, vlen, vleaf, velems, oks, vst, vmd, ty, Nat.reduceLeDiff, Nat.reduceMul, Nat.reduceSub, vzr, m15, q1']
  have q1' := eq_false q1
  by_cases q2 : (p.begin.length : Int) > 8
  · have q2' := eq_true q2
    simp only [vmr, vmw, vmp, vza, ↓reduceIte, Nat.reduceBEq, Nat.reduceLT, Nat.reduceAdd, Nat.reduceEqDiff, reduceCtorEq, vmt, vzb, vzc, vlen, vleaf, velems, oks, vst, vmd, ty, Nat.reduceLeDiff, Nat.reduceMul, Nat.reduceSub, vzr, m15, q1', q2']
  have q2' := eq_false q2
  by_cases q3 : (p.rules.length : Int) > 12
  · have q3' := eq_true q3
    simp only [vmr, vmw, vmp, vza, ↓reduceIte, Nat.reduceBEq, Nat.reduceLT, Nat.reduceAdd, Nat.reduceEqDiff, reduceCtorEq, vmt, vzb, vzc, vlen, vleaf, velems, oks, vst, vmd, ty, Nat.reduceLeDiff, Nat.reduceMul, Nat.reduceSub, vzr, m15, q1', q2', q3']
  have q3' := eq_false q3
  by_cases q4 : (p.bad.length : Int) > 8
  · have q4' := eq_true q4
    simp only [vmr, vmw, vmp, vza, ↓reduceIte, Nat.reduceBEq, Nat.reduceLT, Nat.reduceAdd, Nat.reduceEqDiff, reduceCtorEq, vmt, vzb, vzc, vlen, vleaf, velems, oks, vst, vmd, ty, Nat.reduceLeDiff, Nat.reduceMul, Nat.reduceSub, vzr, m15, q1', q2', q3', q4']
  have q4' := eq_false q4
  cases g1 : withinF p.begin p.begin.length 6 with
  | false => simp only [vmr, vmw, vmp, vza, ↓reduceIte, Nat.reduceBEq, Nat.reduceLT, Nat.reduceAdd, Nat.reduceEqDiff, reduceCtorEq, vmt, vzb, vzc, vlen, vleaf, velems, oks, vst, vmd, ty, Nat.reduceLeDiff, Nat.reduceMul, Nat.reduceSub, vzr, m15, q1', q2', q3', q4', e1, g1]
  | true =>
  by_cases q5 : p.free < 0
  · have q5' := eq_true q5
    simp only [vmr, vmw, vmp, vza, ↓reduceIte, Nat.reduceBEq, Nat.reduceLT, Nat.reduceAdd, Nat.reduceEqDiff, reduceCtorEq, vmt, vzb, vzc, vlen, vleaf, velems, oks, vst, vmd, ty, Nat.reduceLeDiff, Nat.reduceMul, Nat.reduceSub, vzr, m15, q1', q2', q3', q4', e1, g1, q5']
  have q5' := eq_false q5
  by_cases q6 : p.free ≥ p.begin.length
  · have q6' := eq_true q6
    simp only [vmr, vmw, vmp, vza, ↓reduceIte, Nat.reduceBEq, Nat.reduceLT, Nat.reduceAdd, Nat.reduceEqDiff, reduceCtorEq, vmt, vzb, vzc, vlen, vleaf, velems, oks, vst, vmd, ty, Nat.reduceLeDiff, Nat.reduceMul, Nat.reduceSub, vzr, m15, q1', q2', q3', q4', e1, g1, q5', q6']
  have q6' := eq_false q6
  simp only [vmr, vmw, vmp, vza, ↓reduceIte, Nat.reduceBEq, Nat.reduceLT, Nat.reduceAdd, Nat.reduceEqDiff, reduceCtorEq, vmt, vzb, vzc, vlen, vleaf, velems, oks, vst, vmd, ty, Nat.reduceLeDiff, Nat.reduceMul, Nat.reduceSub, m15, q1', q2', q3', q4', e1, g1, q5', q6']
  refine a1 _ _ _ rfl (by omega) ?_ ?_ ?_ ?_ ?_ ?_
  case refine_5 => intro h; rw [h]; simp
  case refine_6 =>
    intro h s1 h1 h1' h3
    rw [h]
    simp only [vmr, vmw, vmp, vza, ↓reduceIte, Nat.reduceBEq, Nat.reduceLT, Nat.reduceAdd, Nat.reduceEqDiff, reduceCtorEq, vmt, vzb, vzc, vlen, vleaf, velems, oks, vst, vmd, ty, Nat.reduceLeDiff, Nat.reduceMul, Nat.reduceSub, m15, h1, h1', h3]
    refine a2 _ _ _ rfl (by omega) ?_ ?_ ?_ ?_ ?_ ?_
    case refine_5 => intro h; rw [h]; simp
    case refine_6 => intro h s2; rw [h]; simp only [vmr, vmw, vmp, vza, ↓reduceIte, Nat.reduceBEq, Nat.reduceLT, Nat.reduceAdd, Nat.reduceEqDiff, reduceCtorEq, vmt, vzb, vzc, vlen, vleaf, velems, oks, vst, vmd, ty, Nat.reduceLeDiff, Nat.reduceMul, Nat.reduceSub, vzr, m15]
    all_goals simp only [vmr, vmw, vmp, vza, ↓reduceIte, Nat.reduceBEq, Nat.reduceLT, Nat.reduceAdd, Nat.reduceEqDiff, reduceCtorEq, vmt, vzb, vzc, vlen, vleaf, velems, oks, vst, vmd, ty, Nat.reduceLeDiff, Nat.reduceMul, Nat.reduceSub, m15, h1, h1', h3]
  all_goals simp only [vmr, vmw, vmp, vza, ↓reduceIte, Nat.reduceBEq, Nat.reduceLT, Nat.reduceAdd, Nat.reduceEqDiff, reduceCtorEq, vmt, vzb, vzc, vlen, vleaf, velems, oks, vst, vmd, ty, Nat.reduceLeDiff, Nat.reduceMul, Nat.reduceSub, m15, Prot.cs]
noncomputable def F15 : List V → Option V := hF (α := Prot) (fun a => [a.v]) (fun a => a.ok) (fun a => I (checkF a))
theorem F15_eq {p : Prot} (h : p.ok) : F15 [p.v] = some (I (checkF p)) := hF_eq (a := p) (one_inj' fun _ _ => Prot_inj) (by simp only [cans, canProt]) h
/-! ### bad -/
end Go.Vi
set_option maxRecDepth 100000
set_option maxHeartbeats 4000000
namespace Go.Vi
open Go Go.Proofs

end Go.Vi
set_option maxRecDepth 100000
set_option maxHeartbeats 4000000
namespace Go.Vi
open Go Go.Proofs

end Go.Vi
set_option maxRecDepth 100000
set_option maxHeartbeats 4000000
namespace Go.Vi
open Go Go.Proofs

end Go.Vi
set_option maxRecDepth 100000
set_option maxHeartbeats 4000000
namespace Go.Vi
open Go Go.Proofs

end Go.Vi
set_option maxRecDepth 100000
set_option maxHeartbeats 4000000
namespace Go.Vi
open Go Go.Proofs

/-! ### ints -/
/-! ### few -/
def Rule.few (r : Rule) : Bool := !(decide ((r.take.length : Int) > 15) || decide ((r.give.length : Int) > 15) || decide ((r.clear.length : Int) > 15))
def fewF (p : Prot) : Bool := !(decide ((p.begin.length : Int) > 12) || decide ((p.rules.length : Int) > 15) || decide ((p.bad.length : Int) > 12)) && !(p.rules.any fun r => !r.few) && !(p.bad.any fun l => decide ((l.length : Int) > 15))
theorem l6a {H n k out v1} (p : Prot) (hb : p.rules.length ≤ 1000000) : ∀ r i n' s, p.rules.drop i = r → r.length < n' → tget s.τ 1 = .ptr ⟨0, 1, 0⟩ v1 0 0 → lget s.L (1, 0) = some (v1, .var p.cs) → tget s.τ 3 = I (i : Nat) →
    ((r.any fun r => !r.few) = true → out = some (.ret (.bool false))) →
    ((r.any fun r => !r.few) = false → ∀ s', tget s'.τ 1 = .ptr ⟨0, 1, 0⟩ v1 0 0 → lget s'.L (1, 0) = some (v1, .var p.cs) → Fin (M6 H n) [.tmp 2] (X (M6 H n) (.exit 0) k s') = out) →
    Fin (M6 H n) [.tmp 2] (L (M6 H n) (sub [1, 1, 0, 1, 0, 0] c6) n' k s) = out
  | [], i, n' + 1, s, hi, hn, h1, h1', h3, ho, hx => by
    have hc := inlt (drop_nil' hi)
    rw [L_succ]
    simp only [vmr, vmw, vmp, vza, ↓reduceIte, Nat.reduceBEq, Nat.reduceLT, Nat.reduceAdd, Nat.reduceEqDiff, reduceCtorEq, vmt, vzb, vzc, vlen, vleaf, velems, oks, vst, vmd, ty, Nat.reduceLeDiff, Nat.reduceMul, Nat.reduceSub, c6, Tryd.f4, m6, h1, h1', h3, hc]
    refine hx rfl _ ?_ ?_
    all_goals simp only [vmr, vmw, vmp, vza, ↓reduceIte, Nat.reduceBEq, Nat.reduceLT, Nat.reduceAdd, Nat.reduceEqDiff, reduceCtorEq, vmt, vzb, vzc, vlen, vleaf, velems, oks, vst, vmd, ty, Nat.reduceLeDiff, Nat.reduceMul, Nat.reduceSub, m6, h1, h1']
  | x :: r, i, n' + 1, s, hi, hn, h1, h1', h3, ho, hx => by
    obtain ⟨hg, hd, hlt⟩ := drop_cons hi
    have hc := ilt hlt
    have hw := wsucc hlt hb
    rw [L_succ]
    by_cases q1 : (x.take.length : Int) > 15
    · have q1' := eq_true q1
      rw [ho (by simp [Rule.few, q1])]
      simp only [vmr, vmw, vmp, vza, ↓reduceIte, Nat.reduceBEq, Nat.reduceLT, Nat.reduceAdd, Nat.reduceEqDiff, reduceCtorEq, vmt, vzb, vzc, vlen, vleaf, velems, oks, vst, vmd, ty, Nat.reduceLeDiff, Nat.reduceMul, Nat.reduceSub, vzr, c6, Tryd.f4, m6, h1, h1', h3, hc, hg, hw, q1']
    have q1' := eq_false q1
    by_cases q2 : (x.give.length : Int) > 15
    · have q2' := eq_true q2
      rw [ho (by simp [Rule.few, q2])]
      simp only [vmr, vmw, vmp, vza, ↓reduceIte, Nat.reduceBEq, Nat.reduceLT, Nat.reduceAdd, Nat.reduceEqDiff, reduceCtorEq, vmt, vzb, vzc, vlen, vleaf, velems, oks, vst, vmd, ty, Nat.reduceLeDiff, Nat.reduceMul, Nat.reduceSub, vzr, c6, Tryd.f4, m6, h1, h1', h3, hc, hg, hw, q1', q2']
    have q2' := eq_false q2
    by_cases q3 : (x.clear.length : Int) > 15
    · have q3' := eq_true q3
      rw [ho (by simp [Rule.few, q3])]
      simp only [vmr, vmw, vmp, vza, ↓reduceIte, Nat.reduceBEq, Nat.reduceLT, Nat.reduceAdd, Nat.reduceEqDiff, reduceCtorEq, vmt, vzb, vzc, vlen, vleaf, velems, oks, vst, vmd, ty, Nat.reduceLeDiff, Nat.reduceMul, Nat.reduceSub, vzr, c6, Tryd.f4, m6, h1, h1', h3, hc, hg, hw, q1', q2', q3']
    have q3' := eq_false q3
    have hf : x.few = true := by simp only [Rule.few, q1', q2', q3', decide_false, Bool.or_self, Bool.not_false]
    simp only [List.any_cons, hf, Bool.not_true, Bool.false_or] at ho hx
    simp only [vmr, vmw, vmp, vza, ↓reduceIte, Nat.reduceBEq, Nat.reduceLT, Nat.reduceAdd, Nat.reduceEqDiff, reduceCtorEq, vmt, vzb, vzc, vlen, vleaf, velems, oks, vst, vmd, ty, Nat.reduceLeDiff, Nat.reduceMul, Nat.reduceSub, c6, Tryd.f4, m6, h1, h1', h3, hc, hg, hw, q1', q2', q3']
    have := fun s => @l6a H n k out v1 p hb r (i+1) n' s hd (by simp at hn; omega)
    simp only [sub, c6, Tryd.f4, gets] at this
    refine this _ ?_ ?_ ?_ ho hx
    all_goals simp only [vmr, vmw, vmp, vza, ↓reduceIte, Nat.reduceBEq, Nat.reduceLT, Nat.reduceAdd, Nat.reduceEqDiff, reduceCtorEq, vmt, vzb, vzc, vlen, vleaf, velems, oks, vst, vmd, ty, Nat.reduceLeDiff, Nat.reduceMul, Nat.reduceSub, m6, h1, h1', h3]
theorem l6b {H n k out v1} (p : Prot) (hb : p.bad.length ≤ 1000000) : ∀ r i n' s, p.bad.drop i = r → r.length < n' → tget s.τ 1 = .ptr ⟨0, 1, 0⟩ v1 0 0 → lget s.L (1, 0) = some (v1, .var p.cs) → tget s.τ 4 = I (i : Nat) →
    ((r.any fun l => decide ((l.length : Int) > 15)) = true → out = some (.ret (.bool false))) →
    ((r.any fun l => decide ((l.length : Int) > 15)) = false → ∀ s', Fin (M6 H n) [.tmp 2] (X (M6 H n) (.exit 2) k s') = out) →
    Fin (M6 H n) [.tmp 2] (L (M6 H n) (sub [1, 1, 1, 0, 1, 0, 0] c6) n' k s) = out
  | [], i, n' + 1, s, hi, hn, h1, h1', h3, ho, hx => by
    have hc := inlt (drop_nil' hi)
    have := hx rfl
    rw [L_succ]
    simp only [vmr, vmw, vmp, vza, ↓reduceIte, Nat.reduceBEq, Nat.reduceLT, Nat.reduceAdd, Nat.reduceEqDiff, reduceCtorEq, vmt, vzb, vzc, vlen, vleaf, velems, oks, vst, vmd, ty, Nat.reduceLeDiff, Nat.reduceMul, Nat.reduceSub, c6, Tryd.f4, m6, h1, h1', h3, hc, this]
  | x :: r, i, n' + 1, s, hi, hn, h1, h1', h3, ho, hx => by
    obtain ⟨hg, hd, hlt⟩ := drop_cons hi
    have hc := ilt hlt
    have hw := wsucc hlt hb
    rw [L_succ]
    by_cases q1 : (x.length : Int) > 15
    · have q1' := eq_true q1
      rw [ho (by simp only [List.any_cons, q1', decide_true, Bool.true_or])]
      simp only [vmr, vmw, vmp, vza, ↓reduceIte, Nat.reduceBEq, Nat.reduceLT, Nat.reduceAdd, Nat.reduceEqDiff, reduceCtorEq, vmt, vzb, vzc, vlen, vleaf, velems, oks, vst, vmd, ty, Nat.reduceLeDiff, Nat.reduceMul, Nat.reduceSub, vzr, c6, Tryd.f4, m6, h1, h1', h3, hc, hg, hw, q1']
    have q1' := eq_false q1
    simp only [List.any_cons, q1', decide_false, Bool.false_or] at ho hx
    simp only [vmr, vmw, vmp, vza, ↓reduceIte, Nat.reduceBEq, Nat.reduceLT, Nat.reduceAdd, Nat.reduceEqDiff, reduceCtorEq, vmt, vzb, vzc, vlen, vleaf, velems, oks, vst, vmd, ty, Nat.reduceLeDiff, Nat.reduceMul, Nat.reduceSub, c6, Tryd.f4, m6, h1, h1', h3, hc, hg, hw, q1']
    have := fun s => @l6b H n k out v1 p hb r (i+1) n' s hd (by simp at hn; omega)
    simp only [sub, c6, Tryd.f4, gets] at this
    refine this _ ?_ ?_ ?_ ho hx
    all_goals simp only [vmr, vmw, vmp, vza, ↓reduceIte, Nat.reduceBEq, Nat.reduceLT, Nat.reduceAdd, Nat.reduceEqDiff, reduceCtorEq, vmt, vzb, vzc, vlen, vleaf, velems, oks, vst, vmd, ty, Nat.reduceLeDiff, Nat.reduceMul, Nat.reduceSub, m6, h1, h1', h3]
theorem w6 (p : Prot) : SoundPure Tryd.prog 4 [p.v] (.ret (.bool (fewF p))) := by
  refine s6 sound_nil (p.rules.length + p.bad.length + 1) (by simp) rfl ?_
  unfold fewF
  by_cases q1 : (p.begin.length : Int) > 12
  · have q1' := eq_true q1
    simp only [c6, Tryd.f4, gets]
    simp only [vmr, vmw, vmp, vza, ↓reduceIte, Nat.reduceBEq, Nat.reduceLT, Nat.reduceAdd, Nat.reduceEqDiff, reduceCtorEq, vmt, vzb, vzc, vlen, vleaf, velems, oks, vst, vmd, ty, Nat.reduceLeDiff, Nat.reduceMul, Nat.reduceSub, vzr, m6, q1']
  have q1' := eq_false q1
  by_cases q2 : (p.rules.length : Int) > 15
  · have q2' := eq_true q2
    simp only [c6, Tryd.f4, gets]
    simp only [vmr, vmw, vmp, vza, ↓reduceIte, Nat.reduceBEq, Nat.reduceLT, Nat.reduceAdd, Nat.reduceEqDiff, reduceCtorEq, vmt, vzb, vzc, vlen, vleaf, velems, oks, vst, vmd, ty, Nat.reduceLeDiff, Nat.reduceMul, Nat.reduceSub, vzr, m6, q1', q2']
  have q2' := eq_false q2
  by_cases q3 : (p.bad.length : Int) > 12
  · have q3' := eq_true q3
    simp only [c6, Tryd.f4, gets]
    simp only [vmr, vmw, vmp, vza, ↓reduceIte, Nat.reduceBEq, Nat.reduceLT, Nat.reduceAdd, Nat.reduceEqDiff, reduceCtorEq, vmt, vzb, vzc, vlen, vleaf, velems, oks, vst, vmd, ty, Nat.reduceLeDiff, Nat.reduceMul, Nat.reduceSub, vzr, m6, q1', q2', q3']
  have q3' := eq_false q3
  have a1 := fun k out => @l6a (hand []) (p.rules.length + p.bad.length + 1) k out 0 p (by omega) p.rules 0 (p.rules.length + p.bad.length + 1)
  have a2 := fun k out => @l6b (hand []) (p.rules.length + p.bad.length + 1) k out 0 p (by omega) p.bad 0 (p.rules.length + p.bad.length + 1)
  simp only [sub, c6, Tryd.f4, gets] at a1 a2 ⊢
  simp only [vmr, vmw, vmp, vza, ↓reduceIte, Nat.reduceBEq, Nat.reduceLT, Nat.reduceAdd, Nat.reduceEqDiff, reduceCtorEq, vmt, vzb, vzc, vlen, vleaf, velems, oks, vst, vmd, ty, Nat.reduceLeDiff, Nat.reduceMul, Nat.reduceSub, m6, q1', q2', q3']
  refine a1 _ _ _ rfl (by omega) ?_ ?_ ?_ ?_ ?_
  case refine_4 => intro h; rw [h]; simp
  case refine_5 =>
    intro h s1 h1 h1'
    rw [h]
    simp only [vmr, vmw, vmp, vza, ↓reduceIte, Nat.reduceBEq, Nat.reduceLT, Nat.reduceAdd, Nat.reduceEqDiff, reduceCtorEq, vmt, vzb, vzc, vlen, vleaf, velems, oks, vst, vmd, ty, Nat.reduceLeDiff, Nat.reduceMul, Nat.reduceSub, m6, h1, h1']
    refine a2 _ _ _ rfl (by omega) ?_ ?_ ?_ ?_ ?_
    case refine_4 => intro h; rw [h]; rfl
    case refine_5 => intro h s2; rw [h]; simp only [vmr, vmw, vmp, vza, ↓reduceIte, Nat.reduceBEq, Nat.reduceLT, Nat.reduceAdd, Nat.reduceEqDiff, reduceCtorEq, vmt, vzb, vzc, vlen, vleaf, velems, oks, vst, vmd, ty, Nat.reduceLeDiff, Nat.reduceMul, Nat.reduceSub, vzr, m6]
    all_goals simp only [vmr, vmw, vmp, vza, ↓reduceIte, Nat.reduceBEq, Nat.reduceLT, Nat.reduceAdd, Nat.reduceEqDiff, reduceCtorEq, vmt, vzb, vzc, vlen, vleaf, velems, oks, vst, vmd, ty, Nat.reduceLeDiff, Nat.reduceMul, Nat.reduceSub, m6, h1, h1']
  all_goals simp only [vmr, vmw, vmp, vza, ↓reduceIte, Nat.reduceBEq, Nat.reduceLT, Nat.reduceAdd, Nat.reduceEqDiff, reduceCtorEq, vmt, vzb, vzc, vlen, vleaf, velems, oks, vst, vmd, ty, Nat.reduceLeDiff, Nat.reduceMul, Nat.reduceSub, m6, Prot.cs]
noncomputable def F6 : List V → Option V := hF (α := Prot) (fun a => [a.v]) (fun a => True) (fun a => .bool (fewF a))
theorem F6_eq (p : Prot) : F6 [p.v] = some (.bool (fewF p)) := hF_eq (a := p) (one_inj' fun _ _ => Prot_inj) (by simp only [cans, canProt]) trivial
theorem few_ok {p : Prot} (h : fewF p = true) : p.ok := by
  unfold fewF at h
  simp only [Bool.and_eq_true, Bool.not_eq_true', Bool.or_eq_false_iff, decide_eq_false_iff_not, List.any_eq_false, Bool.not_eq_false', decide_eq_true_eq, Bool.not_eq_true, Bool.not_eq_false] at h
  refine ⟨by omega, by omega, fun r hr => ?_, by omega, fun l hl => ?_⟩
  · have := h.1.2 r hr
    simp only [Rule.few, Bool.not_eq_true', Bool.or_eq_false_iff, decide_eq_false_iff_not] at this
    exact ⟨by omega, by omega, by omega⟩
  · have := h.2 l hl; omega

/-! ### given -/
theorem room55 {n : Nat} (h : n * 80 ≤ 140737488355328) : roomOk Tryd.prog 55 n = true := by
  simp [roomOk, ty, cellsV, leafV]; omega
theorem fits55 (r : Rule) : fitsE Tryd.prog 55 r.v = true := by simp [fitsE, ty, leafV]
def fieldR (vr : Nat) (d : List Rule) : V := match d with | [] => .nilS | x :: r => .ref ⟨0, 3, 3⟩ vr 0 (r.length + 1)
theorem wsucc9 {i n : Nat} (h : i < n) (hn : n * 80 ≤ 140737488355328) : IntKind.i64.wrap ((i:Int) + 1) = ((i + 1 : Nat) : Int) := by rw [wrap_id] <;> omega
theorem l9 {H n k out v1 v3} (p : Prot) (hp : p.rules.length * 80 ≤ 140737488355328) : ∀ (r d : List Rule) vr n' s, p.rules = d ++ r → r.length < n' → tget s.τ 1 = .ptr ⟨0, 1, 0⟩ v1 0 0 → lget s.L (1, 0) = some (v1, .var p.cs) → tget s.τ 4 = I (d.length : Nat) →
    tget s.τ 3 = .ptr ⟨0, 3, 0⟩ v3 0 0 → lget s.L (3, 0) = some (v3, .var [Is p.begin, I p.free, fieldR vr d, Iss p.bad]) → (d ≠ [] → lget s.L (3, 3) = some (vr, .arr 4 (d.map Rule.v))) → (∃ v2 cs, tget s.τ 2 = .ptr ⟨0, 2, 0⟩ v2 0 0 ∧ lget s.L (2, 0) = some (v2, .var cs) ∧ cs.length = 4) →
    (∀ s' vr, (∃ v2 cs, tget s'.τ 2 = .ptr ⟨0, 2, 0⟩ v2 0 0 ∧ lget s'.L (2, 0) = some (v2, .var cs) ∧ cs.length = 4) → tget s'.τ 3 = .ptr ⟨0, 3, 0⟩ v3 0 0 → lget s'.L (3, 0) = some (v3, .var [Is p.begin, I p.free, fieldR vr p.rules, Iss p.bad]) → (p.rules ≠ [] → lget s'.L (3, 3) = some (vr, .arr 4 (p.rules.map Rule.v))) →
      Fin (M9 H n) [.cell 2 31] (X (M9 H n) (.exit 0) k s') = out) →
    Fin (M9 H n) [.cell 2 31] (L (M9 H n) (sub [1, 1, 0, 1, 0, 0] c9) n' k s) = out
  | [], d, vr, n' + 1, s, hi, hn, h1, h1', h4, h3, h3', h33, ⟨v2, cs, h2, h2', hcs⟩, hx => by
    rw [List.append_nil] at hi
    have hc := inlt (n := p.rules.length) (i := d.length) (by rw [hi]; exact Nat.le_refl _)
    rw [L_succ]
    simp only [vmr, vmw, vmp, vza, ↓reduceIte, Nat.reduceBEq, Nat.reduceLT, Nat.reduceAdd, Nat.reduceEqDiff, reduceCtorEq, vmt, vzb, vzc, vlen, vleaf, velems, oks, vst, vmd, ty, Nat.reduceLeDiff, Nat.reduceMul, Nat.reduceSub, c9, Tryd.f6, m9, h1, h1', h4, hc]
    refine hx _ vr ⟨v2, cs, ?_, ?_, hcs⟩ ?_ ?_ (fun hne => ?_)
    case refine_5 => rw [hi] at hne ⊢; have := h33 hne; simp only [vmr, vmw, vmp, vza, ↓reduceIte, Nat.reduceBEq, Nat.reduceLT, Nat.reduceAdd, Nat.reduceEqDiff, reduceCtorEq, vmt, vzb, vzc, vlen, vleaf, velems, oks, vst, vmd, ty, Nat.reduceLeDiff, Nat.reduceMul, Nat.reduceSub, m9, this]
    all_goals simp only [vmr, vmw, vmp, vza, ↓reduceIte, Nat.reduceBEq, Nat.reduceLT, Nat.reduceAdd, Nat.reduceEqDiff, reduceCtorEq, vmt, vzb, vzc, vlen, vleaf, velems, oks, vst, vmd, ty, Nat.reduceLeDiff, Nat.reduceMul, Nat.reduceSub, m9, h2, h2', h3, h3', hi]
  | x :: r, d, vr, n' + 1, s, hi, hn, h1, h1', h4, h3, h3', h33, ⟨v2, cs, h2, h2', hcs⟩, hx => by
    have hlt : d.length < p.rules.length := by rw [hi]; simp
    have hg : p.rules[d.length]? = some x := by rw [hi]; simp
    have hc := ilt hlt
    have hw := wsucc9 hlt (by omega)
    have hr1 := @room55 1 (by omega)
    have hr2 := @room55 (d.length + 1) (by omega)
    have ih := fun vr s => @l9 H n k out v1 v3 p hp r (d ++ [x]) vr n' s (by rw [hi]; simp) (by simp at hn; omega)
    have hdl : (d ++ [x]).length = d.length + 1 := by simp
    rw [hdl] at ih
    simp only [sub, c9, Tryd.f6, gets] at ih
    rw [L_succ]
    cases d with
    | nil =>
      simp only [fieldR, List.length_nil, z0, Nat.zero_add, List.nil_append] at h3' hc hg hw hr2 ih h4
      simp only [vmr, vmw, vmp, vza, ↓reduceIte, Nat.reduceBEq, Nat.reduceLT, Nat.reduceAdd, Nat.reduceEqDiff, reduceCtorEq, vmt, vzb, vzc, vlen, vleaf, velems, oks, vst, vmd, ty, Nat.reduceLeDiff, Nat.reduceMul, Nat.reduceSub, c9, Tryd.f6, m9, h1, h1', h3, h3', h4, hc, hg, hw, hr1, hr2, fits55, fieldR, List.map_cons]
      refine ih (s.c + 1 + 1 + 1) _ ?_ ?_ ?_ ?_ ?_ (fun _ => ?_) ⟨v2, cs, ?_, ?_, hcs⟩ hx
      all_goals simp only [vmr, vmw, vmp, vza, ↓reduceIte, Nat.reduceBEq, Nat.reduceLT, Nat.reduceAdd, Nat.reduceEqDiff, reduceCtorEq, vmt, vzb, vzc, vlen, vleaf, velems, oks, vst, vmd, ty, Nat.reduceLeDiff, Nat.reduceMul, Nat.reduceSub, m9, h1, h1', h2, h2', h3, h3', h4, List.map_cons]
    | cons y q =>
      simp only [fieldR, List.length_cons] at h3' hc hg hw hr2 ih h4
      have h33' := h33 (by simp)
      simp only [vmr, vmw, vmp, vza, ↓reduceIte, Nat.reduceBEq, Nat.reduceLT, Nat.reduceAdd, Nat.reduceEqDiff, reduceCtorEq, vmt, vzb, vzc, vlen, vleaf, velems, oks, vst, vmd, ty, Nat.reduceLeDiff, Nat.reduceMul, Nat.reduceSub, c9, Tryd.f6, m9, h1, h1', h3, h3', h33', h4, hc, hg, hw, hr1, hr2, fits55, fieldR, List.map_cons]
      refine ih (s.c + 1 + 1 + 1) _ ?_ ?_ ?_ ?_ ?_ (fun _ => ?_) ⟨v2, cs, ?_, ?_, hcs⟩ hx
      all_goals simp only [vmr, vmw, vmp, vza, ↓reduceIte, Nat.reduceBEq, Nat.reduceLT, Nat.reduceAdd, Nat.reduceEqDiff, reduceCtorEq, vmt, vzb, vzc, vlen, vleaf, velems, oks, vst, vmd, ty, Nat.reduceLeDiff, Nat.reduceMul, Nat.reduceSub, m9, h1, h1', h2, h2', h3, h3', h4, List.map_cons, List.map_append, List.length_append]
theorem w9 (p : Prot) (hp : p.rules.length * 80 ≤ 140737488355328) : SoundPure Tryd.prog 6 [p.v] (.ret p.v) := by
  have key : ∀ X, (p.rules = [] → X = .nilS) → (p.rules ≠ [] → X = .own 4 (p.rules.map Rule.v)) → SoundPure Tryd.prog 6 [p.v] (.ret (.agg [Is p.begin, I p.free, X, Iss p.bad])) := by
    intro X hX1 hX2
    refine s9 sound_nil (p.rules.length + 1) (by simp) ?_ ?_
    · by_cases h : p.rules = []
      · rw [hX1 h]; rfl
      · rw [hX2 h]; rfl
    have a1 := fun k out => @l9 (hand []) (p.rules.length + 1) k out 0 2 p hp p.rules [] 0 (p.rules.length + 1)
    simp only [sub, c9, Tryd.f6, gets] at a1 ⊢
    simp only [vmr, vmw, vmp, vza, ↓reduceIte, Nat.reduceBEq, Nat.reduceLT, Nat.reduceAdd, Nat.reduceEqDiff, reduceCtorEq, vmt, vzb, vzc, vlen, vleaf, velems, oks, vst, vmd, ty, Nat.reduceLeDiff, Nat.reduceMul, Nat.reduceSub, m9]
    refine a1 _ _ _ (by simp) (by omega) ?_ ?_ ?_ ?_ ?_ (fun h => absurd rfl h) ⟨1, [.nilS, I 0, .nilS, .nilS], ?_, ?_, rfl⟩ ?_
    case refine_8 =>
      rintro s' vr ⟨v2, cs, h2, h2', hcs⟩ h3 h3' h33
      have hd4 : cs.drop 4 = [] := List.drop_eq_nil_of_le (by omega)
      cases hr : p.rules with
      | nil =>
        rw [hX1 hr]
        rw [hr] at h3'
        simp only [fieldR] at h3'
        simp only [vmr, vmw, vmp, vza, ↓reduceIte, Nat.reduceBEq, Nat.reduceLT, Nat.reduceAdd, Nat.reduceEqDiff, reduceCtorEq, vmt, vzb, vzc, vlen, vleaf, velems, oks, vst, vmd, ty, Nat.reduceLeDiff, Nat.reduceMul, Nat.reduceSub, vzr, m9, h2, h2', hcs, hd4, h3, h3']
      | cons y q =>
        have h33' := h33 (by rw [hr]; simp)
        rw [hr] at h3' h33'
        rw [hX2 (by rw [hr]; simp), hr]
        simp only [fieldR] at h3'
        have ht := take_len Rule.v (y :: q)
        simp only [List.length_cons, List.map_cons] at ht
        simp only [vmr, vmw, vmp, vza, ↓reduceIte, Nat.reduceBEq, Nat.reduceLT, Nat.reduceAdd, Nat.reduceEqDiff, reduceCtorEq, vmt, vzb, vzc, vlen, vleaf, velems, oks, vst, vmd, ty, Nat.reduceLeDiff, Nat.reduceMul, Nat.reduceSub, vzr, m9, h2, h2', hcs, hd4, h3, h3', h33', List.map_cons, ht]
    all_goals simp only [vmr, vmw, vmp, vza, ↓reduceIte, Nat.reduceBEq, Nat.reduceLT, Nat.reduceAdd, Nat.reduceEqDiff, reduceCtorEq, vmt, vzb, vzc, vlen, vleaf, velems, oks, vst, vmd, ty, Nat.reduceLeDiff, Nat.reduceMul, Nat.reduceSub, m9, Prot.cs, fieldR]
  by_cases h : p.rules = []
  · have := sound_imm (key .nilS (fun _ => rfl) (fun h' => absurd h h')) rfl
    simp only [imm, immL, can, cans, cans_I, cans_map_id canIs] at this
    rw [show p.v = .agg [Is p.begin, I p.free, .lst [], Iss p.bad] by simp [Prot.v, Prot.cs, h]]
    rw [show p.v = .agg [Is p.begin, I p.free, .lst [], Iss p.bad] by simp [Prot.v, Prot.cs, h]] at this
    exact this
  · have := sound_imm (key (.own 4 (p.rules.map Rule.v)) (fun h' => absurd h' h) (fun _ => rfl)) rfl
    simp only [imm, immL, can, cans, cans_I, cans_map_id canIs, cans_map_id canRulev] at this
    exact this
noncomputable def F9 : List V → Option V := hF (α := Prot) (fun a => [a.v]) (fun a => a.rules.length * 80 ≤ 140737488355328) (fun a => a.v)
theorem F9_eq' {p : Prot} (h : p.rules.length * 80 ≤ 140737488355328) : F9 [p.v] = some p.v := hF_eq (a := p) (one_inj' fun _ _ => Prot_inj) (by simp only [cans, canProt]) h
theorem F9_eq {p : Prot} (h : p.ok) : F9 [p.v] = some p.v := F9_eq' (by have := h.rules; omega)
end Go.Vi
set_option maxRecDepth 100000
set_option maxHeartbeats 4000000
namespace Go.Vi
open Go Go.Proofs

def isTT : Option (COut × Nat × Heap) → Bool
  | some (.ret (.bool b), _, _) => b
  | _ => false
theorem isTT_some {r : Option (COut × Nat × Heap)} (h : isTT r = true) : ∃ c O, r = some (.ret (.bool true), c, O) := by
  unfold isTT at h
  split at h
  · subst h; exact ⟨_, _, rfl⟩
  · cases h
theorem run7 : isTT (evF (Cx (hand [])) 40 5 [] 0 0 noH) = true := by kernel_rfl
theorem w7 : SoundPure Tryd.prog 5 [] (.ret (.bool true)) := by
  obtain ⟨c, O, h⟩ := isTT_some run7
  exact pure_of_call (evF_sound (C := Cx (hand [])) sound_nil good mixed 40) h rfl
noncomputable def F7 : List V → Option V := hF (α := Unit) (fun _ => []) (fun _ => True) (fun _ => .bool true)
theorem F7_eq : F7 [] = some (.bool true) := hF_eq (a := ()) (fun _ _ _ => rfl) rfl trivial
end Go.Vi
set_option maxRecDepth 100000
set_option maxHeartbeats 1000000
namespace Go.Vi
open Go Go.Proofs

inductive Tm where
  | mk (k : Int) (s : List UInt8) (c : List Tm)
mutual
def tv : Tm → V
  | .mk k s c => .agg [I k, .str s, .lst (tvs c)]
def tvs : List Tm → List V
  | [] => []
  | x :: r => tv x :: tvs r
end
theorem tvs_map : ∀ l : List Tm, tvs l = l.map tv
  | [] => rfl
  | x :: r => by simp only [tvs, List.map_cons, tvs_map r]
abbrev Ts (l : List Tm) : V := .lst (l.map tv)
theorem tv_mk (k : Int) (s : List UInt8) (c : List Tm) : tv (.mk k s c) = .agg [I k, .str s, Ts c] := by simp only [tv, tvs_map]
mutual
def szt : Tm → Nat
  | .mk _ _ c => szs c + 1
def szs : List Tm → Nat
  | [] => 0
  | x :: r => szt x + szs r
end
theorem szs_len : ∀ l : List Tm, l.length ≤ szs l
  | [] => Nat.le_refl _
  | .mk _ _ c :: r => by have := szs_len r; simp only [szs, szt, List.length_cons]; omega
theorem szs_mem {k s c} : ∀ {l : List Tm}, Tm.mk k s c ∈ l → szs c < szs l
  | x :: r, h => by
    simp only [szs]
    rcases List.mem_cons.1 h with rfl | h
    · simp only [szt]; omega
    · have := szs_mem h; omega
mutual
theorem tv_inj : ∀ a b : Tm, tv a = tv b → a = b
  | .mk k s c, .mk k' s' c', h => by
    simp only [tv] at h
    injection h with h
    injection h with h1 h2
    injection h2 with h2 h3
    injection h3 with h3
    injection h3 with h3
    injection h1 with _ h1
    injection h2 with h2
    rw [h1, h2, tvs_inj c c' h3]
theorem tvs_inj : ∀ a b : List Tm, tvs a = tvs b → a = b
  | [], [], _ => rfl
  | [], _ :: _, h => by simp [tvs] at h
  | _ :: _, [], h => by simp [tvs] at h
  | x :: r, y :: q, h => by
    simp only [tvs] at h
    injection h with h1 h2
    rw [tv_inj x y h1, tvs_inj r q h2]
end
theorem Ts_inj {a b : List Tm} (h : Ts a = Ts b) : a = b := by
  injection h with h
  rw [← tvs_map, ← tvs_map] at h
  exact tvs_inj _ _ h
mutual
theorem can_tv : ∀ a : Tm, can (tv a) = tv a
  | .mk k s c => by simp only [tv, can, cans, cans_tvs c]
theorem cans_tvs : ∀ a : List Tm, cans (tvs a) = tvs a
  | [] => rfl
  | x :: r => by simp only [tvs, cans, can_tv x, cans_tvs r]
end
theorem can_Ts (l : List Tm) : can (Ts l) = Ts l := by
  show V.lst (cans (l.map tv)) = V.lst (l.map tv)
  rw [← tvs_map, cans_tvs]

/-! ### Sign -/
def cmpS (a b : List UInt8) : Int := if Op.bytesLess a b = true then -1 else if (!(Op.bytesLess a b || a == b)) = true then 1 else 0
theorem w350 (a b : List UInt8) : SoundPure Tryd.prog 50 [.str a, .str b] (.ret (I (cmpS a b))) := by
  refine s350 (H := []) sound_nil 1 (by simp) rfl ?_
  simp only [c350, Tryd.f50, gets, sub]
  unfold cmpS
  cases h1 : Op.bytesLess a b with
  | true => simp only [vmr, vmw, vmp, vza, ↓reduceIte, Nat.reduceBEq, Nat.reduceLT, Nat.reduceAdd, Nat.reduceEqDiff, reduceCtorEq, vmt, vzb, vzc, vlen, vleaf, velems, oks, vst, vmd, ty, Nat.reduceLeDiff, Nat.reduceMul, Nat.reduceSub, vzr, m350, strOp, h1]
  | false =>
    cases h2 : a == b with
    | true => simp only [vmr, vmw, vmp, vza, ↓reduceIte, Nat.reduceBEq, Nat.reduceLT, Nat.reduceAdd, Nat.reduceEqDiff, reduceCtorEq, vmt, vzb, vzc, vlen, vleaf, velems, oks, vst, vmd, ty, Nat.reduceLeDiff, Nat.reduceMul, Nat.reduceSub, vzr, m350, strOp, h1, h2, Bool.or_true, Bool.or_false, Bool.false_or]
    | false => simp only [vmr, vmw, vmp, vza, ↓reduceIte, Nat.reduceBEq, Nat.reduceLT, Nat.reduceAdd, Nat.reduceEqDiff, reduceCtorEq, vmt, vzb, vzc, vlen, vleaf, velems, oks, vst, vmd, ty, Nat.reduceLeDiff, Nat.reduceMul, Nat.reduceSub, vzr, m350, strOp, h1, h2, Bool.or_true, Bool.or_false, Bool.false_or]
noncomputable def F350 : List V → Option V := hF (α := List UInt8 × List UInt8) (fun p => [.str p.1, .str p.2]) (fun _ => True) (fun p => I (cmpS p.1 p.2))
theorem F350_eq (a b : List UInt8) : F350 [.str a, .str b] = some (I (cmpS a b)) :=
  hF_eq (a := (a, b)) (two_inj (fun _ _ => Str_inj) (fun _ _ => Str_inj)) (by simp only [cans, canStr]) trivial

/-! ### Compare -/
def cmpN (a b : Nat) : Int := if a < b then -1 else if a > b then 1 else 0
mutual
def cmpT : Tm → Tm → Int
  | .mk k s c, .mk k' s' c' => if k ≠ k' then (if k < k' then -1 else 1) else if cmpS s s' ≠ 0 then cmpS s s' else cmpL c c'
def cmpL : List Tm → List Tm → Int
  | [], [] => 0
  | [], _ :: _ => -1
  | _ :: _, [] => 1
  | x :: r, y :: q => if cmpT x y ≠ 0 then cmpT x y else cmpL r q
end
noncomputable def F329 (m : Nat) : List V → Option V := hF (α := List Tm × List Tm) (fun p => [Ts p.1, Ts p.2]) (fun p => szs p.1 < m) (fun p => I (cmpL p.1 p.2))
theorem F329_eq {m : Nat} {a b : List Tm} (h : szs a < m) : F329 m [Ts a, Ts b] = some (I (cmpL a b)) :=
  hF_eq (a := (a, b)) (two_inj (fun _ _ => Ts_inj) (fun _ _ => Ts_inj)) (by simp only [cans, can_Ts]) h
noncomputable abbrev T329 (m : Nat) : List (FuncId × (List V → Option V)) := [(29, F329 m), (50, F350)]
def F329P (m n : Nat) (v : V) (r : Option (Ex × St)) : Prop := Fin (M329 (hand (T329 m)) n) [.tmp 4] r = some (.ret v)
theorem l329 {m n k} (a b : List Tm) (hl : a.length ≤ 1000000) (hm : szs a ≤ m) : ∀ r q i n' s, a.drop i = r → b.drop i = q → i ≤ a.length → i ≤ b.length → r.length < n' → tget s.τ 0 = Ts a → tget s.τ 1 = Ts b → tget s.τ 5 = I i →
    (∀ s', tget s'.τ 0 = Ts a → tget s'.τ 1 = Ts b → F329P m n (I (cmpN a.length b.length)) (X (M329 (hand (T329 m)) n) (.exit 0) k s')) →
    F329P m n (I (cmpL r q)) (L (M329 (hand (T329 m)) n) (sub [1, 0, 1, 0, 0] c329) n' k s)
  | [], q, i, n' + 1, s, ha, hb, ia, ib, hn, h0, h1, h5, hx => by
    have ea : a.length = i := by have := drop_nil' ha; omega
    have hc := inlt (drop_nil' ha)
    have e : cmpL [] q = cmpN a.length b.length := by
      cases q with
      | nil => have := drop_nil' hb; simp only [cmpL, cmpN]; rw [if_neg (by omega), if_neg (by omega)]
      | cons y q => have := (drop_cons hb).2.2; simp only [cmpL, cmpN]; rw [if_pos (by omega)]
    rw [L_succ, e]
    simp only [vmr, vmw, vmp, vza, ↓reduceIte, Nat.reduceBEq, Nat.reduceLT, Nat.reduceAdd, Nat.reduceEqDiff, reduceCtorEq, vmt, vzb, vzc, vlen, vleaf, velems, oks, vst, vmd, ty, Nat.reduceLeDiff, Nat.reduceMul, Nat.reduceSub, c329, Tryd.f29, m329, h0, h1, h5, hc]
    refine hx _ ?_ ?_
    all_goals simp only [vmr, vmw, vmp, vza, ↓reduceIte, Nat.reduceBEq, Nat.reduceLT, Nat.reduceAdd, Nat.reduceEqDiff, reduceCtorEq, vmt, vzb, vzc, vlen, vleaf, velems, oks, vst, vmd, ty, Nat.reduceLeDiff, Nat.reduceMul, Nat.reduceSub, m329, h0, h1]
  | x :: r, [], i, n' + 1, s, ha, hb, ia, ib, hn, h0, h1, h5, hx => by
    obtain ⟨g1, g2, g3⟩ := drop_cons ha
    have hc := ilt g3
    have hc2 := inlt (drop_nil' hb)
    have e : cmpL (x :: r) [] = cmpN a.length b.length := by
      have := drop_nil' hb; simp only [cmpL, cmpN]; rw [if_neg (by omega), if_pos (by omega)]
    rw [L_succ, e]
    simp only [vmr, vmw, vmp, vza, ↓reduceIte, Nat.reduceBEq, Nat.reduceLT, Nat.reduceAdd, Nat.reduceEqDiff, reduceCtorEq, vmt, vzb, vzc, vlen, vleaf, velems, oks, vst, vmd, ty, Nat.reduceLeDiff, Nat.reduceMul, Nat.reduceSub, c329, Tryd.f29, m329, h0, h1, h5, hc, hc2]
    refine hx _ ?_ ?_
    all_goals simp only [vmr, vmw, vmp, vza, ↓reduceIte, Nat.reduceBEq, Nat.reduceLT, Nat.reduceAdd, Nat.reduceEqDiff, reduceCtorEq, vmt, vzb, vzc, vlen, vleaf, velems, oks, vst, vmd, ty, Nat.reduceLeDiff, Nat.reduceMul, Nat.reduceSub, m329, h0, h1]
  | .mk k1 s1 c1 :: r, .mk k2 s2 c2 :: q, i, n' + 1, s, ha, hb, ia, ib, hn, h0, h1, h5, hx => by
    obtain ⟨g1, g2, g3⟩ := drop_cons ha
    obtain ⟨f1, f2, f3⟩ := drop_cons hb
    have hc := ilt g3
    have hc2 := ilt f3
    have hw := wsucc g3 hl
    have e1 := F350_eq s1 s2
    have e2 : F329 m [Ts c1, Ts c2] = some (I (cmpL c1 c2)) := F329_eq (by have := szs_mem (l := a) (List.mem_of_getElem? g1); omega)
    have ga : (a.map tv)[i]? = some (.agg [I k1, .str s1, Ts c1]) := by rw [List.getElem?_map, g1, Option.map_some, tv_mk]
    have gb : (b.map tv)[i]? = some (.agg [I k2, .str s2, Ts c2]) := by rw [List.getElem?_map, f1, Option.map_some, tv_mk]
    have hs := @d329_4 (hand (T329 m)) n
    have hs2 := @d329_5 (hand (T329 m)) n
    have hs3 := @d329_8 (hand (T329 m)) n
    have hs4 := @d329_11 (hand (T329 m)) n
    have ih := fun s => l329 (m := m) (n := n) (k := k) a b hl hm r q (i + 1) n' s g2 f2 (by omega) (by omega) (by simp at hn; omega)
    simp only [sub, c329, Tryd.f29, gets, opsAt] at hs hs2 hs3 hs4 ih
    rw [L_succ]
    by_cases q1 : k1 = k2
    · have d1 : (k1 != k2) = false := by rw [q1]; simp
      by_cases q2 : cmpS s1 s2 = 0
      · have d2 : ((0 : Int) != 0) = false := by decide
        by_cases q3 : cmpL c1 c2 = 0
        · have e : cmpL (.mk k1 s1 c1 :: r) (.mk k2 s2 c2 :: q) = cmpL r q := by simp only [cmpL, cmpT, q1, q2, q3, ne_eq, not_true_eq_false, if_false]
          rw [e]
          rw [q2] at e1
          rw [q3] at e2
          simp only [vmr, vmw, vmp, vza, ↓reduceIte, Nat.reduceBEq, Nat.reduceLT, Nat.reduceAdd, Nat.reduceEqDiff, reduceCtorEq, vmt, vzb, vzc, vlen, vleaf, velems, oks, vst, vmd, ty, Nat.reduceLeDiff, Nat.reduceMul, Nat.reduceSub, c329, Tryd.f29, m329, h0, h1, h5, hc, hc2, ga, gb, hs, hs2, hs3, hs4, d1, d2, e1, e2, hw]
          refine ih _ ?_ ?_ ?_ hx
          all_goals simp only [vmr, vmw, vmp, vza, ↓reduceIte, Nat.reduceBEq, Nat.reduceLT, Nat.reduceAdd, Nat.reduceEqDiff, reduceCtorEq, vmt, vzb, vzc, vlen, vleaf, velems, oks, vst, vmd, ty, Nat.reduceLeDiff, Nat.reduceMul, Nat.reduceSub, m329, h0, h1, hw]
        · have e : cmpL (.mk k1 s1 c1 :: r) (.mk k2 s2 c2 :: q) = cmpL c1 c2 := by simp only [cmpL, cmpT, q1, q2, q3, ne_eq, not_true_eq_false, not_false_eq_true, if_false, if_true]
          have d3 : (cmpL c1 c2 != 0) = true := by simpa using q3
          rw [e]
          rw [q2] at e1
          simp only [vmr, vmw, vmp, vza, ↓reduceIte, Nat.reduceBEq, Nat.reduceLT, Nat.reduceAdd, Nat.reduceEqDiff, reduceCtorEq, vmt, vzb, vzc, vlen, vleaf, velems, oks, vst, vmd, ty, Nat.reduceLeDiff, Nat.reduceMul, Nat.reduceSub, c329, Tryd.f29, m329, h0, h1, h5, hc, hc2, ga, gb, hs, hs2, hs3, hs4, d1, d2, d3, e1, e2, hw]
          unfold F329P
          simp only [vmr, vmw, vmp, vza, ↓reduceIte, Nat.reduceBEq, Nat.reduceLT, Nat.reduceAdd, Nat.reduceEqDiff, reduceCtorEq, vmt, vzb, vzc, vlen, vleaf, velems, oks, vst, vmd, ty, Nat.reduceLeDiff, Nat.reduceMul, Nat.reduceSub, vzr, m329]
      · have e : cmpL (.mk k1 s1 c1 :: r) (.mk k2 s2 c2 :: q) = cmpS s1 s2 := by simp only [cmpL, cmpT, q1, q2, ne_eq, not_true_eq_false, not_false_eq_true, if_false, if_true]
        have d2 : (cmpS s1 s2 != 0) = true := by simpa using q2
        rw [e]
        simp only [vmr, vmw, vmp, vza, ↓reduceIte, Nat.reduceBEq, Nat.reduceLT, Nat.reduceAdd, Nat.reduceEqDiff, reduceCtorEq, vmt, vzb, vzc, vlen, vleaf, velems, oks, vst, vmd, ty, Nat.reduceLeDiff, Nat.reduceMul, Nat.reduceSub, c329, Tryd.f29, m329, h0, h1, h5, hc, hc2, ga, gb, hs, hs2, hs3, hs4, d1, d2, e1, e2, hw]
        unfold F329P
        simp only [vmr, vmw, vmp, vza, ↓reduceIte, Nat.reduceBEq, Nat.reduceLT, Nat.reduceAdd, Nat.reduceEqDiff, reduceCtorEq, vmt, vzb, vzc, vlen, vleaf, velems, oks, vst, vmd, ty, Nat.reduceLeDiff, Nat.reduceMul, Nat.reduceSub, vzr, m329]
    · have d1 : (k1 != k2) = true := by simpa using q1
      by_cases q2 : k1 < k2
      · have e : cmpL (.mk k1 s1 c1 :: r) (.mk k2 s2 c2 :: q) = -1 := by simp only [cmpL, cmpT, q1, q2, ne_eq, not_true_eq_false, not_false_eq_true, if_false, if_true]; rw [if_pos (by decide)]
        have q2' := eq_true q2
        rw [e]
        simp only [vmr, vmw, vmp, vza, ↓reduceIte, Nat.reduceBEq, Nat.reduceLT, Nat.reduceAdd, Nat.reduceEqDiff, reduceCtorEq, vmt, vzb, vzc, vlen, vleaf, velems, oks, vst, vmd, ty, Nat.reduceLeDiff, Nat.reduceMul, Nat.reduceSub, c329, Tryd.f29, m329, h0, h1, h5, hc, hc2, ga, gb, hs, hs2, hs3, hs4, d1, q2', e1, e2, hw]
        unfold F329P
        simp only [vmr, vmw, vmp, vza, ↓reduceIte, Nat.reduceBEq, Nat.reduceLT, Nat.reduceAdd, Nat.reduceEqDiff, reduceCtorEq, vmt, vzb, vzc, vlen, vleaf, velems, oks, vst, vmd, ty, Nat.reduceLeDiff, Nat.reduceMul, Nat.reduceSub, vzr, m329]
      · have e : cmpL (.mk k1 s1 c1 :: r) (.mk k2 s2 c2 :: q) = 1 := by simp only [cmpL, cmpT, q1, q2, ne_eq, not_true_eq_false, not_false_eq_true, if_false, if_true]; rw [if_pos (by decide)]
        have q2' := eq_false q2
        rw [e]
        simp only [vmr, vmw, vmp, vza, ↓reduceIte, Nat.reduceBEq, Nat.reduceLT, Nat.reduceAdd, Nat.reduceEqDiff, reduceCtorEq, vmt, vzb, vzc, vlen, vleaf, velems, oks, vst, vmd, ty, Nat.reduceLeDiff, Nat.reduceMul, Nat.reduceSub, c329, Tryd.f29, m329, h0, h1, h5, hc, hc2, ga, gb, hs, hs2, hs3, hs4, d1, q2', e1, e2, hw]
        unfold F329P
        simp only [vmr, vmw, vmp, vza, ↓reduceIte, Nat.reduceBEq, Nat.reduceLT, Nat.reduceAdd, Nat.reduceEqDiff, reduceCtorEq, vmt, vzb, vzc, vlen, vleaf, velems, oks, vst, vmd, ty, Nat.reduceLeDiff, Nat.reduceMul, Nat.reduceSub, vzr, m329]
theorem w329 : ∀ (m : Nat) (a b : List Tm), szs a ≤ m → szs a ≤ 1000000 → SoundPure Tryd.prog 29 [Ts a, Ts b] (.ret (I (cmpL a b))) := by
  intro m
  induction m using Nat.strongRecOn with
  | ind m IH =>
  intro a b hm hb
  have hH : SoundHand Tryd.prog (hand (T329 (szs a))) := by
    refine sound_cons (hF_sound fun p hp => ?_) (sound_cons (hF_sound fun p _ => w350 p.1 p.2) sound_nil)
    exact IH (szs p.1) (by omega) p.1 p.2 (Nat.le_refl _) (by omega)
  refine s329 hH (a.length + 2) (by simp) rfl ?_
  show F329P (szs a) _ _ _
  have a1 := fun k s => @l329 (szs a) (a.length + 2) k a b (by have := szs_len a; omega) (Nat.le_refl _) a b 0 (a.length + 2) s rfl rfl (by omega) (by omega) (by omega)
  simp only [c329, Tryd.f29, gets, sub] at a1 ⊢
  simp only [vmr, vmw, vmp, vza, ↓reduceIte, Nat.reduceBEq, Nat.reduceLT, Nat.reduceAdd, Nat.reduceEqDiff, reduceCtorEq, vmt, vzb, vzc, vlen, vleaf, velems, oks, vst, vmd, ty, Nat.reduceLeDiff, Nat.reduceMul, Nat.reduceSub, m329]
  refine a1 _ _ ?_ ?_ ?_ (fun s' h0 h1 => ?_)
  case refine_4 =>
    unfold cmpN
    by_cases q1 : a.length < b.length
    · have q1' := eq_true (show (a.length : Int) < (b.length : Int) by omega)
      rw [if_pos q1]
      simp only [vmr, vmw, vmp, vza, ↓reduceIte, Nat.reduceBEq, Nat.reduceLT, Nat.reduceAdd, Nat.reduceEqDiff, reduceCtorEq, vmt, vzb, vzc, vlen, vleaf, velems, oks, vst, vmd, ty, Nat.reduceLeDiff, Nat.reduceMul, Nat.reduceSub, m329, h0, h1, q1']
      unfold F329P
      simp only [vmr, vmw, vmp, vza, ↓reduceIte, Nat.reduceBEq, Nat.reduceLT, Nat.reduceAdd, Nat.reduceEqDiff, reduceCtorEq, vmt, vzb, vzc, vlen, vleaf, velems, oks, vst, vmd, ty, Nat.reduceLeDiff, Nat.reduceMul, Nat.reduceSub, vzr, m329]
    · have q1' := eq_false (show ¬ (a.length : Int) < (b.length : Int) by omega)
      rw [if_neg q1]
      by_cases q2 : a.length > b.length
      · have q2' := eq_true (show (a.length : Int) > (b.length : Int) by omega)
        rw [if_pos q2]
        simp only [vmr, vmw, vmp, vza, ↓reduceIte, Nat.reduceBEq, Nat.reduceLT, Nat.reduceAdd, Nat.reduceEqDiff, reduceCtorEq, vmt, vzb, vzc, vlen, vleaf, velems, oks, vst, vmd, ty, Nat.reduceLeDiff, Nat.reduceMul, Nat.reduceSub, m329, h0, h1, q1', q2']
        unfold F329P
        simp only [vmr, vmw, vmp, vza, ↓reduceIte, Nat.reduceBEq, Nat.reduceLT, Nat.reduceAdd, Nat.reduceEqDiff, reduceCtorEq, vmt, vzb, vzc, vlen, vleaf, velems, oks, vst, vmd, ty, Nat.reduceLeDiff, Nat.reduceMul, Nat.reduceSub, vzr, m329]
      · have q2' := eq_false (show ¬ (a.length : Int) > (b.length : Int) by omega)
        rw [if_neg q2]
        simp only [vmr, vmw, vmp, vza, ↓reduceIte, Nat.reduceBEq, Nat.reduceLT, Nat.reduceAdd, Nat.reduceEqDiff, reduceCtorEq, vmt, vzb, vzc, vlen, vleaf, velems, oks, vst, vmd, ty, Nat.reduceLeDiff, Nat.reduceMul, Nat.reduceSub, m329, h0, h1, q1', q2']
        unfold F329P
        simp only [vmr, vmw, vmp, vza, ↓reduceIte, Nat.reduceBEq, Nat.reduceLT, Nat.reduceAdd, Nat.reduceEqDiff, reduceCtorEq, vmt, vzb, vzc, vlen, vleaf, velems, oks, vst, vmd, ty, Nat.reduceLeDiff, Nat.reduceMul, Nat.reduceSub, vzr, m329]
  all_goals simp only [vmr, vmw, vmp, vza, ↓reduceIte, Nat.reduceBEq, Nat.reduceLT, Nat.reduceAdd, Nat.reduceEqDiff, reduceCtorEq, vmt, vzb, vzc, vlen, vleaf, velems, oks, vst, vmd, ty, Nat.reduceLeDiff, Nat.reduceMul, Nat.reduceSub, m329]
mutual
theorem cmpT_eq : ∀ a b : Tm, cmpT a b = 0 ↔ a = b
  | .mk k s c, .mk k' s' c' => by
    have ih := cmpL_eq c c'
    have hs : cmpS s s' = 0 ↔ s = s' := by
      unfold cmpS
      constructor
      · intro h
        split at h
        · cases h
        · split at h
          · cases h
          · rename_i h1 h2
            have : (s == s') = true := by
              cases e : s == s' with
              | true => rfl
              | false => simp [e] at h2; simp_all
            simpa using this
      · rintro rfl
        have hl : Op.bytesLess s s = false := by
          induction s with
          | nil => rfl
          | cons x r ih => simp_all [Op.bytesLess]
        simp [hl]
    simp only [cmpT, ne_eq, Tm.mk.injEq]
    by_cases q1 : k = k'
    · rw [if_neg (by simp [q1])]
      by_cases q2 : s = s'
      · rw [if_neg (by simp [hs.2 q2]), ih]
        simp [q1, q2]
      · have := mt hs.1 q2
        rw [if_pos this]
        simp [this, q2]
    · rw [if_pos q1]
      simp only [q1, false_and, iff_false]
      split <;> decide
theorem cmpL_eq : ∀ a b : List Tm, cmpL a b = 0 ↔ a = b
  | [], [] => by simp [cmpL]
  | [], _ :: _ => by simp [cmpL]
  | _ :: _, [] => by simp [cmpL]
  | x :: r, y :: q => by
    have h1 := cmpT_eq x y
    have h2 := cmpL_eq r q
    simp only [cmpL, ne_eq, List.cons.injEq]
    by_cases e : cmpT x y = 0
    · rw [if_neg (by simp [e]), h2]
      simp [h1.1 e]
    · rw [if_pos e]
      simp [e, mt h1.2 e]
end
noncomputable def F29a : List V → Option V := hF (α := List Tm × List Tm) (fun p => [Ts p.1, Ts p.2]) (fun p => szs p.1 ≤ 1000000) (fun p => I (cmpL p.1 p.2))
theorem F29a_eq {a b : List Tm} (h : szs a ≤ 1000000) : F29a [Ts a, Ts b] = some (I (cmpL a b)) :=
  hF_eq (a := (a, b)) (two_inj (fun _ _ => Ts_inj) (fun _ _ => Ts_inj)) (by simp only [cans, can_Ts]) h

/-! ### Equal -/
def eqB (a b : List Tm) : Bool := cmpL a b == 0
theorem eqB_iff {a b : List Tm} : eqB a b = true ↔ a = b := by unfold eqB; rw [beq_iff_eq]; exact cmpL_eq a b
theorem eqB_self (a : List Tm) : eqB a a = true := eqB_iff.2 rfl
theorem w312 (a b : List Tm) (h : szs a ≤ 1000000) : SoundPure Tryd.prog 12 [Ts a, Ts b] (.ret (.bool (eqB a b))) := by
  have hH : SoundHand Tryd.prog (hand [(29, F29a)]) := sound_cons (hF_sound fun p hp => w329 _ p.1 p.2 (Nat.le_refl _) (by omega)) sound_nil
  refine s312 hH 1 (by simp) rfl ?_
  simp only [c312, Tryd.f12, gets, sub]
  have e := F29a_eq (b := b) h
  have d : (cmpL a b == 0) = eqB a b := rfl
  simp only [vmr, vmw, vmp, vza, ↓reduceIte, Nat.reduceBEq, Nat.reduceLT, Nat.reduceAdd, Nat.reduceEqDiff, reduceCtorEq, vmt, vzb, vzc, vlen, vleaf, velems, oks, vst, vmd, ty, Nat.reduceLeDiff, Nat.reduceMul, Nat.reduceSub, vzr, m312, e, d]
noncomputable def F312 : List V → Option V := hF (α := List Tm × List Tm) (fun p => [Ts p.1, Ts p.2]) (fun p => szs p.1 ≤ 1000000) (fun p => .bool (eqB p.1 p.2))
theorem F312_eq {a b : List Tm} (h : szs a ≤ 1000000) : F312 [Ts a, Ts b] = some (.bool (eqB a b)) :=
  hF_eq (a := (a, b)) (two_inj (fun _ _ => Ts_inj) (fun _ _ => Ts_inj)) (by simp only [cans, can_Ts]) h
theorem F312_sound : ∀ args v, F312 args = some v → SoundPure Tryd.prog 12 args (.ret v) := hF_sound fun p hp => w312 p.1 p.2 hp
end Go.Vi
set_option maxRecDepth 100000
set_option maxHeartbeats 1000000
namespace Go.Vi
open Go Go.Proofs

/-- A number below a hundred in decimal. -/
def dig (n : Nat) : List UInt8 := if n < 10 then [UInt8.ofNat (48 + n)] else [UInt8.ofNat (48 + n / 10), UInt8.ofNat (48 + n % 10)]
abbrev wordT (s : List UInt8) : Tm := .mk 2 s []
abbrev numT (n : Nat) : Tm := .mk 3 (dig n) []
abbrev grpT (l : List Tm) : Tm := .mk 4 [] l
abbrev varT (s : List UInt8) : Tm := .mk 7 s []
abbrev callT (s : List UInt8) (l : List Tm) : Tm := .mk 8 s l
abbrev oneT : Tm := wordT [73]
abbrev restT (i : Nat) : Tm := varT (99 :: dig i)

def isStr (w : List UInt8) : Option (COut × Nat × Heap) → Bool
  | some (.ret (.str s), _, _) => s == w
  | _ => false
theorem isStr_some {w r} (h : isStr w r = true) : ∃ c O, r = some (.ret (.str w), c, O) := by
  unfold isStr at h
  split at h
  · rename_i s c O; have : s = w := by simpa using h
    subst this; exact ⟨c, O, rfl⟩
  · cases h
def isLeaf (k : Int) (w : List UInt8) : V → Bool
  | .agg [.int .i64 k', .str s, .nilS] => k' == k && s == w
  | _ => false
theorem isLeaf_eq {k w v} (h : isLeaf k w v = true) : v = .agg [I k, .str w, .nilS] := by
  unfold isLeaf at h
  split at h
  · rw [Bool.and_eq_true, beq_iff_eq, beq_iff_eq] at h; rw [h.1, h.2]
  · cases h
def isTerm (k : Int) (w : List UInt8) : Option (COut × Nat × Heap) → Bool
  | some (.ret v, _, _) => isLeaf k w v
  | _ => false
theorem isTerm_some {k w r} (h : isTerm k w r = true) : ∃ c O, r = some (.ret (.agg [I k, .str w, .nilS]), c, O) := by
  unfold isTerm at h
  split at h
  · rename_i v c O; rw [isLeaf_eq h]; exact ⟨c, O, rfl⟩
  · cases h
def isRow (n : Nat) (k : Int) (w : List UInt8) : Option (COut × Nat × Heap) → Bool
  | some (.ret (.own sz es), _, _) => es.length == n && es.all (isLeaf k w)
  | some (.ret .nilS, _, _) => n == 0
  | _ => false
theorem isRow_some {n k w r} (h : isRow n k w r = true) : ∃ v c O, r = some (.ret v, c, O) ∧ pureR v = true ∧ can (imm v) = Ts (List.replicate n (.mk k w [])) := by
  unfold isRow at h
  split at h
  · rename_i sz es c O
    rw [Bool.and_eq_true, beq_iff_eq] at h
    obtain ⟨h2, h3⟩ := h
    refine ⟨_, c, O, rfl, ?_, ?_⟩
    · simp only [pureR]
    · have : es = List.replicate n (.agg [I k, .str w, .nilS]) := by
        refine List.eq_replicate_iff.2 ⟨h2, fun b hb => ?_⟩
        exact isLeaf_eq (List.all_eq_true.1 h3 b hb)
      subst this
      simp only [imm, can, cans_map, List.map_replicate, Ts, tv_mk, cans]
      rfl
  · have : n = 0 := by simpa using h
    subst this
    exact ⟨_, _, _, rfl, rfl, rfl⟩
  · cases h
theorem run32 : ((List.range 100).all fun n => isStr (dig n) (evF (Cx (hand [])) 40 32 [I (n : Int)] 0 0 noH)) = true := by kernel_rfl
theorem run30 : ((List.range 100).all fun n => isTerm 3 (dig n) (evF (Cx (hand [])) 40 30 [I (n : Int)] 0 0 noH)) = true := by kernel_rfl
theorem run66 : ((List.range 100).all fun n => isTerm 7 (99 :: dig n) (evF (Cx (hand [])) 40 66 [I (n : Int)] 0 0 noH)) = true := by kernel_rfl
theorem run48 : ((List.range 100).all fun n => isTerm 7 (99 :: dig n) (evF (Cx (hand [])) 40 48 [I (n : Int)] 0 0 noH)) = true := by kernel_rfl
theorem run67 : ((List.range 100).all fun n => isRow 1 7 (99 :: dig n) (evF (Cx (hand [])) 40 67 [I (n : Int)] 0 0 noH)) = true := by kernel_rfl
theorem of_run {g : FuncId} {args : List V} {v : V} {N : Nat} (h : ∃ c O, evF (Cx (hand [])) N g args 0 0 noH = some (.ret v, c, O)) (hp : pureR v = true) : SoundPure Tryd.prog g args (.ret v) := by
  obtain ⟨c, O, h⟩ := h
  exact pure_of_call (evF_sound (C := Cx (hand [])) sound_nil good mixed N) h hp
theorem all_lt {p : Nat → Bool} {m n : Nat} (h : (List.range m).all p = true) (hn : n < m) : p n = true := List.all_eq_true.1 h n (List.mem_range.2 hn)
theorem w332 {n : Nat} (h : n < 100) : SoundPure Tryd.prog 32 [I n] (.ret (.str (dig n))) := of_run (isStr_some (all_lt run32 h)) rfl
theorem w330 {n : Nat} (h : n < 100) : SoundPure Tryd.prog 30 [I n] (.ret (.agg [I 3, .str (dig n), .nilS])) := of_run (isTerm_some (all_lt run30 h)) rfl
theorem w366 {n : Nat} (h : n < 100) : SoundPure Tryd.prog 66 [I n] (.ret (.agg [I 7, .str (99 :: dig n), .nilS])) := of_run (isTerm_some (all_lt run66 h)) rfl
theorem w348 {n : Nat} (h : n < 100) : SoundPure Tryd.prog 48 [I n] (.ret (.agg [I 7, .str (99 :: dig n), .nilS])) := of_run (isTerm_some (all_lt run48 h)) rfl
theorem w367 {n : Nat} (h : n < 100) : SoundPure Tryd.prog 67 [I n] (.ret (Ts [restT n])) := by
  obtain ⟨v, c, O, hr, hp, hc⟩ := isRow_some (all_lt run67 h)
  rw [show Ts [restT n] = can (imm v) from hc.symm]
  exact sound_imm (of_run ⟨c, O, hr⟩ hp) hp
end Go.Vi
