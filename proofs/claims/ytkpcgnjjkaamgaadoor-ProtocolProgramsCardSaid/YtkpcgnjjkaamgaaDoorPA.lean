/-
  Walks of package protocol: covers, slices.Clone, slices.Max, use.
-/
import Derived.Test.YtkpcgnjjkaamgaaDoorT
import Derived.Test.YtkpcgnjjkaamgaaDoorVD
set_option linter.unusedSimpArgs false
set_option linter.unusedVariables false
set_option maxRecDepth 100000
set_option maxHeartbeats 4000000

namespace Go.Vi
open Go Go.Proofs

/-! ### covers -/
def covF (st : List Int) : List Int → Nat → Bool
  | [], _ => true
  | x :: r, i => if st.getD i 0 < x then false else covF st r (i + 1)
theorem l41 {H n k} (st le : List Int) (hl : le.length ≤ st.length) (hb : le.length ≤ 1000000) : ∀ r i n' s, le.drop i = r → r.length < n' → tget s.τ 0 = Is st → tget s.τ 7 = Is le → tget s.τ 8 = I le.length → tget s.τ 9 = I i →
    (∀ s', Fin (M41 H n) [.tmp 4] (X (M41 H n) (.exit 0) k s') = some (.ret (.bool true))) → 
    Fin (M41 H n) [.tmp 4] (L (M41 H n) (sub [1, 0, 1, 0, 0] c41) n' k s) = some (.ret (.bool (covF st r i)))
  | [], i, n' + 1, s, hi, hn, h0, h7, h8, h9, hx => by
    have hc := inlt (drop_nil' hi)
    rw [L_succ]
    simp only [vmr, vmw, vmp, vza, ↓reduceIte, Nat.reduceBEq, Nat.reduceLT, Nat.reduceAdd, Nat.reduceEqDiff, reduceCtorEq, vmt, vzb, vzc, vlen, vleaf, velems, oks, vst, vmd, ty, Nat.reduceLeDiff, Nat.reduceMul, Nat.reduceSub, c41, Tryd.f59, m41, h0, h7, h8, h9, hc, hx, covF]
  | x :: r, i, n' + 1, s, hi, hn, h0, h7, h8, h9, hx => by
    obtain ⟨h1, hd, hlt⟩ := drop_cons hi
    have hc := ilt hlt
    have h2 : st[i]? = some (st.getD i 0) := by simp [List.getD, show i < st.length by omega]
    have hw := wsucc hlt hb
    rw [L_succ]
    simp only [vmr, vmw, vmp, vza, ↓reduceIte, Nat.reduceBEq, Nat.reduceLT, Nat.reduceAdd, Nat.reduceEqDiff, reduceCtorEq, vmt, vzb, vzc, vlen, vleaf, velems, oks, vst, vmd, ty, Nat.reduceLeDiff, Nat.reduceMul, Nat.reduceSub, c41, Tryd.f59, m41, h0, h7, h8, h9, h1, h2, hc, hw]
    simp only [covF]
    split
    · simp only [vmr, vmw, vmp, vza, ↓reduceIte, Nat.reduceBEq, Nat.reduceLT, Nat.reduceAdd, Nat.reduceEqDiff, reduceCtorEq, vmt, vzb, vzc, vlen, vleaf, velems, oks, vst, vmd, ty, Nat.reduceLeDiff, Nat.reduceMul, Nat.reduceSub, vzr, m41]
    · have := fun s => @l41 H n k st le hl hb r (i+1) n' s hd (by simp at hn; omega)
      simp only [sub, c41, Tryd.f59, gets] at this
      refine this _ ?_ ?_ ?_ ?_ hx
      all_goals simp only [vmr, vmw, vmp, vza, ↓reduceIte, Nat.reduceBEq, Nat.reduceLT, Nat.reduceAdd, Nat.reduceEqDiff, reduceCtorEq, h0, h7, h8, h9]
theorem w41 {T} (hH : SoundHand Tryd.prog (hand T)) (st le : List Int) (hl : le.length ≤ st.length) (hb : le.length ≤ 1000000) : SoundPure Tryd.prog 59 [Is st, Is le] (.ret (.bool (covF st le 0))) := by
  refine s41 hH (le.length + 1) (by simp) rfl ?_
  have := fun k => @l41 (hand T) (le.length + 1) k st le hl hb le 0 (le.length + 1)
  simp only [sub, c41, Tryd.f59, gets] at this ⊢
  simp only [vmr, vmw, vmp, vza, ↓reduceIte, Nat.reduceBEq, Nat.reduceLT, Nat.reduceAdd, Nat.reduceEqDiff, reduceCtorEq, vmt, vzb, vzc, vlen, vleaf, velems, oks, vst, vmd, ty, Nat.reduceLeDiff, Nat.reduceMul, Nat.reduceSub, m41]
  refine this _ _ rfl (by omega) ?_ ?_ ?_ ?_ ?_
  all_goals first | rfl | skip
  all_goals simp only [vmr, vmw, vmp, vza, ↓reduceIte, Nat.reduceBEq, Nat.reduceLT, Nat.reduceAdd, Nat.reduceEqDiff, reduceCtorEq, m41, Is]
  intro s'
  simp only [vmr, vmw, vmp, vza, ↓reduceIte, Nat.reduceBEq, Nat.reduceLT, Nat.reduceAdd, Nat.reduceEqDiff, reduceCtorEq, vmt, vzb, vzc, vlen, vleaf, velems, oks, vst, vmd, ty, Nat.reduceLeDiff, Nat.reduceMul, Nat.reduceSub, vzr, m41]
noncomputable def F41 : List V → Option V := hF (α := List Int × List Int) (fun p => [Is p.1, Is p.2]) (fun p => p.2.length ≤ p.1.length ∧ p.2.length ≤ 1000000) (fun p => .bool (covF p.1 p.2 0))

theorem F41_eq {st le : List Int} (hl : le.length ≤ st.length) (hb : le.length ≤ 1000000) : F41 [Is st, Is le] = some (.bool (covF st le 0)) :=
  hF_eq (a := (st, le)) (fun a b h => by injection h with h1 h2; injection h2 with h2; exact Prod.ext (Is_inj h1) (Is_inj h2)) (by simp only [cans, can, cans_I]) ⟨hl, hb⟩
noncomputable abbrev T1 : List (FuncId × (List V → Option V)) := [(59, F41)]
theorem hT1 : SoundHand Tryd.prog (hand T1) := sound_cons (hF_sound fun p hp => w41 sound_nil p.1 p.2 hp.1 hp.2) sound_nil

/-! ### slices.Clone -/
theorem room3 {n : Nat} (h : n ≤ 2000000) : roomOk Tryd.prog 3 n = true := by
  simp [roomOk, ty, cellsV, leafV]; omega
theorem fitsI (n : Int) : fitsE Tryd.prog 3 (I n) = true := by simp [fitsE, ty, leafV]
theorem allfitsI : ∀ l : List Int, (l.map I).all (fitsE Tryd.prog 3) = true
  | [] => rfl
  | x :: r => by simp only [List.map_cons, List.all_cons, fitsI, allfitsI r, Bool.and_self]
theorem w39 {T} (hH : SoundHand Tryd.prog (hand T)) (l : List Int) (hn : l ≠ []) (hb : l.length ≤ 1000000) : SoundPure Tryd.prog 57 [Is l] (.ret (.own 1 (l.map I))) := by
  cases l with
  | nil => exact absurd rfl hn
  | cons x l =>
    refine s39 hH 5 (by simp) rfl ?_
    simp only [List.length_cons] at hb
    have hr := @room3 (l.length + 1) (by omega)
    have hr0 := @room3 0 (by omega)
    simp only [vmr, vmw, vmp, vza, ↓reduceIte, Nat.reduceBEq, Nat.reduceLT, Nat.reduceAdd, Nat.reduceEqDiff, reduceCtorEq, vmt, vzb, vzc, vlen, vleaf, velems, oks, vst, vmd, ty, Nat.reduceLeDiff, Nat.reduceMul, Nat.reduceSub, vzr, c39, Tryd.f57, m39, List.map_cons, hr, hr0, allfitsI, fitsI, take_len]
theorem one_inj {α : Type} {e : α → V} (he : ∀ a b, e a = e b → a = b) : ∀ a b : α, [e a] = [e b] → a = b := fun a b h => he a b (by injection h)
noncomputable def F39 : List V → Option V := hF (α := List Int) (fun l => [Is l]) (fun l => l ≠ [] ∧ l.length ≤ 1000000) (fun l => .own 1 (l.map I))
theorem F39_eq {l : List Int} (h : l ≠ []) (hb : l.length ≤ 1000000) : F39 [Is l] = some (.own 1 (l.map I)) :=
  hF_eq (a := l) (one_inj fun a b h => Is_inj h) (by simp only [cans, can, cans_I]) ⟨h, hb⟩
noncomputable abbrev T2 : List (FuncId × (List V → Option V)) := (57, F39) :: T1
theorem hT2 : SoundHand Tryd.prog (hand T2) := sound_cons (hF_sound fun p hp => w39 sound_nil p hp.1 hp.2) hT1

/-! ### slices.Max -/
def maxF : Int → List Int → Int
  | m, [] => m
  | m, x :: r => maxF (if x > m then x else m) r
theorem l44 {H n k out} (l : List Int) (hb : l.length ≤ 1000000) : ∀ r i m n' s, l.drop i = r → r.length < n' → tget s.τ 0 = Is l → tget s.τ 3 = I m → tget s.τ 4 = I (i : Nat) →
    (∀ s', tget s'.τ 3 = I (maxF m r) → Fin (M44 H n) [.tmp 2] (X (M44 H n) (.exit 0) k s') = out) → 
    Fin (M44 H n) [.tmp 2] (L (M44 H n) (sub [1, 1, 1, 0, 1, 0, 0] c44) n' k s) = out
  | [], i, m, n' + 1, s, hi, hn, h0, h3, h4, hx => by
    have hc := inlt (drop_nil' hi)
    rw [L_succ]
    simp only [vmr, vmw, vmp, vza, ↓reduceIte, Nat.reduceBEq, Nat.reduceLT, Nat.reduceAdd, Nat.reduceEqDiff, reduceCtorEq, vmt, vzb, vzc, vlen, vleaf, velems, oks, vst, vmd, ty, Nat.reduceLeDiff, Nat.reduceMul, Nat.reduceSub, c44, Tryd.f70, m44, h0, h3, h4, hc]
    refine hx _ ?_
    simp only [vmr, vmw, vmp, vza, ↓reduceIte, Nat.reduceBEq, Nat.reduceLT, Nat.reduceAdd, Nat.reduceEqDiff, reduceCtorEq, h3, maxF]
  | x :: r, i, m, n' + 1, s, hi, hn, h0, h3, h4, hx => by
    obtain ⟨h1, hd, hlt⟩ := drop_cons hi
    have hc := ilt hlt
    have hw := wsucc hlt hb
    rw [L_succ]
    simp only [vmr, vmw, vmp, vza, ↓reduceIte, Nat.reduceBEq, Nat.reduceLT, Nat.reduceAdd, Nat.reduceEqDiff, reduceCtorEq, vmt, vzb, vzc, vlen, vleaf, velems, oks, vst, vmd, ty, Nat.reduceLeDiff, Nat.reduceMul, Nat.reduceSub, c44, Tryd.f70, m44, h0, h3, h4, h1, hc, hw, maxL]
    have := fun s => @l44 H n k out l hb r (i+1) (if x > m then x else m) n' s hd (by simp at hn; omega)
    simp only [sub, c44, Tryd.f70, gets] at this
    refine this _ ?_ ?_ ?_ hx
    all_goals simp only [vmr, vmw, vmp, vza, ↓reduceIte, Nat.reduceBEq, Nat.reduceLT, Nat.reduceAdd, Nat.reduceEqDiff, reduceCtorEq, h0, h3, h4]
theorem w44 {T} (hH : SoundHand Tryd.prog (hand T)) (x : Int) (l : List Int) (hb : (x :: l).length ≤ 1000000) : SoundPure Tryd.prog 70 [Is (x :: l)] (.ret (I (maxF x l))) := by
  refine s44 hH (l.length + 1) (by simp) rfl ?_
  have := fun k out => @l44 (hand T) (l.length + 1) k out (x :: l) hb l 1 x (l.length + 1)
  simp only [sub, c44, Tryd.f70, gets] at this ⊢
  have hc : (((l.length + 1 : Nat) : Int) < 1) = False := by simp; omega
  have h00 : ((0:Int) ≤ 0) = True := by simp
  simp only [vmr, vmw, vmp, vza, ↓reduceIte, Nat.reduceBEq, Nat.reduceLT, Nat.reduceAdd, Nat.reduceEqDiff, reduceCtorEq, vmt, vzb, vzc, vlen, vleaf, velems, oks, vst, vmd, ty, Nat.reduceLeDiff, Nat.reduceMul, Nat.reduceSub, m44, List.map_cons, hc, h00, Int.toNat_zero]
  refine this _ _ _ rfl (by omega) ?_ ?_ ?_ ?_
  all_goals first | rfl | skip
  all_goals simp only [vmr, vmw, vmp, vza, ↓reduceIte, Nat.reduceBEq, Nat.reduceLT, Nat.reduceAdd, Nat.reduceEqDiff, reduceCtorEq, m44, Is, List.map_cons]
  intro s' h3
  simp only [vmr, vmw, vmp, vza, ↓reduceIte, Nat.reduceBEq, Nat.reduceLT, Nat.reduceAdd, Nat.reduceEqDiff, reduceCtorEq, vmt, vzb, vzc, vlen, vleaf, velems, oks, vst, vmd, ty, Nat.reduceLeDiff, Nat.reduceMul, Nat.reduceSub, vzr, m44, h3]
noncomputable def F44 : List V → Option V := hF (α := List Int) (fun l => [Is l]) (fun l => l ≠ [] ∧ l.length ≤ 1000000) (fun l => I (maxF (l.headD 0) l.tail))
theorem F44_eq {l : List Int} (h : l ≠ []) (hb : l.length ≤ 1000000) : F44 [Is l] = some (I (maxF (l.headD 0) l.tail)) :=
  hF_eq (a := l) (one_inj fun a b h => Is_inj h) (by simp only [cans, can, cans_I]) ⟨h, hb⟩
noncomputable abbrev T3 : List (FuncId × (List V → Option V)) := (70, F44) :: T2
theorem hT3 : SoundHand Tryd.prog (hand T3) := sound_cons (hF_sound fun p hp => by
  cases p with
  | nil => exact absurd rfl hp.1
  | cons x l => exact w44 sound_nil x l hp.2) hT2
end Go.Vi
set_option maxRecDepth 100000
set_option maxHeartbeats 400000
namespace Go.Vi
open Go Go.Proofs

structure Rule where
  take : List Int
  give : List Int
  clear : List Int
  into : Int
abbrev Rule.cs (r : Rule) : List V := [Is r.take, Is r.give, Is r.clear, I r.into]
abbrev Rule.v (r : Rule) : V := .agg r.cs

def subF : List Int → List Int → Nat → List Int
  | out, [], _ => out
  | out, x :: r, i => subF (out.set i (w64 (out.getD i 0 - x))) r (i + 1)
def addF : List Int → List Int → Nat → List Int
  | out, [], _ => out
  | out, x :: r, i => addF (out.set i (w64 (out.getD i 0 + x))) r (i + 1)
def clrF (into : Int) : List Int → Int → List Int → List Int × Int
  | out, rest, [] => (out, rest)
  | out, rest, c :: r => if c = into then clrF into out rest r else clrF into (out.set c.toNat 0) (w64 (rest + out.getD c.toNat 0)) r
theorem subF_len : ∀ r out i, (subF out r i).length = out.length
  | [], out, i => rfl
  | x :: r, out, i => by simp only [subF, subF_len r, List.length_set]
theorem addF_len : ∀ r out i, (addF out r i).length = out.length
  | [], out, i => rfl
  | x :: r, out, i => by simp only [addF, addF_len r, List.length_set]
theorem clrF_len {into} : ∀ r out rest, (clrF into out rest r).1.length = out.length
  | [], out, i => rfl
  | x :: r, out, rest => by
    simp only [clrF]
    split
    · exact clrF_len r out rest
    · rw [clrF_len r, List.length_set]

theorem l28a {H n k out v2 vo} (st : List Int) (hb : st.length ≤ 1000000) (rule : Rule) : ∀ r i (o : List Int) n' s, rule.take.drop i = r → r.length < n' → o.length = st.length → rule.take.length ≤ st.length →
    tget s.τ 2 = .ptr ⟨0, 2, 0⟩ v2 0 0 → lget s.L (2, 0) = some (v2, .var rule.cs) → tget s.τ 6 = .ref ⟨0, 6, 0⟩ vo 0 st.length → lget s.L (6, 0) = some (vo, .arr 1 (o.map I)) →
    tget s.τ 22 = Is rule.take → tget s.τ 23 = I rule.take.length → tget s.τ 24 = I (i : Nat) →
    (∀ s', tget s'.τ 2 = .ptr ⟨0, 2, 0⟩ v2 0 0 → lget s'.L (2, 0) = some (v2, .var rule.cs) → tget s'.τ 6 = .ref ⟨0, 6, 0⟩ vo 0 st.length → lget s'.L (6, 0) = some (vo, .arr 1 ((subF o r i).map I)) → 
      Fin (M28 H n) [.tmp 4, .tmp 5] (X (M28 H n) (.exit 0) k s') = out) → 
    Fin (M28 H n) [.tmp 4, .tmp 5] (L (M28 H n) (sub [1, 1, 1, 0, 1, 0, 0] c28) n' k s) = out
  | [], i, o, n' + 1, s, hi, hn, hl, hl2, h2, h2', h6, h6', hA, hL, hI, hx => by
    have hc := inlt (drop_nil' hi)
    rw [L_succ]
    simp only [vmr, vmw, vmp, vza, ↓reduceIte, Nat.reduceBEq, Nat.reduceLT, Nat.reduceAdd, Nat.reduceEqDiff, reduceCtorEq, vmt, vzb, vzc, vlen, vleaf, velems, oks, vst, vmd, ty, Nat.reduceLeDiff, Nat.reduceMul, Nat.reduceSub, c28, Tryd.f56, m28, hA, hL, hI, hc]
    refine hx _ ?_ ?_ ?_ ?_
    all_goals simp only [vmr, vmw, vmp, vza, ↓reduceIte, Nat.reduceBEq, Nat.reduceLT, Nat.reduceAdd, Nat.reduceEqDiff, reduceCtorEq, vmt, vzb, vzc, vlen, vleaf, velems, oks, vst, vmd, ty, Nat.reduceLeDiff, Nat.reduceMul, Nat.reduceSub, m28, h2, h2', h6, h6', subF]
  | x :: r, i, o, n' + 1, s, hi, hn, hl, hl2, h2, h2', h6, h6', hA, hL, hI, hx => by
    obtain ⟨h1, hd, hlt⟩ := drop_cons hi
    have hc := ilt hlt
    have hc2 : ((i:Int) < (st.length:Int)) = True := by simp; omega
    have ho := getI (l := o) (i := i) (by omega)
    have hw := wsucc hlt (show rule.take.length ≤ 1000000 by omega)
    rw [L_succ]
    simp only [vmr, vmw, vmp, vza, ↓reduceIte, Nat.reduceBEq, Nat.reduceLT, Nat.reduceAdd, Nat.reduceEqDiff, reduceCtorEq, vmt, vzb, vzc, vlen, vleaf, velems, oks, vst, vmd, ty, Nat.reduceLeDiff, Nat.reduceMul, Nat.reduceSub, c28, Tryd.f56, m28, hA, hL, hI, hc, hc2, h1, h2, h2', h6, h6', hw, ho, setI]
    have := fun s => @l28a H n k out v2 vo st hb rule r (i+1) (o.set i (w64 (o.getD i 0 - x))) n' s hd (by simp at hn; omega) (by simp [hl]) hl2
    simp only [sub, c28, Tryd.f56, gets] at this
    refine this _ ?_ ?_ ?_ ?_ ?_ ?_ ?_ hx
    all_goals simp only [vmr, vmw, vmp, vza, ↓reduceIte, Nat.reduceBEq, Nat.reduceLT, Nat.reduceAdd, Nat.reduceEqDiff, reduceCtorEq, vmt, vzb, vzc, vlen, vleaf, velems, oks, vst, vmd, ty, Nat.reduceLeDiff, Nat.reduceMul, Nat.reduceSub, m28, h2, h2', h6, h6', hA, hL, hI, setI]

theorem l28c {H n k out v2 vo} (st : List Int) (hb : st.length ≤ 1000000) (rule : Rule) : ∀ r i (o : List Int) n' s, rule.give.drop i = r → r.length < n' → o.length = st.length → rule.give.length ≤ st.length →
    tget s.τ 2 = .ptr ⟨0, 2, 0⟩ v2 0 0 → lget s.L (2, 0) = some (v2, .var rule.cs) → tget s.τ 6 = .ref ⟨0, 6, 0⟩ vo 0 st.length → lget s.L (6, 0) = some (vo, .arr 1 (o.map I)) →
    tget s.τ 70 = Is rule.give → tget s.τ 71 = I rule.give.length → tget s.τ 72 = I (i : Nat) →
    (∀ s', tget s'.τ 2 = .ptr ⟨0, 2, 0⟩ v2 0 0 → lget s'.L (2, 0) = some (v2, .var rule.cs) → tget s'.τ 6 = .ref ⟨0, 6, 0⟩ vo 0 st.length → lget s'.L (6, 0) = some (vo, .arr 1 ((addF o r i).map I)) → 
      Fin (M28 H n) [.tmp 4, .tmp 5] (X (M28 H n) (.exit 4) k s') = out) → 
    Fin (M28 H n) [.tmp 4, .tmp 5] (L (M28 H n) (sub [1, 1, 1, 1, 1, 1, 1, 0, 1, 0, 0] c28) n' k s) = out
  | [], i, o, n' + 1, s, hi, hn, hl, hl2, h2, h2', h6, h6', hA, hL, hI, hx => by
    have hc := inlt (drop_nil' hi)
    rw [L_succ]
    simp only [vmr, vmw, vmp, vza, ↓reduceIte, Nat.reduceBEq, Nat.reduceLT, Nat.reduceAdd, Nat.reduceEqDiff, reduceCtorEq, vmt, vzb, vzc, vlen, vleaf, velems, oks, vst, vmd, ty, Nat.reduceLeDiff, Nat.reduceMul, Nat.reduceSub, c28, Tryd.f56, m28, hA, hL, hI, hc]
    refine hx _ ?_ ?_ ?_ ?_
    all_goals simp only [vmr, vmw, vmp, vza, ↓reduceIte, Nat.reduceBEq, Nat.reduceLT, Nat.reduceAdd, Nat.reduceEqDiff, reduceCtorEq, vmt, vzb, vzc, vlen, vleaf, velems, oks, vst, vmd, ty, Nat.reduceLeDiff, Nat.reduceMul, Nat.reduceSub, m28, h2, h2', h6, h6', addF]
  | x :: r, i, o, n' + 1, s, hi, hn, hl, hl2, h2, h2', h6, h6', hA, hL, hI, hx => by
    obtain ⟨h1, hd, hlt⟩ := drop_cons hi
    have hc := ilt hlt
    have hc2 : ((i:Int) < (st.length:Int)) = True := by simp; omega
    have ho := getI (l := o) (i := i) (by omega)
    have hw := wsucc hlt (show rule.give.length ≤ 1000000 by omega)
    rw [L_succ]
    simp only [vmr, vmw, vmp, vza, ↓reduceIte, Nat.reduceBEq, Nat.reduceLT, Nat.reduceAdd, Nat.reduceEqDiff, reduceCtorEq, vmt, vzb, vzc, vlen, vleaf, velems, oks, vst, vmd, ty, Nat.reduceLeDiff, Nat.reduceMul, Nat.reduceSub, c28, Tryd.f56, m28, hA, hL, hI, hc, hc2, h1, h2, h2', h6, h6', hw, ho, setI]
    have := fun s => @l28c H n k out v2 vo st hb rule r (i+1) (o.set i (w64 (o.getD i 0 + x))) n' s hd (by simp at hn; omega) (by simp [hl]) hl2
    simp only [sub, c28, Tryd.f56, gets] at this
    refine this _ ?_ ?_ ?_ ?_ ?_ ?_ ?_ hx
    all_goals simp only [vmr, vmw, vmp, vza, ↓reduceIte, Nat.reduceBEq, Nat.reduceLT, Nat.reduceAdd, Nat.reduceEqDiff, reduceCtorEq, vmt, vzb, vzc, vlen, vleaf, velems, oks, vst, vmd, ty, Nat.reduceLeDiff, Nat.reduceMul, Nat.reduceSub, m28, h2, h2', h6, h6', hA, hL, hI, setI]

theorem l28b {H n k out v2 vo} (st : List Int) (hb : st.length ≤ 1000000) (rule : Rule) (hcl : rule.clear.length ≤ 1000000) (hcr : ∀ c ∈ rule.clear, 0 ≤ c ∧ c < st.length) : ∀ r i (o : List Int) rest n' s, rule.clear.drop i = r → r.length < n' → o.length = st.length →
    tget s.τ 2 = .ptr ⟨0, 2, 0⟩ v2 0 0 → lget s.L (2, 0) = some (v2, .var rule.cs) → tget s.τ 6 = .ref ⟨0, 6, 0⟩ vo 0 st.length → lget s.L (6, 0) = some (vo, .arr 1 (o.map I)) →
    tget s.τ 38 = Is rule.clear → tget s.τ 39 = I rule.clear.length → tget s.τ 40 = I (i : Nat) → tget s.τ 9 = I rest →
    (∀ s', tget s'.τ 2 = .ptr ⟨0, 2, 0⟩ v2 0 0 → lget s'.L (2, 0) = some (v2, .var rule.cs) → tget s'.τ 6 = .ref ⟨0, 6, 0⟩ vo 0 st.length → lget s'.L (6, 0) = some (vo, .arr 1 ((clrF rule.into o rest r).1.map I)) → tget s'.τ 9 = I (clrF rule.into o rest r).2 →
      Fin (M28 H n) [.tmp 4, .tmp 5] (X (M28 H n) (.exit 2) k s') = out) → 
    Fin (M28 H n) [.tmp 4, .tmp 5] (L (M28 H n) (sub [1, 1, 1, 1, 1, 0, 1, 0, 0] c28) n' k s) = out
  | [], i, o, rest, n' + 1, s, hi, hn, hl, h2, h2', h6, h6', hA, hL, hI, h9, hx => by
    have hc := inlt (drop_nil' hi)
    rw [L_succ]
    simp only [vmr, vmw, vmp, vza, ↓reduceIte, Nat.reduceBEq, Nat.reduceLT, Nat.reduceAdd, Nat.reduceEqDiff, reduceCtorEq, vmt, vzb, vzc, vlen, vleaf, velems, oks, vst, vmd, ty, Nat.reduceLeDiff, Nat.reduceMul, Nat.reduceSub, c28, Tryd.f56, m28, hA, hL, hI, hc]
    refine hx _ ?_ ?_ ?_ ?_ ?_
    all_goals simp only [vmr, vmw, vmp, vza, ↓reduceIte, Nat.reduceBEq, Nat.reduceLT, Nat.reduceAdd, Nat.reduceEqDiff, reduceCtorEq, vmt, vzb, vzc, vlen, vleaf, velems, oks, vst, vmd, ty, Nat.reduceLeDiff, Nat.reduceMul, Nat.reduceSub, m28, h2, h2', h6, h6', h9, clrF]
  | c :: r, i, o, rest, n' + 1, s, hi, hn, hl, h2, h2', h6, h6', hA, hL, hI, h9, hx => by
    obtain ⟨h1, hd, hlt⟩ := drop_cons hi
    have hc := ilt hlt
    have hcb := hcr c (by rw [List.getElem?_eq_some_iff] at h1; obtain ⟨_, h1⟩ := h1; rw [← h1]; exact List.getElem_mem _)
    have hc0 : (0 ≤ c) = True := by simp [hcb.1]
    have hc2 : (c < (st.length:Int)) = True := by simp [hcb.2]
    have ho := getI (l := o) (i := c.toNat) (by omega)
    have hw := wsucc hlt hcl
    rw [L_succ]
    by_cases hne : c = rule.into
    · have hq : (c != rule.into) = false := by simp [hne]
      simp only [vmr, vmw, vmp, vza, ↓reduceIte, Nat.reduceBEq, Nat.reduceLT, Nat.reduceAdd, Nat.reduceEqDiff, reduceCtorEq, vmt, vzb, vzc, vlen, vleaf, velems, oks, vst, vmd, ty, Nat.reduceLeDiff, Nat.reduceMul, Nat.reduceSub, c28, Tryd.f56, m28, hA, hL, hI, hc, hc2, hc0, h1, h2, h2', h6, h6', h9, hw, ho, setI, hq]
      have := fun s => @l28b H n k out v2 vo st hb rule hcl hcr r (i+1) o rest n' s hd (by simp at hn; omega) hl
      simp only [sub, c28, Tryd.f56, gets] at this
      simp only [clrF, if_pos hne] at hx
      refine this _ ?_ ?_ ?_ ?_ ?_ ?_ ?_ ?_ hx
      all_goals simp only [vmr, vmw, vmp, vza, ↓reduceIte, Nat.reduceBEq, Nat.reduceLT, Nat.reduceAdd, Nat.reduceEqDiff, reduceCtorEq, vmt, vzb, vzc, vlen, vleaf, velems, oks, vst, vmd, ty, Nat.reduceLeDiff, Nat.reduceMul, Nat.reduceSub, m28, h2, h2', h6, h6', hA, hL, hI, h9, setI]
    · have hq : (c != rule.into) = true := by simp [hne]
      simp only [vmr, vmw, vmp, vza, ↓reduceIte, Nat.reduceBEq, Nat.reduceLT, Nat.reduceAdd, Nat.reduceEqDiff, reduceCtorEq, vmt, vzb, vzc, vlen, vleaf, velems, oks, vst, vmd, ty, Nat.reduceLeDiff, Nat.reduceMul, Nat.reduceSub, c28, Tryd.f56, m28, hA, hL, hI, hc, hc2, hc0, h1, h2, h2', h6, h6', h9, hw, ho, setI, hq]
      have := fun s => @l28b H n k out v2 vo st hb rule hcl hcr r (i+1) (o.set c.toNat 0) (w64 (rest + o.getD c.toNat 0)) n' s hd (by simp at hn; omega) (by simp [hl])
      simp only [sub, c28, Tryd.f56, gets] at this
      simp only [clrF, if_neg hne] at hx
      refine this _ ?_ ?_ ?_ ?_ ?_ ?_ ?_ ?_ hx
      all_goals simp only [vmr, vmw, vmp, vza, ↓reduceIte, Nat.reduceBEq, Nat.reduceLT, Nat.reduceAdd, Nat.reduceEqDiff, reduceCtorEq, vmt, vzb, vzc, vlen, vleaf, velems, oks, vst, vmd, ty, Nat.reduceLeDiff, Nat.reduceMul, Nat.reduceSub, m28, h2, h2', h6, h6', hA, hL, hI, h9, setI]

def useF (rule : Rule) (st : List Int) : Option (List Int) × Int :=
  if covF st rule.take 0 = true then
    let o1 := subF st rule.take 0
    let p := clrF rule.into o1 0 rule.clear
    let o2 := if 0 ≤ rule.into then p.1.set rule.into.toNat (w64 (p.1.getD rule.into.toNat 0 + p.2)) else p.1
    let o3 := addF o2 rule.give 0
    if maxF (o3.headD 0) o3.tail > 1000000 then (none, 7) else (some o3, 0)
  else (none, 0)
def ownO : Option (List Int) → V
  | none => .nilS
  | some l => .own 1 (l.map I)
structure useOk (rule : Rule) (st : List Int) : Prop where
  ne : st ≠ []
  hb : st.length ≤ 1000000
  take : rule.take.length ≤ st.length
  give : rule.give.length ≤ st.length
  clen : rule.clear.length ≤ 1000000
  clear : ∀ c ∈ rule.clear, 0 ≤ c ∧ c < st.length
  into : rule.into < st.length
theorem w28 (rule : Rule) (st : List Int) (h : useOk rule st) : SoundPure Tryd.prog 56 [rule.v, Is st] (.ret (.tup [ownO (useF rule st).1, I (useF rule st).2])) := by
  obtain ⟨hne, hb, htake, hgive, hclen, hclear, hinto⟩ := h
  refine s28 hT3 (rule.take.length + rule.give.length + rule.clear.length + 1) (by simp) ?_ ?_
  · cases (useF rule st).1 <;> rfl
  have e1 := F41_eq htake (by omega)
  have e2 := F39_eq hne hb
  simp only [c28, Tryd.f56, gets]
  simp only [vmr, vmw, vmp, vza, ↓reduceIte, Nat.reduceBEq, Nat.reduceLT, Nat.reduceAdd, Nat.reduceEqDiff, reduceCtorEq, vmt, vzb, vzc, vlen, vleaf, velems, oks, vst, vmd, ty, Nat.reduceLeDiff, Nat.reduceMul, Nat.reduceSub, m28, e1]
  by_cases hcov : covF st rule.take 0 = true
  · simp only [vmr, vmw, vmp, vza, ↓reduceIte, Nat.reduceBEq, Nat.reduceLT, Nat.reduceAdd, Nat.reduceEqDiff, reduceCtorEq, vmt, vzb, vzc, vlen, vleaf, velems, oks, vst, vmd, ty, Nat.reduceLeDiff, Nat.reduceMul, Nat.reduceSub, m28, hcov, e2, shI]
    have a1 := fun k out => @l28a (hand T3) (rule.take.length + rule.give.length + rule.clear.length + 1) k out 0 2 st hb rule rule.take 0 st (rule.take.length + rule.give.length + rule.clear.length + 1)
    have a2 := fun k out o => @l28b (hand T3) (rule.take.length + rule.give.length + rule.clear.length + 1) k out 0 2 st hb rule hclen hclear rule.clear 0 o 0 (rule.take.length + rule.give.length + rule.clear.length + 1)
    have a3 := fun k out o => @l28c (hand T3) (rule.take.length + rule.give.length + rule.clear.length + 1) k out 0 2 st hb rule rule.give 0 o (rule.take.length + rule.give.length + rule.clear.length + 1)
    simp only [sub, c28, Tryd.f56, gets] at a1 a2 a3
    refine a1 _ _ _ rfl (by omega) True.intro htake ?_ ?_ ?_ ?_ ?_ ?_ ?_ ?_
    all_goals simp only [vmr, vmw, vmp, vza, ↓reduceIte, Nat.reduceBEq, Nat.reduceLT, Nat.reduceAdd, Nat.reduceEqDiff, reduceCtorEq, vmt, vzb, vzc, vlen, vleaf, velems, oks, vst, vmd, ty, Nat.reduceLeDiff, Nat.reduceMul, Nat.reduceSub, m28, Is, Int.cast_ofNat_Int]
    intro s1 h2 h2' h6 h6'
    simp only [vmr, vmw, vmp, vza, ↓reduceIte, Nat.reduceBEq, Nat.reduceLT, Nat.reduceAdd, Nat.reduceEqDiff, reduceCtorEq, vmt, vzb, vzc, vlen, vleaf, velems, oks, vst, vmd, ty, Nat.reduceLeDiff, Nat.reduceMul, Nat.reduceSub, m28, h2, h2', h6, h6']
    refine a2 _ _ (subF st rule.take 0) _ rfl (by omega) (by rw [subF_len]) ?_ ?_ ?_ ?_ ?_ ?_ ?_ ?_ ?_
    all_goals simp only [vmr, vmw, vmp, vza, ↓reduceIte, Nat.reduceBEq, Nat.reduceLT, Nat.reduceAdd, Nat.reduceEqDiff, reduceCtorEq, vmt, vzb, vzc, vlen, vleaf, velems, oks, vst, vmd, ty, Nat.reduceLeDiff, Nat.reduceMul, Nat.reduceSub, m28, h2, h2', h6, h6']
    clear h2 h2' h6 h6' s1
    intro s1 h2 h2' h6 h6' h9
    have hlen : (clrF rule.into (subF st rule.take 0) 0 rule.clear).1.length = st.length := by rw [clrF_len, subF_len]
    generalize hp : clrF rule.into (subF st rule.take 0) 0 rule.clear = p at h6' h9 hlen
    by_cases hin : 0 ≤ rule.into
    · have g0 : (rule.into ≥ 0) = True := by simp; omega
      have g1 : (0 ≤ rule.into) = True := by simp; omega
      have g2 : (rule.into < (st.length:Int)) = True := by simp; omega
      have ho := getI (l := p.1) (i := rule.into.toNat) (by omega)
      simp only [vmr, vmw, vmp, vza, ↓reduceIte, Nat.reduceBEq, Nat.reduceLT, Nat.reduceAdd, Nat.reduceEqDiff, reduceCtorEq, vmt, vzb, vzc, vlen, vleaf, velems, oks, vst, vmd, ty, Nat.reduceLeDiff, Nat.reduceMul, Nat.reduceSub, m28, h2, h2', h6, h6', h9, g0, g1, g2, ho, setI]
      refine a3 _ _ (p.1.set rule.into.toNat (w64 (p.1.getD rule.into.toNat 0 + p.2))) _ rfl (by omega) (by simp [hlen]) hgive ?_ ?_ ?_ ?_ ?_ ?_ ?_ ?_
      all_goals simp only [vmr, vmw, vmp, vza, ↓reduceIte, Nat.reduceBEq, Nat.reduceLT, Nat.reduceAdd, Nat.reduceEqDiff, reduceCtorEq, vmt, vzb, vzc, vlen, vleaf, velems, oks, vst, vmd, ty, Nat.reduceLeDiff, Nat.reduceMul, Nat.reduceSub, m28, h2, h2', h6, h6']
      clear h2 h2' h6 h6' h9 s1
      intro s1 h2 h2' h6 h6'
      have hl3 : (addF (p.1.set rule.into.toNat (w64 (p.1.getD rule.into.toNat 0 + p.2))) rule.give 0).length = st.length := by rw [addF_len]; simp [hlen]
      have hu : useF rule st = if maxF ((addF (p.1.set rule.into.toNat (w64 (p.1.getD rule.into.toNat 0 + p.2))) rule.give 0).headD 0) (addF (p.1.set rule.into.toNat (w64 (p.1.getD rule.into.toNat 0 + p.2))) rule.give 0).tail > 1000000 then (none, 7) else (some (addF (p.1.set rule.into.toNat (w64 (p.1.getD rule.into.toNat 0 + p.2))) rule.give 0), 0) := by
        simp only [useF, hcov, if_true, hp, hin, if_false]
      generalize addF (p.1.set rule.into.toNat (w64 (p.1.getD rule.into.toNat 0 + p.2))) rule.give 0 = o3 at hl3 hu h6'
      have ht := take_of o3 hl3
      have e4 := F44_eq (l := o3) (by rintro rfl; exact hne (List.length_eq_zero_iff.1 hl3.symm)) (by omega)
      rw [hu]
      by_cases hm : maxF (o3.headD 0) o3.tail > 1000000
      · have hm' : (maxF (o3.headD 0) o3.tail > 1000000) = True := eq_true hm
        simp only [vmr, vmw, vmp, vza, ↓reduceIte, Nat.reduceBEq, Nat.reduceLT, Nat.reduceAdd, Nat.reduceEqDiff, reduceCtorEq, vmt, vzb, vzc, vlen, vleaf, velems, oks, vst, vmd, ty, Nat.reduceLeDiff, Nat.reduceMul, Nat.reduceSub, vzr, m28, h6, h6', hl3, ht, e4, hm', shI, ownO]
      · have hm' : (maxF (o3.headD 0) o3.tail > 1000000) = False := eq_false hm
        simp only [vmr, vmw, vmp, vza, ↓reduceIte, Nat.reduceBEq, Nat.reduceLT, Nat.reduceAdd, Nat.reduceEqDiff, reduceCtorEq, vmt, vzb, vzc, vlen, vleaf, velems, oks, vst, vmd, ty, Nat.reduceLeDiff, Nat.reduceMul, Nat.reduceSub, vzr, m28, h6, h6', hl3, ht, e4, hm', shI, ownO]
    · have g0 : (rule.into ≥ 0) = False := by simp; omega
      simp only [vmr, vmw, vmp, vza, ↓reduceIte, Nat.reduceBEq, Nat.reduceLT, Nat.reduceAdd, Nat.reduceEqDiff, reduceCtorEq, vmt, vzb, vzc, vlen, vleaf, velems, oks, vst, vmd, ty, Nat.reduceLeDiff, Nat.reduceMul, Nat.reduceSub, m28, h2, h2', h6, h6', h9, g0, setI]
      refine a3 _ _ p.1 _ rfl (by omega) hlen hgive ?_ ?_ ?_ ?_ ?_ ?_ ?_ ?_
      all_goals simp only [vmr, vmw, vmp, vza, ↓reduceIte, Nat.reduceBEq, Nat.reduceLT, Nat.reduceAdd, Nat.reduceEqDiff, reduceCtorEq, vmt, vzb, vzc, vlen, vleaf, velems, oks, vst, vmd, ty, Nat.reduceLeDiff, Nat.reduceMul, Nat.reduceSub, m28, h2, h2', h6, h6']
      clear h2 h2' h6 h6' h9 s1
      intro s1 h2 h2' h6 h6'
      have hl3 : (addF p.1 rule.give 0).length = st.length := by rw [addF_len]; simp [hlen]
      have hu : useF rule st = if maxF ((addF p.1 rule.give 0).headD 0) (addF p.1 rule.give 0).tail > 1000000 then (none, 7) else (some (addF p.1 rule.give 0), 0) := by
        simp only [useF, hcov, if_true, hp, hin, if_false]
      generalize addF p.1 rule.give 0 = o3 at hl3 hu h6'
      have ht := take_of o3 hl3
      have e4 := F44_eq (l := o3) (by rintro rfl; exact hne (List.length_eq_zero_iff.1 hl3.symm)) (by omega)
      rw [hu]
      by_cases hm : maxF (o3.headD 0) o3.tail > 1000000
      · have hm' : (maxF (o3.headD 0) o3.tail > 1000000) = True := eq_true hm
        simp only [vmr, vmw, vmp, vza, ↓reduceIte, Nat.reduceBEq, Nat.reduceLT, Nat.reduceAdd, Nat.reduceEqDiff, reduceCtorEq, vmt, vzb, vzc, vlen, vleaf, velems, oks, vst, vmd, ty, Nat.reduceLeDiff, Nat.reduceMul, Nat.reduceSub, vzr, m28, h6, h6', hl3, ht, e4, hm', shI, ownO]
      · have hm' : (maxF (o3.headD 0) o3.tail > 1000000) = False := eq_false hm
        simp only [vmr, vmw, vmp, vza, ↓reduceIte, Nat.reduceBEq, Nat.reduceLT, Nat.reduceAdd, Nat.reduceEqDiff, reduceCtorEq, vmt, vzb, vzc, vlen, vleaf, velems, oks, vst, vmd, ty, Nat.reduceLeDiff, Nat.reduceMul, Nat.reduceSub, vzr, m28, h6, h6', hl3, ht, e4, hm', shI, ownO]
  · have hcov' : covF st rule.take 0 = false := by simpa using hcov
    simp only [vmr, vmw, vmp, vza, ↓reduceIte, Nat.reduceBEq, Nat.reduceLT, Nat.reduceAdd, Nat.reduceEqDiff, reduceCtorEq, vmt, vzb, vzc, vlen, vleaf, velems, oks, vst, vmd, ty, Nat.reduceLeDiff, Nat.reduceMul, Nat.reduceSub, vzr, m28, hcov', useF, ownO, if_false]
end Go.Vi
set_option maxRecDepth 100000
set_option maxHeartbeats 1000000
namespace Go.Vi
open Go Go.Proofs

def appB (T : List (FuncId × (List V → Option V))) (q : FuncId) (args : List V) : Bool := match hand T q with
  | some F => (match F args with | some (.bool b) => b | _ => false)
  | none => false
theorem canRulev (r : Rule) : can r.v = r.v := by simp only [can, cans, cans_I]
theorem Rule_inj {a b : Rule} (h : a.v = b.v) : a = b := by
  cases a; cases b
  injection h with h
  injection h with h1 h2; injection h2 with h2 h3; injection h3 with h3 h4; injection h4 with h4
  simp only [Rule.mk.injEq]
  exact ⟨Is_inj h1, Is_inj h2, Is_inj h3, I_inj h4⟩

/-! ### slices.IndexFunc, ContainsFunc over []int -/
theorem l47 {T n k out q cs} {F : List V → Option V} (p : Int → Bool) (hq : hand T q = some F) (hok : okL.contains q = true) (l : List (Int)) (hb : l.length ≤ 1000000) (hp : ∀ x ∈ l, F [I x, .iptr cs] = some (.bool (p x))) : ∀ r i n' s, l.drop i = r → r.length < n' → tget s.τ 0 = .lst (l.map I) → tget s.τ 1 = .fn (.func q) [] [.iptr cs] → tget s.τ 7 = I l.length → tget s.τ 8 = I (i : Nat) →
    (idxF p r i = -1 → ∀ s', Fin (M47 (hand T) n) [.tmp 4] (X (M47 (hand T) n) (.exit 0) k s') = some (.ret (I (-1)))) → out = some (.ret (I (idxF p r i))) →
    Fin (M47 (hand T) n) [.tmp 4] (L (M47 (hand T) n) (sub [1, 0, 1, 0, 0] c47) n' k s) = out
  | [], i, n' + 1, s, hi, hn, h0, h1, h7, h8, hx, ho => by
    have hc := inlt (drop_nil' hi)
    rw [L_succ, ho]
    have := hx rfl
    simp only [vmr, vmw, vmp, vza, ↓reduceIte, Nat.reduceBEq, Nat.reduceLT, Nat.reduceAdd, Nat.reduceEqDiff, reduceCtorEq, vmt, vzb, vzc, vlen, vleaf, velems, oks, vst, vmd, ty, Nat.reduceLeDiff, Nat.reduceMul, Nat.reduceSub, c47, Tryd.f71, m47, h0, h1, h7, h8, hc, this, idxF]
  | x :: r, i, n' + 1, s, hi, hn, h0, h1, h7, h8, hx, ho => by
    obtain ⟨hg, hd, hlt⟩ := drop_cons hi
    have hc := ilt hlt
    have hw := wsucc hlt hb
    have hpx := hp x (by rw [List.getElem?_eq_some_iff] at hg; obtain ⟨_, hg⟩ := hg; rw [← hg]; exact List.getElem_mem _)
    rw [L_succ]
    cases hpp : p x with
    | true =>
      rw [ho]
      rw [hpp] at hpx
      simp only [vmr, vmw, vmp, vza, ↓reduceIte, Nat.reduceBEq, Nat.reduceLT, Nat.reduceAdd, Nat.reduceEqDiff, reduceCtorEq, vmt, vzb, vzc, vlen, vleaf, velems, oks, vst, vmd, ty, Nat.reduceLeDiff, Nat.reduceMul, Nat.reduceSub, vzr, c47, Tryd.f71, m47, h0, h1, h7, h8, hc, hg, hw, hq, hok, hpx, hpp, idxF]
    | false =>
      rw [hpp] at hpx
      simp only [vmr, vmw, vmp, vza, ↓reduceIte, Nat.reduceBEq, Nat.reduceLT, Nat.reduceAdd, Nat.reduceEqDiff, reduceCtorEq, vmt, vzb, vzc, vlen, vleaf, velems, oks, vst, vmd, ty, Nat.reduceLeDiff, Nat.reduceMul, Nat.reduceSub, c47, Tryd.f71, m47, h0, h1, h7, h8, hc, hg, hw, hq, hok, hpx, hpp]
      simp only [idxF, hpp, if_ff] at hx ho
      have := fun s => @l47 T n k out q cs F p hq hok l hb hp r (i+1) n' s hd (by simp at hn; omega)
      simp only [sub, c47, Tryd.f71, gets] at this
      refine this _ ?_ ?_ ?_ ?_ hx ho
      all_goals simp only [vmr, vmw, vmp, vza, ↓reduceIte, Nat.reduceBEq, Nat.reduceLT, Nat.reduceAdd, Nat.reduceEqDiff, reduceCtorEq, h0, h1, h7, h8]
theorem w47 {T} (hH : SoundHand Tryd.prog (hand T)) {q cs} {F : List V → Option V} (p : Int → Bool) (hq : hand T q = some F) (hok : okL.contains q = true) (l : List (Int)) (hb : l.length ≤ 1000000) (hp : ∀ x ∈ l, F [I x, .iptr cs] = some (.bool (p x))) :
    SoundPure Tryd.prog 71 [.lst (l.map I), .fn (.func q) [] [.iptr cs]] (.ret (I (idxF p l 0))) := by
  refine s47 hH (l.length + 1) (by simp) rfl ?_
  have := fun k out => @l47 T (l.length + 1) k out q cs F p hq hok l hb hp l 0 (l.length + 1)
  simp only [sub, c47, Tryd.f71, gets] at this ⊢
  simp only [vmr, vmw, vmp, vza, ↓reduceIte, Nat.reduceBEq, Nat.reduceLT, Nat.reduceAdd, Nat.reduceEqDiff, reduceCtorEq, vmt, vzb, vzc, vlen, vleaf, velems, oks, vst, vmd, ty, Nat.reduceLeDiff, Nat.reduceMul, Nat.reduceSub, m47]
  refine this _ _ _ rfl (by omega) ?_ ?_ ?_ ?_ ?_ rfl
  all_goals simp only [vmr, vmw, vmp, vza, ↓reduceIte, Nat.reduceBEq, Nat.reduceLT, Nat.reduceAdd, Nat.reduceEqDiff, reduceCtorEq, vmt, vzb, vzc, vlen, vleaf, velems, oks, vst, vmd, ty, Nat.reduceLeDiff, Nat.reduceMul, Nat.reduceSub, m47]
  intro _ s'
  simp only [vmr, vmw, vmp, vza, ↓reduceIte, Nat.reduceBEq, Nat.reduceLT, Nat.reduceAdd, Nat.reduceEqDiff, reduceCtorEq, vmt, vzb, vzc, vlen, vleaf, velems, oks, vst, vmd, ty, Nat.reduceLeDiff, Nat.reduceMul, Nat.reduceSub, vzr, m47]
noncomputable def F47 (T : List (FuncId × (List V → Option V))) : List V → Option V := hF (α := List (Int) × FuncId × List V) (fun a => [.lst (a.1.map I), .fn (.func a.2.1) [] [.iptr a.2.2]]) (fun a => a.1.length ≤ 1000000 ∧ okL.contains a.2.1 = true ∧ ∃ F, hand T a.2.1 = some F ∧ ∀ x ∈ a.1, F [I x, .iptr a.2.2] = some (.bool (appB T a.2.1 [I x, .iptr a.2.2])))
  (fun a => I (idxF (fun x => appB T a.2.1 [I x, .iptr a.2.2]) a.1 0))
theorem F47_sound {T} (hH : SoundHand Tryd.prog (hand T)) : ∀ args v, F47 T args = some v → SoundPure Tryd.prog 71 args (.ret v) :=
  hF_sound fun a ⟨h1, h2, F, h3, h4⟩ => w47 hH _ h3 h2 a.1 h1 h4
theorem F47_eq {T q cs} {F : List V → Option V} {p : Int → Bool} {l : List (Int)} (hq : hand T q = some F) (hok : okL.contains q = true) (hb : l.length ≤ 1000000) (hp : ∀ x ∈ l, F [I x, .iptr cs] = some (.bool (p x))) : F47 T [.lst (l.map I), .fn (.func q) [] [.iptr cs]] = some (I (idxF p l 0)) := by
  have h1 : ∀ x ∈ l, appB T q [I x, .iptr cs] = p x := fun x hx => by simp only [appB, hq, hp x hx]
  have := hF_eq (a := ((l, q, cs) : List (Int) × FuncId × List V)) (enc := fun a => [.lst (a.1.map I), .fn (.func a.2.1) [] [.iptr a.2.2]]) (out := fun a => I (idxF (fun x => appB T a.2.1 [I x, .iptr a.2.2]) a.1 0))
    (ok := (fun a => a.1.length ≤ 1000000 ∧ okL.contains a.2.1 = true ∧ ∃ F, hand T a.2.1 = some F ∧ ∀ x ∈ a.1, F [I x, .iptr a.2.2] = some (.bool (appB T a.2.1 [I x, .iptr a.2.2])))) (args := [.lst (l.map I), .fn (.func q) [] [.iptr cs]])
    (fun a b h => by
      injection h with h1 h2; injection h1 with h1; injection h2 with h2; injection h2 with h2 h3 h4; injection h2 with h2; injection h4 with h4; injection h4 with h4
      exact Prod.ext (map_inj (fun _ _ => I_inj) h1) (Prod.ext h2 h4)) (by simp only [cans, can, cans_map_id canI]) ⟨hb, hok, F, hq, fun x hx => by rw [h1 x hx]; exact hp x hx⟩
  refine this.trans ?_
  simp only [idxF_congr h1]
theorem w42 {T T'} (hH : SoundHand Tryd.prog (hand T')) (h47 : hand T' 71 = some (F47 T)) {q cs} {F : List V → Option V} (p : Int → Bool) (hq : hand T q = some F) (hok : okL.contains q = true) (l : List (Int)) (hb : l.length ≤ 1000000) (hp : ∀ x ∈ l, F [I x, .iptr cs] = some (.bool (p x))) :
    SoundPure Tryd.prog 60 [.lst (l.map I), .fn (.func q) [] [.iptr cs]] (.ret (.bool (l.any p))) := by
  refine s42 hH 1 (by simp) rfl ?_
  have e := F47_eq hq hok hb hp
  simp only [c42, Tryd.f60, gets]
  simp only [vmr, vmw, vmp, vza, ↓reduceIte, Nat.reduceBEq, Nat.reduceLT, Nat.reduceAdd, Nat.reduceEqDiff, reduceCtorEq, vmt, vzb, vzc, vlen, vleaf, velems, oks, vst, vmd, ty, Nat.reduceLeDiff, Nat.reduceMul, Nat.reduceSub, vzr, m42, h47, e, ← idx_any]
noncomputable def F42 (T : List (FuncId × (List V → Option V))) : List V → Option V := hF (α := List (Int) × FuncId × List V) (fun a => [.lst (a.1.map I), .fn (.func a.2.1) [] [.iptr a.2.2]]) (fun a => a.1.length ≤ 1000000 ∧ okL.contains a.2.1 = true ∧ ∃ F, hand T a.2.1 = some F ∧ ∀ x ∈ a.1, F [I x, .iptr a.2.2] = some (.bool (appB T a.2.1 [I x, .iptr a.2.2])))
  (fun a => .bool (a.1.any fun x => appB T a.2.1 [I x, .iptr a.2.2]))
theorem F42_sound {T} (hH : SoundHand Tryd.prog (hand T)) : ∀ args v, F42 T args = some v → SoundPure Tryd.prog 60 args (.ret v) :=
  hF_sound fun a ⟨h1, h2, F, h3, h4⟩ => w42 (T := T) (T' := [(71, F47 T)]) (sound_cons (F47_sound hH) sound_nil) (by simp only [hand, if_true]) _ h3 h2 a.1 h1 h4
theorem F42_eq {T q cs} {F : List V → Option V} {p : Int → Bool} {l : List (Int)} (hq : hand T q = some F) (hok : okL.contains q = true) (hb : l.length ≤ 1000000) (hp : ∀ x ∈ l, F [I x, .iptr cs] = some (.bool (p x))) : F42 T [.lst (l.map I), .fn (.func q) [] [.iptr cs]] = some (.bool (l.any p)) := by
  have h1 : ∀ x ∈ l, appB T q [I x, .iptr cs] = p x := fun x hx => by simp only [appB, hq, hp x hx]
  have := hF_eq (a := ((l, q, cs) : List (Int) × FuncId × List V)) (enc := fun a => [.lst (a.1.map I), .fn (.func a.2.1) [] [.iptr a.2.2]]) (out := fun a => .bool (a.1.any fun x => appB T a.2.1 [I x, .iptr a.2.2]))
    (ok := (fun a => a.1.length ≤ 1000000 ∧ okL.contains a.2.1 = true ∧ ∃ F, hand T a.2.1 = some F ∧ ∀ x ∈ a.1, F [I x, .iptr a.2.2] = some (.bool (appB T a.2.1 [I x, .iptr a.2.2])))) (args := [.lst (l.map I), .fn (.func q) [] [.iptr cs]])
    (fun a b h => by
      injection h with h1 h2; injection h1 with h1; injection h2 with h2; injection h2 with h2 h3 h4; injection h2 with h2; injection h4 with h4; injection h4 with h4
      exact Prod.ext (map_inj (fun _ _ => I_inj) h1) (Prod.ext h2 h4)) (by simp only [cans, can, cans_map_id canI]) ⟨hb, hok, F, hq, fun x hx => by rw [h1 x hx]; exact hp x hx⟩
  refine this.trans ?_
  simp only [any_congr h1]

/-! ### slices.IndexFunc, ContainsFunc over [][]int -/
theorem l46 {T n k out q cs} {F : List V → Option V} (p : List Int → Bool) (hq : hand T q = some F) (hok : okL.contains q = true) (l : List (List Int)) (hb : l.length ≤ 1000000) (hp : ∀ x ∈ l, F [Is x, .iptr cs] = some (.bool (p x))) : ∀ r i n' s, l.drop i = r → r.length < n' → tget s.τ 0 = .lst (l.map Is) → tget s.τ 1 = .fn (.func q) [] [.iptr cs] → tget s.τ 7 = I l.length → tget s.τ 8 = I (i : Nat) →
    (idxF p r i = -1 → ∀ s', Fin (M46 (hand T) n) [.tmp 4] (X (M46 (hand T) n) (.exit 0) k s') = some (.ret (I (-1)))) → out = some (.ret (I (idxF p r i))) →
    Fin (M46 (hand T) n) [.tmp 4] (L (M46 (hand T) n) (sub [1, 0, 1, 0, 0] c46) n' k s) = out
  | [], i, n' + 1, s, hi, hn, h0, h1, h7, h8, hx, ho => by
    have hc := inlt (drop_nil' hi)
    rw [L_succ, ho]
    have := hx rfl
    simp only [vmr, vmw, vmp, vza, ↓reduceIte, Nat.reduceBEq, Nat.reduceLT, Nat.reduceAdd, Nat.reduceEqDiff, reduceCtorEq, vmt, vzb, vzc, vlen, vleaf, velems, oks, vst, vmd, ty, Nat.reduceLeDiff, Nat.reduceMul, Nat.reduceSub, c46, Tryd.f63, m46, h0, h1, h7, h8, hc, this, idxF]
  | x :: r, i, n' + 1, s, hi, hn, h0, h1, h7, h8, hx, ho => by
    obtain ⟨hg, hd, hlt⟩ := drop_cons hi
    have hc := ilt hlt
    have hw := wsucc hlt hb
    have hpx := hp x (by rw [List.getElem?_eq_some_iff] at hg; obtain ⟨_, hg⟩ := hg; rw [← hg]; exact List.getElem_mem _)
    rw [L_succ]
    cases hpp : p x with
    | true =>
      rw [ho]
      rw [hpp] at hpx
      simp only [vmr, vmw, vmp, vza, ↓reduceIte, Nat.reduceBEq, Nat.reduceLT, Nat.reduceAdd, Nat.reduceEqDiff, reduceCtorEq, vmt, vzb, vzc, vlen, vleaf, velems, oks, vst, vmd, ty, Nat.reduceLeDiff, Nat.reduceMul, Nat.reduceSub, vzr, c46, Tryd.f63, m46, h0, h1, h7, h8, hc, hg, hw, hq, hok, hpx, hpp, idxF]
    | false =>
      rw [hpp] at hpx
      simp only [vmr, vmw, vmp, vza, ↓reduceIte, Nat.reduceBEq, Nat.reduceLT, Nat.reduceAdd, Nat.reduceEqDiff, reduceCtorEq, vmt, vzb, vzc, vlen, vleaf, velems, oks, vst, vmd, ty, Nat.reduceLeDiff, Nat.reduceMul, Nat.reduceSub, c46, Tryd.f63, m46, h0, h1, h7, h8, hc, hg, hw, hq, hok, hpx, hpp]
      simp only [idxF, hpp, if_ff] at hx ho
      have := fun s => @l46 T n k out q cs F p hq hok l hb hp r (i+1) n' s hd (by simp at hn; omega)
      simp only [sub, c46, Tryd.f63, gets] at this
      refine this _ ?_ ?_ ?_ ?_ hx ho
      all_goals simp only [vmr, vmw, vmp, vza, ↓reduceIte, Nat.reduceBEq, Nat.reduceLT, Nat.reduceAdd, Nat.reduceEqDiff, reduceCtorEq, h0, h1, h7, h8]
theorem w46 {T} (hH : SoundHand Tryd.prog (hand T)) {q cs} {F : List V → Option V} (p : List Int → Bool) (hq : hand T q = some F) (hok : okL.contains q = true) (l : List (List Int)) (hb : l.length ≤ 1000000) (hp : ∀ x ∈ l, F [Is x, .iptr cs] = some (.bool (p x))) :
    SoundPure Tryd.prog 63 [.lst (l.map Is), .fn (.func q) [] [.iptr cs]] (.ret (I (idxF p l 0))) := by
  refine s46 hH (l.length + 1) (by simp) rfl ?_
  have := fun k out => @l46 T (l.length + 1) k out q cs F p hq hok l hb hp l 0 (l.length + 1)
  simp only [sub, c46, Tryd.f63, gets] at this ⊢
  simp only [vmr, vmw, vmp, vza, ↓reduceIte, Nat.reduceBEq, Nat.reduceLT, Nat.reduceAdd, Nat.reduceEqDiff, reduceCtorEq, vmt, vzb, vzc, vlen, vleaf, velems, oks, vst, vmd, ty, Nat.reduceLeDiff, Nat.reduceMul, Nat.reduceSub, m46]
  refine this _ _ _ rfl (by omega) ?_ ?_ ?_ ?_ ?_ rfl
  all_goals simp only [vmr, vmw, vmp, vza, ↓reduceIte, Nat.reduceBEq, Nat.reduceLT, Nat.reduceAdd, Nat.reduceEqDiff, reduceCtorEq, vmt, vzb, vzc, vlen, vleaf, velems, oks, vst, vmd, ty, Nat.reduceLeDiff, Nat.reduceMul, Nat.reduceSub, m46]
  intro _ s'
  simp only [vmr, vmw, vmp, vza, ↓reduceIte, Nat.reduceBEq, Nat.reduceLT, Nat.reduceAdd, Nat.reduceEqDiff, reduceCtorEq, vmt, vzb, vzc, vlen, vleaf, velems, oks, vst, vmd, ty, Nat.reduceLeDiff, Nat.reduceMul, Nat.reduceSub, vzr, m46]
noncomputable def F46 (T : List (FuncId × (List V → Option V))) : List V → Option V := hF (α := List (List Int) × FuncId × List V) (fun a => [.lst (a.1.map Is), .fn (.func a.2.1) [] [.iptr a.2.2]]) (fun a => a.1.length ≤ 1000000 ∧ okL.contains a.2.1 = true ∧ ∃ F, hand T a.2.1 = some F ∧ ∀ x ∈ a.1, F [Is x, .iptr a.2.2] = some (.bool (appB T a.2.1 [Is x, .iptr a.2.2])))
  (fun a => I (idxF (fun x => appB T a.2.1 [Is x, .iptr a.2.2]) a.1 0))
theorem F46_sound {T} (hH : SoundHand Tryd.prog (hand T)) : ∀ args v, F46 T args = some v → SoundPure Tryd.prog 63 args (.ret v) :=
  hF_sound fun a ⟨h1, h2, F, h3, h4⟩ => w46 hH _ h3 h2 a.1 h1 h4
theorem F46_eq {T q cs} {F : List V → Option V} {p : List Int → Bool} {l : List (List Int)} (hq : hand T q = some F) (hok : okL.contains q = true) (hb : l.length ≤ 1000000) (hp : ∀ x ∈ l, F [Is x, .iptr cs] = some (.bool (p x))) : F46 T [.lst (l.map Is), .fn (.func q) [] [.iptr cs]] = some (I (idxF p l 0)) := by
  have h1 : ∀ x ∈ l, appB T q [Is x, .iptr cs] = p x := fun x hx => by simp only [appB, hq, hp x hx]
  have := hF_eq (a := ((l, q, cs) : List (List Int) × FuncId × List V)) (enc := fun a => [.lst (a.1.map Is), .fn (.func a.2.1) [] [.iptr a.2.2]]) (out := fun a => I (idxF (fun x => appB T a.2.1 [Is x, .iptr a.2.2]) a.1 0))
    (ok := (fun a => a.1.length ≤ 1000000 ∧ okL.contains a.2.1 = true ∧ ∃ F, hand T a.2.1 = some F ∧ ∀ x ∈ a.1, F [Is x, .iptr a.2.2] = some (.bool (appB T a.2.1 [Is x, .iptr a.2.2])))) (args := [.lst (l.map Is), .fn (.func q) [] [.iptr cs]])
    (fun a b h => by
      injection h with h1 h2; injection h1 with h1; injection h2 with h2; injection h2 with h2 h3 h4; injection h2 with h2; injection h4 with h4; injection h4 with h4
      exact Prod.ext (map_inj (fun _ _ => Is_inj) h1) (Prod.ext h2 h4)) (by simp only [cans, can, cans_map_id canIs]) ⟨hb, hok, F, hq, fun x hx => by rw [h1 x hx]; exact hp x hx⟩
  refine this.trans ?_
  simp only [idxF_congr h1]
theorem w32 {T T'} (hH : SoundHand Tryd.prog (hand T')) (h46 : hand T' 63 = some (F46 T)) {q cs} {F : List V → Option V} (p : List Int → Bool) (hq : hand T q = some F) (hok : okL.contains q = true) (l : List (List Int)) (hb : l.length ≤ 1000000) (hp : ∀ x ∈ l, F [Is x, .iptr cs] = some (.bool (p x))) :
    SoundPure Tryd.prog 39 [.lst (l.map Is), .fn (.func q) [] [.iptr cs]] (.ret (.bool (l.any p))) := by
  refine s32 hH 1 (by simp) rfl ?_
  have e := F46_eq hq hok hb hp
  simp only [c32, Tryd.f39, gets]
  simp only [vmr, vmw, vmp, vza, ↓reduceIte, Nat.reduceBEq, Nat.reduceLT, Nat.reduceAdd, Nat.reduceEqDiff, reduceCtorEq, vmt, vzb, vzc, vlen, vleaf, velems, oks, vst, vmd, ty, Nat.reduceLeDiff, Nat.reduceMul, Nat.reduceSub, vzr, m32, h46, e, ← idx_any]
noncomputable def F32 (T : List (FuncId × (List V → Option V))) : List V → Option V := hF (α := List (List Int) × FuncId × List V) (fun a => [.lst (a.1.map Is), .fn (.func a.2.1) [] [.iptr a.2.2]]) (fun a => a.1.length ≤ 1000000 ∧ okL.contains a.2.1 = true ∧ ∃ F, hand T a.2.1 = some F ∧ ∀ x ∈ a.1, F [Is x, .iptr a.2.2] = some (.bool (appB T a.2.1 [Is x, .iptr a.2.2])))
  (fun a => .bool (a.1.any fun x => appB T a.2.1 [Is x, .iptr a.2.2]))
theorem F32_sound {T} (hH : SoundHand Tryd.prog (hand T)) : ∀ args v, F32 T args = some v → SoundPure Tryd.prog 39 args (.ret v) :=
  hF_sound fun a ⟨h1, h2, F, h3, h4⟩ => w32 (T := T) (T' := [(63, F46 T)]) (sound_cons (F46_sound hH) sound_nil) (by simp only [hand, if_true]) _ h3 h2 a.1 h1 h4
theorem F32_eq {T q cs} {F : List V → Option V} {p : List Int → Bool} {l : List (List Int)} (hq : hand T q = some F) (hok : okL.contains q = true) (hb : l.length ≤ 1000000) (hp : ∀ x ∈ l, F [Is x, .iptr cs] = some (.bool (p x))) : F32 T [.lst (l.map Is), .fn (.func q) [] [.iptr cs]] = some (.bool (l.any p)) := by
  have h1 : ∀ x ∈ l, appB T q [Is x, .iptr cs] = p x := fun x hx => by simp only [appB, hq, hp x hx]
  have := hF_eq (a := ((l, q, cs) : List (List Int) × FuncId × List V)) (enc := fun a => [.lst (a.1.map Is), .fn (.func a.2.1) [] [.iptr a.2.2]]) (out := fun a => .bool (a.1.any fun x => appB T a.2.1 [Is x, .iptr a.2.2]))
    (ok := (fun a => a.1.length ≤ 1000000 ∧ okL.contains a.2.1 = true ∧ ∃ F, hand T a.2.1 = some F ∧ ∀ x ∈ a.1, F [Is x, .iptr a.2.2] = some (.bool (appB T a.2.1 [Is x, .iptr a.2.2])))) (args := [.lst (l.map Is), .fn (.func q) [] [.iptr cs]])
    (fun a b h => by
      injection h with h1 h2; injection h1 with h1; injection h2 with h2; injection h2 with h2 h3 h4; injection h2 with h2; injection h4 with h4; injection h4 with h4
      exact Prod.ext (map_inj (fun _ _ => Is_inj) h1) (Prod.ext h2 h4)) (by simp only [cans, can, cans_map_id canIs]) ⟨hb, hok, F, hq, fun x hx => by rw [h1 x hx]; exact hp x hx⟩
  refine this.trans ?_
  simp only [any_congr h1]

/-! ### slices.IndexFunc, ContainsFunc over []Rule -/
theorem l45 {T n k out q cs} {F : List V → Option V} (p : Rule → Bool) (hq : hand T q = some F) (hok : okL.contains q = true) (l : List (Rule)) (hb : l.length ≤ 1000000) (hp : ∀ x ∈ l, F [Rule.v x, .iptr cs] = some (.bool (p x))) : ∀ r i n' s, l.drop i = r → r.length < n' → tget s.τ 0 = .lst (l.map Rule.v) → tget s.τ 1 = .fn (.func q) [] [.iptr cs] → tget s.τ 7 = I l.length → tget s.τ 8 = I (i : Nat) →
    (idxF p r i = -1 → ∀ s', Fin (M45 (hand T) n) [.tmp 4] (X (M45 (hand T) n) (.exit 0) k s') = some (.ret (I (-1)))) → out = some (.ret (I (idxF p r i))) →
    Fin (M45 (hand T) n) [.tmp 4] (L (M45 (hand T) n) (sub [1, 0, 1, 0, 0] c45) n' k s) = out
  | [], i, n' + 1, s, hi, hn, h0, h1, h7, h8, hx, ho => by
    have hc := inlt (drop_nil' hi)
    rw [L_succ, ho]
    have := hx rfl
    simp only [vmr, vmw, vmp, vza, ↓reduceIte, Nat.reduceBEq, Nat.reduceLT, Nat.reduceAdd, Nat.reduceEqDiff, reduceCtorEq, vmt, vzb, vzc, vlen, vleaf, velems, oks, vst, vmd, ty, Nat.reduceLeDiff, Nat.reduceMul, Nat.reduceSub, c45, Tryd.f62, m45, h0, h1, h7, h8, hc, this, idxF]
  | x :: r, i, n' + 1, s, hi, hn, h0, h1, h7, h8, hx, ho => by
    obtain ⟨hg, hd, hlt⟩ := drop_cons hi
    have hc := ilt hlt
    have hw := wsucc hlt hb
    have hpx := hp x (by rw [List.getElem?_eq_some_iff] at hg; obtain ⟨_, hg⟩ := hg; rw [← hg]; exact List.getElem_mem _)
    rw [L_succ]
    cases hpp : p x with
    | true =>
      rw [ho]
      rw [hpp] at hpx
      simp only [vmr, vmw, vmp, vza, ↓reduceIte, Nat.reduceBEq, Nat.reduceLT, Nat.reduceAdd, Nat.reduceEqDiff, reduceCtorEq, vmt, vzb, vzc, vlen, vleaf, velems, oks, vst, vmd, ty, Nat.reduceLeDiff, Nat.reduceMul, Nat.reduceSub, vzr, c45, Tryd.f62, m45, h0, h1, h7, h8, hc, hg, hw, hq, hok, hpx, hpp, idxF]
    | false =>
      rw [hpp] at hpx
      simp only [vmr, vmw, vmp, vza, ↓reduceIte, Nat.reduceBEq, Nat.reduceLT, Nat.reduceAdd, Nat.reduceEqDiff, reduceCtorEq, vmt, vzb, vzc, vlen, vleaf, velems, oks, vst, vmd, ty, Nat.reduceLeDiff, Nat.reduceMul, Nat.reduceSub, c45, Tryd.f62, m45, h0, h1, h7, h8, hc, hg, hw, hq, hok, hpx, hpp]
      simp only [idxF, hpp, if_ff] at hx ho
      have := fun s => @l45 T n k out q cs F p hq hok l hb hp r (i+1) n' s hd (by simp at hn; omega)
      simp only [sub, c45, Tryd.f62, gets] at this
      refine this _ ?_ ?_ ?_ ?_ hx ho
      all_goals simp only [vmr, vmw, vmp, vza, ↓reduceIte, Nat.reduceBEq, Nat.reduceLT, Nat.reduceAdd, Nat.reduceEqDiff, reduceCtorEq, h0, h1, h7, h8]
theorem w45 {T} (hH : SoundHand Tryd.prog (hand T)) {q cs} {F : List V → Option V} (p : Rule → Bool) (hq : hand T q = some F) (hok : okL.contains q = true) (l : List (Rule)) (hb : l.length ≤ 1000000) (hp : ∀ x ∈ l, F [Rule.v x, .iptr cs] = some (.bool (p x))) :
    SoundPure Tryd.prog 62 [.lst (l.map Rule.v), .fn (.func q) [] [.iptr cs]] (.ret (I (idxF p l 0))) := by
  refine s45 hH (l.length + 1) (by simp) rfl ?_
  have := fun k out => @l45 T (l.length + 1) k out q cs F p hq hok l hb hp l 0 (l.length + 1)
  simp only [sub, c45, Tryd.f62, gets] at this ⊢
  simp only [vmr, vmw, vmp, vza, ↓reduceIte, Nat.reduceBEq, Nat.reduceLT, Nat.reduceAdd, Nat.reduceEqDiff, reduceCtorEq, vmt, vzb, vzc, vlen, vleaf, velems, oks, vst, vmd, ty, Nat.reduceLeDiff, Nat.reduceMul, Nat.reduceSub, m45]
  refine this _ _ _ rfl (by omega) ?_ ?_ ?_ ?_ ?_ rfl
  all_goals simp only [vmr, vmw, vmp, vza, ↓reduceIte, Nat.reduceBEq, Nat.reduceLT, Nat.reduceAdd, Nat.reduceEqDiff, reduceCtorEq, vmt, vzb, vzc, vlen, vleaf, velems, oks, vst, vmd, ty, Nat.reduceLeDiff, Nat.reduceMul, Nat.reduceSub, m45]
  intro _ s'
  simp only [vmr, vmw, vmp, vza, ↓reduceIte, Nat.reduceBEq, Nat.reduceLT, Nat.reduceAdd, Nat.reduceEqDiff, reduceCtorEq, vmt, vzb, vzc, vlen, vleaf, velems, oks, vst, vmd, ty, Nat.reduceLeDiff, Nat.reduceMul, Nat.reduceSub, vzr, m45]
noncomputable def F45 (T : List (FuncId × (List V → Option V))) : List V → Option V := hF (α := List (Rule) × FuncId × List V) (fun a => [.lst (a.1.map Rule.v), .fn (.func a.2.1) [] [.iptr a.2.2]]) (fun a => a.1.length ≤ 1000000 ∧ okL.contains a.2.1 = true ∧ ∃ F, hand T a.2.1 = some F ∧ ∀ x ∈ a.1, F [Rule.v x, .iptr a.2.2] = some (.bool (appB T a.2.1 [Rule.v x, .iptr a.2.2])))
  (fun a => I (idxF (fun x => appB T a.2.1 [Rule.v x, .iptr a.2.2]) a.1 0))
theorem F45_sound {T} (hH : SoundHand Tryd.prog (hand T)) : ∀ args v, F45 T args = some v → SoundPure Tryd.prog 62 args (.ret v) :=
  hF_sound fun a ⟨h1, h2, F, h3, h4⟩ => w45 hH _ h3 h2 a.1 h1 h4
theorem F45_eq {T q cs} {F : List V → Option V} {p : Rule → Bool} {l : List (Rule)} (hq : hand T q = some F) (hok : okL.contains q = true) (hb : l.length ≤ 1000000) (hp : ∀ x ∈ l, F [Rule.v x, .iptr cs] = some (.bool (p x))) : F45 T [.lst (l.map Rule.v), .fn (.func q) [] [.iptr cs]] = some (I (idxF p l 0)) := by
  have h1 : ∀ x ∈ l, appB T q [Rule.v x, .iptr cs] = p x := fun x hx => by simp only [appB, hq, hp x hx]
  have := hF_eq (a := ((l, q, cs) : List (Rule) × FuncId × List V)) (enc := fun a => [.lst (a.1.map Rule.v), .fn (.func a.2.1) [] [.iptr a.2.2]]) (out := fun a => I (idxF (fun x => appB T a.2.1 [Rule.v x, .iptr a.2.2]) a.1 0))
    (ok := (fun a => a.1.length ≤ 1000000 ∧ okL.contains a.2.1 = true ∧ ∃ F, hand T a.2.1 = some F ∧ ∀ x ∈ a.1, F [Rule.v x, .iptr a.2.2] = some (.bool (appB T a.2.1 [Rule.v x, .iptr a.2.2])))) (args := [.lst (l.map Rule.v), .fn (.func q) [] [.iptr cs]])
    (fun a b h => by
      injection h with h1 h2; injection h1 with h1; injection h2 with h2; injection h2 with h2 h3 h4; injection h2 with h2; injection h4 with h4; injection h4 with h4
      exact Prod.ext (map_inj (fun _ _ => Rule_inj) h1) (Prod.ext h2 h4)) (by simp only [cans, can, cans_map_id canRulev]) ⟨hb, hok, F, hq, fun x hx => by rw [h1 x hx]; exact hp x hx⟩
  refine this.trans ?_
  simp only [idxF_congr h1]
theorem w29 {T T'} (hH : SoundHand Tryd.prog (hand T')) (h45 : hand T' 62 = some (F45 T)) {q cs} {F : List V → Option V} (p : Rule → Bool) (hq : hand T q = some F) (hok : okL.contains q = true) (l : List (Rule)) (hb : l.length ≤ 1000000) (hp : ∀ x ∈ l, F [Rule.v x, .iptr cs] = some (.bool (p x))) :
    SoundPure Tryd.prog 36 [.lst (l.map Rule.v), .fn (.func q) [] [.iptr cs]] (.ret (.bool (l.any p))) := by
  refine s29 hH 1 (by simp) rfl ?_
  have e := F45_eq hq hok hb hp
  simp only [c29, Tryd.f36, gets]
  simp only [vmr, vmw, vmp, vza, ↓reduceIte, Nat.reduceBEq, Nat.reduceLT, Nat.reduceAdd, Nat.reduceEqDiff, reduceCtorEq, vmt, vzb, vzc, vlen, vleaf, velems, oks, vst, vmd, ty, Nat.reduceLeDiff, Nat.reduceMul, Nat.reduceSub, vzr, m29, h45, e, ← idx_any]
noncomputable def F29 (T : List (FuncId × (List V → Option V))) : List V → Option V := hF (α := List (Rule) × FuncId × List V) (fun a => [.lst (a.1.map Rule.v), .fn (.func a.2.1) [] [.iptr a.2.2]]) (fun a => a.1.length ≤ 1000000 ∧ okL.contains a.2.1 = true ∧ ∃ F, hand T a.2.1 = some F ∧ ∀ x ∈ a.1, F [Rule.v x, .iptr a.2.2] = some (.bool (appB T a.2.1 [Rule.v x, .iptr a.2.2])))
  (fun a => .bool (a.1.any fun x => appB T a.2.1 [Rule.v x, .iptr a.2.2]))
theorem F29_sound {T} (hH : SoundHand Tryd.prog (hand T)) : ∀ args v, F29 T args = some v → SoundPure Tryd.prog 36 args (.ret v) :=
  hF_sound fun a ⟨h1, h2, F, h3, h4⟩ => w29 (T := T) (T' := [(62, F45 T)]) (sound_cons (F45_sound hH) sound_nil) (by simp only [hand, if_true]) _ h3 h2 a.1 h1 h4
theorem F29_eq {T q cs} {F : List V → Option V} {p : Rule → Bool} {l : List (Rule)} (hq : hand T q = some F) (hok : okL.contains q = true) (hb : l.length ≤ 1000000) (hp : ∀ x ∈ l, F [Rule.v x, .iptr cs] = some (.bool (p x))) : F29 T [.lst (l.map Rule.v), .fn (.func q) [] [.iptr cs]] = some (.bool (l.any p)) := by
  have h1 : ∀ x ∈ l, appB T q [Rule.v x, .iptr cs] = p x := fun x hx => by simp only [appB, hq, hp x hx]
  have := hF_eq (a := ((l, q, cs) : List (Rule) × FuncId × List V)) (enc := fun a => [.lst (a.1.map Rule.v), .fn (.func a.2.1) [] [.iptr a.2.2]]) (out := fun a => .bool (a.1.any fun x => appB T a.2.1 [Rule.v x, .iptr a.2.2]))
    (ok := (fun a => a.1.length ≤ 1000000 ∧ okL.contains a.2.1 = true ∧ ∃ F, hand T a.2.1 = some F ∧ ∀ x ∈ a.1, F [Rule.v x, .iptr a.2.2] = some (.bool (appB T a.2.1 [Rule.v x, .iptr a.2.2])))) (args := [.lst (l.map Rule.v), .fn (.func q) [] [.iptr cs]])
    (fun a b h => by
      injection h with h1 h2; injection h1 with h1; injection h2 with h2; injection h2 with h2 h3 h4; injection h2 with h2; injection h4 with h4; injection h4 with h4
      exact Prod.ext (map_inj (fun _ _ => Rule_inj) h1) (Prod.ext h2 h4)) (by simp only [cans, can, cans_map_id canRulev]) ⟨hb, hok, F, hq, fun x hx => by rw [h1 x hx]; exact hp x hx⟩
  refine this.trans ?_
  simp only [any_congr h1]
end Go.Vi
set_option maxRecDepth 100000
set_option maxHeartbeats 1000000
namespace Go.Vi
open Go Go.Proofs

noncomputable def F28 : List V → Option V := hF (α := Rule × List Int) (fun a => [a.1.v, Is a.2]) (fun a => useOk a.1 a.2) (fun a => .tup [ownO (useF a.1 a.2).1, I (useF a.1 a.2).2])
noncomputable abbrev T4 : List (FuncId × (List V → Option V)) := (56, F28) :: T3
theorem hT4 : SoundHand Tryd.prog (hand T4) := sound_cons (hF_sound fun a h => w28 a.1 a.2 h) hT3

/-! ### within -/
def outB (m n : Int) : Bool := decide (n < 0) || decide (n > m)
theorem w43 (n m : Int) : SoundPure Tryd.prog 61 [I n, .iptr [I m]] (.ret (.bool (outB m n))) := by
  refine s43 sound_nil 1 (by simp) rfl ?_
  simp only [c43, Tryd.f61, gets]
  unfold outB
  by_cases h : n < 0
  · have h' := eq_true h
    simp only [vmr, vmw, vmp, vza, ↓reduceIte, Nat.reduceBEq, Nat.reduceLT, Nat.reduceAdd, Nat.reduceEqDiff, reduceCtorEq, vmt, vzb, vzc, vlen, vleaf, velems, oks, vst, vmd, ty, Nat.reduceLeDiff, Nat.reduceMul, Nat.reduceSub, vzr, m43, h']
  · have h' := eq_false h
    simp only [vmr, vmw, vmp, vza, ↓reduceIte, Nat.reduceBEq, Nat.reduceLT, Nat.reduceAdd, Nat.reduceEqDiff, reduceCtorEq, vmt, vzb, vzc, vlen, vleaf, velems, oks, vst, vmd, ty, Nat.reduceLeDiff, Nat.reduceMul, Nat.reduceSub, vzr, m43, h', Bool.false_or]
abbrev pI (n : Int) : V := .iptr [I n]
theorem pI_inj (a b : Int) (h : pI a = pI b) : a = b := by injection h with h; injection h with h; exact I_inj h
noncomputable def F43 : List V → Option V := hF (α := Int × Int) (fun a => [I a.1, pI a.2]) (fun _ => True) (fun a => .bool (outB a.2 a.1))
theorem F43_eq (n m : Int) : F43 [I n, .iptr [I m]] = some (.bool (outB m n)) :=
  hF_eq (a := (n, m)) (two_inj (fun _ _ => I_inj) pI_inj) rfl trivial
noncomputable abbrev K42 : List (FuncId × (List V → Option V)) := [(61, F43)]
theorem hK42 : SoundHand Tryd.prog (hand K42) := sound_cons (hF_sound fun a _ => w43 a.1 a.2) sound_nil
noncomputable abbrev T5 : List (FuncId × (List V → Option V)) := (60, F42 K42) :: T4
theorem hT5 : SoundHand Tryd.prog (hand T5) := sound_cons (F42_sound hK42) hT4

def withinF (l : List Int) (c m : Int) : Bool := ((l.length : Int) == c) && !(l.any (outB m))
theorem w27 (l : List Int) (c m : Int) (hb : l.length ≤ 1000000) : SoundPure Tryd.prog 35 [Is l, I c, I m] (.ret (.bool (withinF l c m))) := by
  refine s27 hT5 1 (by simp) rfl ?_
  simp only [c27, Tryd.f35, gets]
  have e := F42_eq (T := K42) (q := 61) (cs := [I m]) (F := F43) (p := outB m) (l := l) rfl rfl hb (fun x _ => F43_eq x m)
  unfold withinF
  by_cases h : (l.length : Int) = c
  · have h' : ((l.length : Int) == c) = true := by simp [h]
    simp only [vmr, vmw, vmp, vza, ↓reduceIte, Nat.reduceBEq, Nat.reduceLT, Nat.reduceAdd, Nat.reduceEqDiff, reduceCtorEq, vmt, vzb, vzc, vlen, vleaf, velems, oks, vst, vmd, ty, Nat.reduceLeDiff, Nat.reduceMul, Nat.reduceSub, vzr, m27, h', e]
  · have h' : ((l.length : Int) == c) = false := by simp [h]
    simp only [vmr, vmw, vmp, vza, ↓reduceIte, Nat.reduceBEq, Nat.reduceLT, Nat.reduceAdd, Nat.reduceEqDiff, reduceCtorEq, vmt, vzb, vzc, vlen, vleaf, velems, oks, vst, vmd, ty, Nat.reduceLeDiff, Nat.reduceMul, Nat.reduceSub, vzr, m27, h', e]
noncomputable def F27 : List V → Option V := hF (α := List Int × Int × Int) (fun a => [Is a.1, I a.2.1, I a.2.2]) (fun a => a.1.length ≤ 1000000) (fun a => .bool (withinF a.1 a.2.1 a.2.2))
theorem F27_eq {l : List Int} (c m : Int) (hb : l.length ≤ 1000000) : F27 [Is l, I c, I m] = some (.bool (withinF l c m)) :=
  hF_eq (a := (l, c, m)) (three_inj (fun _ _ => Is_inj) (fun _ _ => I_inj) (fun _ _ => I_inj)) (by simp only [cans, canIs, canI]) hb
noncomputable abbrev T6 : List (FuncId × (List V → Option V)) := (35, F27) :: T5
theorem hT6 : SoundHand Tryd.prog (hand T6) := sound_cons (hF_sound fun a h => w27 a.1 a.2.1 a.2.2 h) hT5

/-! ### right -/
def clrOk (cl : List Int) (n : Int) : List Int → Nat → Bool
  | [], _ => true
  | x :: r, i => if x < 0 ∨ x ≥ n ∨ (0 < i ∧ x ≤ cl.getD (i - 1) 0) then false else clrOk cl n r (i + 1)
theorem l31 {T n k out v2} (rule : Rule) (cn : Int) (hb : rule.clear.length ≤ 1000000) : ∀ r i n' s, rule.clear.drop i = r → r.length < n' →
    tget s.τ 1 = I cn → tget s.τ 2 = .ptr ⟨0, 2, 0⟩ v2 0 0 → lget s.L (2, 0) = some (v2, .var rule.cs) → tget s.τ 20 = Is rule.clear → tget s.τ 21 = I rule.clear.length → tget s.τ 22 = I (i : Nat) →
    (clrOk rule.clear cn r i = false → out = some (.ret (.bool false))) →
    (clrOk rule.clear cn r i = true → ∀ s', tget s'.τ 1 = I cn → tget s'.τ 2 = .ptr ⟨0, 2, 0⟩ v2 0 0 → lget s'.L (2, 0) = some (v2, .var rule.cs) → Fin (M31 (hand T) n) [.tmp 4] (X (M31 (hand T) n) (.exit 0) k s') = out) →
    Fin (M31 (hand T) n) [.tmp 4] (L (M31 (hand T) n) (sub [1, 1, 0, 1, 0, 0] c31) n' k s) = out
  | [], i, n' + 1, s, hi, hn, h1, h2, h2', hA, hL, hI, ho, hx => by
    have hc := inlt (drop_nil' hi)
    rw [L_succ]
    simp only [vmr, vmw, vmp, vza, ↓reduceIte, Nat.reduceBEq, Nat.reduceLT, Nat.reduceAdd, Nat.reduceEqDiff, reduceCtorEq, vmt, vzb, vzc, vlen, vleaf, velems, oks, vst, vmd, ty, Nat.reduceLeDiff, Nat.reduceMul, Nat.reduceSub, c31, Tryd.f38, m31, hA, hL, hI, hc]
    refine hx rfl _ ?_ ?_ ?_
    all_goals simp only [vmr, vmw, vmp, vza, ↓reduceIte, Nat.reduceBEq, Nat.reduceLT, Nat.reduceAdd, Nat.reduceEqDiff, reduceCtorEq, vmt, vzb, vzc, vlen, vleaf, velems, oks, vst, vmd, ty, Nat.reduceLeDiff, Nat.reduceMul, Nat.reduceSub, m31, h1, h2, h2']
  | x :: r, i, n' + 1, s, hi, hn, h1, h2, h2', hA, hL, hI, ho, hx => by
    obtain ⟨hg, hd, hlt⟩ := drop_cons hi
    have hc := ilt hlt
    have hw := wsucc hlt hb
    have fail : (x < 0 ∨ x ≥ cn ∨ (0 < i ∧ x ≤ rule.clear.getD (i - 1) 0)) → out = some (.ret (.bool false)) := fun h => ho (by simp only [clrOk, if_pos h])
    have go : ∀ s, ¬ (x < 0 ∨ x ≥ cn ∨ (0 < i ∧ x ≤ rule.clear.getD (i - 1) 0)) → tget s.τ 1 = I cn → tget s.τ 2 = .ptr ⟨0, 2, 0⟩ v2 0 0 → lget s.L (2, 0) = some (v2, .var rule.cs) → tget s.τ 20 = Is rule.clear → tget s.τ 21 = I rule.clear.length → tget s.τ 22 = I ((i + 1 : Nat) : Int) →
        Fin (M31 (hand T) n) [.tmp 4] (L (M31 (hand T) n) (sub [1, 1, 0, 1, 0, 0] c31) n' k s) = out := fun s hne g1 g2 g2' gA gL gI => by
      simp only [clrOk, if_neg hne] at ho hx
      exact @l31 T n k out v2 rule cn hb r (i+1) n' s hd (by simp at hn; omega) g1 g2 g2' gA gL gI ho hx
    simp only [sub, c31, Tryd.f38, gets] at go
    rw [L_succ]
    by_cases q1 : x < 0
    · have q1' := eq_true q1
      rw [fail (.inl q1)]
      simp only [vmr, vmw, vmp, vza, ↓reduceIte, Nat.reduceBEq, Nat.reduceLT, Nat.reduceAdd, Nat.reduceEqDiff, reduceCtorEq, vmt, vzb, vzc, vlen, vleaf, velems, oks, vst, vmd, ty, Nat.reduceLeDiff, Nat.reduceMul, Nat.reduceSub, vzr, c31, Tryd.f38, m31, hA, hL, hI, hc, hg, q1']
    have q1' := eq_false q1
    by_cases q2 : x ≥ cn
    · have q2' := eq_true q2
      rw [fail (.inr (.inl q2))]
      simp only [vmr, vmw, vmp, vza, ↓reduceIte, Nat.reduceBEq, Nat.reduceLT, Nat.reduceAdd, Nat.reduceEqDiff, reduceCtorEq, vmt, vzb, vzc, vlen, vleaf, velems, oks, vst, vmd, ty, Nat.reduceLeDiff, Nat.reduceMul, Nat.reduceSub, vzr, c31, Tryd.f38, m31, hA, hL, hI, hc, hg, q1', q2', h1]
    have q2' := eq_false q2
    by_cases q3 : 0 < i
    · have q3' : ((i:Int) > 0) = True := by simp; omega
      have hw1 : IntKind.i64.wrap ((i:Int) - 1) = ((i - 1 : Nat) : Int) := by rw [wrap_id] <;> omega
      have ho1 := getI (l := rule.clear) (i := i - 1) (by omega)
      by_cases q4 : x ≤ rule.clear.getD (i - 1) 0
      · have q4' := eq_true q4
        rw [fail (.inr (.inr ⟨q3, q4⟩))]
        simp only [vmr, vmw, vmp, vza, ↓reduceIte, Nat.reduceBEq, Nat.reduceLT, Nat.reduceAdd, Nat.reduceEqDiff, reduceCtorEq, vmt, vzb, vzc, vlen, vleaf, velems, oks, vst, vmd, ty, Nat.reduceLeDiff, Nat.reduceMul, Nat.reduceSub, vzr, c31, Tryd.f38, m31, hA, hL, hI, hc, hg, q1', q2', q3', q4', h1, h2, h2', hw1, ho1]
      · have q4' := eq_false q4
        simp only [vmr, vmw, vmp, vza, ↓reduceIte, Nat.reduceBEq, Nat.reduceLT, Nat.reduceAdd, Nat.reduceEqDiff, reduceCtorEq, vmt, vzb, vzc, vlen, vleaf, velems, oks, vst, vmd, ty, Nat.reduceLeDiff, Nat.reduceMul, Nat.reduceSub, c31, Tryd.f38, m31, hA, hL, hI, hc, hg, hw, q1', q2', q3', q4', h1, h2, h2', hw1, ho1]
        refine go _ (by rintro (h | h | h) <;> first | exact q1 h | exact q2 h | exact q4 h.2) ?_ ?_ ?_ ?_ ?_ ?_
        all_goals simp only [vmr, vmw, vmp, vza, ↓reduceIte, Nat.reduceBEq, Nat.reduceLT, Nat.reduceAdd, Nat.reduceEqDiff, reduceCtorEq, vmt, vzb, vzc, vlen, vleaf, velems, oks, vst, vmd, ty, Nat.reduceLeDiff, Nat.reduceMul, Nat.reduceSub, m31, h1, h2, h2', hA, hL, hI]
    · have q3' : ((i:Int) > 0) = False := by simp; omega
      simp only [vmr, vmw, vmp, vza, ↓reduceIte, Nat.reduceBEq, Nat.reduceLT, Nat.reduceAdd, Nat.reduceEqDiff, reduceCtorEq, vmt, vzb, vzc, vlen, vleaf, velems, oks, vst, vmd, ty, Nat.reduceLeDiff, Nat.reduceMul, Nat.reduceSub, c31, Tryd.f38, m31, hA, hL, hI, hc, hg, hw, q1', q2', q3', h1, h2, h2']
      refine go _ (by rintro (h | h | h) <;> first | exact q1 h | exact q2 h | exact q3 h.1) ?_ ?_ ?_ ?_ ?_ ?_
      all_goals simp only [vmr, vmw, vmp, vza, ↓reduceIte, Nat.reduceBEq, Nat.reduceLT, Nat.reduceAdd, Nat.reduceEqDiff, reduceCtorEq, vmt, vzb, vzc, vlen, vleaf, velems, oks, vst, vmd, ty, Nat.reduceLeDiff, Nat.reduceMul, Nat.reduceSub, m31, h1, h2, h2', hA, hL, hI]
def rightF (r : Rule) (n : Int) : Bool :=
  withinF r.take n 6 && withinF r.give n 6 && clrOk r.clear n r.clear 0 && (r.into == -1 || (decide (r.into ≥ 0) && decide (r.into < n) && decide ((r.clear.length : Int) > 0)))
structure Rule.ok (r : Rule) : Prop where
  take : r.take.length ≤ 1000
  give : r.give.length ≤ 1000
  clear : r.clear.length ≤ 1000
theorem w31 (r : Rule) (n : Int) (hr : r.ok) : SoundPure Tryd.prog 38 [r.v, I n] (.ret (.bool (rightF r n))) := by
  obtain ⟨b1, b2, b3⟩ := hr
  refine s31 hT6 (r.clear.length + 1) (by simp) rfl ?_
  simp only [c31, Tryd.f38, gets]
  have e1 := F27_eq (l := r.take) n 6 (by omega)
  have e2 := F27_eq (l := r.give) n 6 (by omega)
  unfold rightF
  cases g1 : withinF r.take n 6 with
  | false => simp only [vmr, vmw, vmp, vza, ↓reduceIte, Nat.reduceBEq, Nat.reduceLT, Nat.reduceAdd, Nat.reduceEqDiff, reduceCtorEq, vmt, vzb, vzc, vlen, vleaf, velems, oks, vst, vmd, ty, Nat.reduceLeDiff, Nat.reduceMul, Nat.reduceSub, vzr, m31, e1, g1]
  | true =>
    cases g2 : withinF r.give n 6 with
    | false => simp only [vmr, vmw, vmp, vza, ↓reduceIte, Nat.reduceBEq, Nat.reduceLT, Nat.reduceAdd, Nat.reduceEqDiff, reduceCtorEq, vmt, vzb, vzc, vlen, vleaf, velems, oks, vst, vmd, ty, Nat.reduceLeDiff, Nat.reduceMul, Nat.reduceSub, vzr, m31, e1, g1, e2, g2]
    | true =>
      have := fun k out => @l31 T6 (r.clear.length + 1) k out 0 r n (by omega) r.clear 0 (r.clear.length + 1)
      simp only [sub, c31, Tryd.f38, gets] at this
      simp only [vmr, vmw, vmp, vza, ↓reduceIte, Nat.reduceBEq, Nat.reduceLT, Nat.reduceAdd, Nat.reduceEqDiff, reduceCtorEq, vmt, vzb, vzc, vlen, vleaf, velems, oks, vst, vmd, ty, Nat.reduceLeDiff, Nat.reduceMul, Nat.reduceSub, m31, e1, g1, e2, g2]
      refine this _ _ _ rfl (by omega) ?_ ?_ ?_ ?_ ?_ ?_ ?_ ?_
      case refine_7 => intro h; rw [h]; simp
      case refine_8 =>
        intro h s' h1 h2 h2'
        rw [h]
        by_cases q1 : r.into = -1
        · have q1' : (r.into == -1) = true := by simp [q1]
          simp only [vmr, vmw, vmp, vza, ↓reduceIte, Nat.reduceBEq, Nat.reduceLT, Nat.reduceAdd, Nat.reduceEqDiff, reduceCtorEq, vmt, vzb, vzc, vlen, vleaf, velems, oks, vst, vmd, ty, Nat.reduceLeDiff, Nat.reduceMul, Nat.reduceSub, vzr, m31, h1, h2, h2', q1']
        have q1' : (r.into == -1) = false := by simp [q1]
        by_cases q2 : r.into ≥ 0
        · have q2' := eq_true q2
          by_cases q3 : r.into < n
          · have q3' := eq_true q3
            simp only [vmr, vmw, vmp, vza, ↓reduceIte, Nat.reduceBEq, Nat.reduceLT, Nat.reduceAdd, Nat.reduceEqDiff, reduceCtorEq, vmt, vzb, vzc, vlen, vleaf, velems, oks, vst, vmd, ty, Nat.reduceLeDiff, Nat.reduceMul, Nat.reduceSub, vzr, m31, h1, h2, h2', q1', q2', q3']
          · have q3' := eq_false q3
            simp only [vmr, vmw, vmp, vza, ↓reduceIte, Nat.reduceBEq, Nat.reduceLT, Nat.reduceAdd, Nat.reduceEqDiff, reduceCtorEq, vmt, vzb, vzc, vlen, vleaf, velems, oks, vst, vmd, ty, Nat.reduceLeDiff, Nat.reduceMul, Nat.reduceSub, vzr, m31, h1, h2, h2', q1', q2', q3']
        · have q2' := eq_false q2
          simp only [vmr, vmw, vmp, vza, ↓reduceIte, Nat.reduceBEq, Nat.reduceLT, Nat.reduceAdd, Nat.reduceEqDiff, reduceCtorEq, vmt, vzb, vzc, vlen, vleaf, velems, oks, vst, vmd, ty, Nat.reduceLeDiff, Nat.reduceMul, Nat.reduceSub, vzr, m31, h1, h2, h2', q1', q2']
      all_goals simp only [vmr, vmw, vmp, vza, ↓reduceIte, Nat.reduceBEq, Nat.reduceLT, Nat.reduceAdd, Nat.reduceEqDiff, reduceCtorEq, vmt, vzb, vzc, vlen, vleaf, velems, oks, vst, vmd, ty, Nat.reduceLeDiff, Nat.reduceMul, Nat.reduceSub, m31, Rule.cs]
end Go.Vi
set_option maxRecDepth 100000
set_option maxHeartbeats 4000000
namespace Go.Vi
open Go Go.Proofs

structure Prot where
  begin : List Int
  free : Int
  rules : List Rule
  bad : List (List Int)
abbrev Rules (l : List Rule) : V := .lst (l.map Rule.v)
abbrev Iss (l : List (List Int)) : V := .lst (l.map Is)
abbrev Prot.cs (p : Prot) : List V := [Is p.begin, I p.free, Rules p.rules, Iss p.bad]
abbrev Prot.v (p : Prot) : V := .agg p.cs
structure Prot.ok (p : Prot) : Prop where
  begin : p.begin.length ≤ 1000
  rules : p.rules.length ≤ 1000
  rule : ∀ r ∈ p.rules, r.ok
  bad : p.bad.length ≤ 1000
  bads : ∀ l ∈ p.bad, l.length ≤ 1000
theorem Prot_inj {a b : Prot} (h : a.v = b.v) : a = b := by
  cases a; cases b
  injection h with h
  injection h with h1 h2; injection h2 with h2 h3; injection h3 with h3 h4; injection h4 with h4
  injection h3 with h3; injection h4 with h4
  simp only [Prot.mk.injEq]
  exact ⟨Is_inj h1, I_inj h2, map_inj (fun _ _ => Rule_inj) h3, map_inj (fun _ _ => Is_inj) h4⟩
theorem canProt (p : Prot) : can p.v = p.v := by simp only [can, cans, cans_I, cans_map_id canIs, cans_map_id canRulev]

noncomputable def F31 : List V → Option V := hF (α := Rule × Int) (fun a => [a.1.v, I a.2]) (fun a => a.1.ok) (fun a => .bool (rightF a.1 a.2))
theorem F31_eq {r : Rule} (n : Int) (h : r.ok) : F31 [r.v, I n] = some (.bool (rightF r n)) :=
  hF_eq (a := (r, n)) (two_inj (fun _ _ => Rule_inj) (fun _ _ => I_inj)) (by simp only [cans, canRulev, canI]) h
noncomputable abbrev T7 : List (FuncId × (List V → Option V)) := (38, F31) :: T6
theorem hT7 : SoundHand Tryd.prog (hand T7) := sound_cons (hF_sound fun a h => w31 a.1 a.2 h) hT6

theorem w30 (r : Rule) (n : Int) (hr : r.ok) : SoundPure Tryd.prog 37 [r.v, .iptr [I n]] (.ret (.bool (!rightF r n))) := by
  refine s30 hT7 1 (by simp) rfl ?_
  simp only [c30, Tryd.f37, gets]
  have e := F31_eq n hr
  simp only [vmr, vmw, vmp, vza, ↓reduceIte, Nat.reduceBEq, Nat.reduceLT, Nat.reduceAdd, Nat.reduceEqDiff, reduceCtorEq, vmt, vzb, vzc, vlen, vleaf, velems, oks, vst, vmd, ty, Nat.reduceLeDiff, Nat.reduceMul, Nat.reduceSub, vzr, m30, e]
noncomputable def F30 : List V → Option V := hF (α := Rule × Int) (fun a => [a.1.v, pI a.2]) (fun a => a.1.ok) (fun a => .bool (!rightF a.1 a.2))
theorem F30_eq {r : Rule} (n : Int) (h : r.ok) : F30 [r.v, .iptr [I n]] = some (.bool (!rightF r n)) :=
  hF_eq (a := (r, n)) (two_inj (fun _ _ => Rule_inj) pI_inj) (by simp only [cans, canRulev]; rfl) h
theorem w33 (l : List Int) (n : Int) (hl : l.length ≤ 1000) : SoundPure Tryd.prog 40 [Is l, .iptr [I n]] (.ret (.bool (!withinF l n 6))) := by
  refine s33 hT7 1 (by simp) rfl ?_
  simp only [c33, Tryd.f40, gets]
  have e := F27_eq (l := l) n 6 (by omega)
  simp only [vmr, vmw, vmp, vza, ↓reduceIte, Nat.reduceBEq, Nat.reduceLT, Nat.reduceAdd, Nat.reduceEqDiff, reduceCtorEq, vmt, vzb, vzc, vlen, vleaf, velems, oks, vst, vmd, ty, Nat.reduceLeDiff, Nat.reduceMul, Nat.reduceSub, vzr, m33, e]
noncomputable def F33 : List V → Option V := hF (α := List Int × Int) (fun a => [Is a.1, pI a.2]) (fun a => a.1.length ≤ 1000) (fun a => .bool (!withinF a.1 a.2 6))
theorem F33_eq {l : List Int} (n : Int) (h : l.length ≤ 1000) : F33 [Is l, .iptr [I n]] = some (.bool (!withinF l n 6)) :=
  hF_eq (a := (l, n)) (two_inj (fun _ _ => Is_inj) pI_inj) (by simp only [cans, canIs]; rfl) h
abbrev pIs (l : List Int) : V := .iptr [Is l]
theorem pIs_inj (a b : List Int) (h : pIs a = pIs b) : a = b := by injection h with h; injection h with h; exact Is_inj h
theorem w40 (le st : List Int) (hl : le.length ≤ st.length) (hb : le.length ≤ 1000) : SoundPure Tryd.prog 58 [Is le, .iptr [Is st]] (.ret (.bool (covF st le 0))) := by
  refine s40 hT7 1 (by simp) rfl ?_
  simp only [c40, Tryd.f58, gets]
  have e := F41_eq hl (by omega)
  simp only [vmr, vmw, vmp, vza, ↓reduceIte, Nat.reduceBEq, Nat.reduceLT, Nat.reduceAdd, Nat.reduceEqDiff, reduceCtorEq, vmt, vzb, vzc, vlen, vleaf, velems, oks, vst, vmd, ty, Nat.reduceLeDiff, Nat.reduceMul, Nat.reduceSub, vzr, m40, e]
noncomputable def F40 : List V → Option V := hF (α := List Int × List Int) (fun a => [Is a.1, pIs a.2]) (fun a => a.1.length ≤ a.2.length ∧ a.1.length ≤ 1000) (fun a => .bool (covF a.2 a.1 0))
theorem F40_eq {le st : List Int} (hl : le.length ≤ st.length) (hb : le.length ≤ 1000) : F40 [Is le, .iptr [Is st]] = some (.bool (covF st le 0)) :=
  hF_eq (a := (le, st)) (two_inj (fun _ _ => Is_inj) pIs_inj) (by simp only [cans, canIs]; rfl) ⟨hl, hb⟩
noncomputable abbrev K32 : List (FuncId × (List V → Option V)) := [(58, F40), (40, F33)]
theorem hK32 : SoundHand Tryd.prog (hand K32) := sound_cons (hF_sound fun a h => w40 a.1 a.2 h.1 h.2) (sound_cons (hF_sound fun a h => w33 a.1 a.2 h) sound_nil)
noncomputable abbrev K29 : List (FuncId × (List V → Option V)) := [(37, F30)]
theorem hK29 : SoundHand Tryd.prog (hand K29) := sound_cons (hF_sound fun a h => w30 a.1 a.2 h) sound_nil
noncomputable abbrev T8 : List (FuncId × (List V → Option V)) := (36, F29 K29) :: (39, F32 K32) :: T7
theorem hT8 : SoundHand Tryd.prog (hand T8) := sound_cons (F29_sound hK29) (sound_cons (F32_sound hK32) hT7)

/-! ### bad -/
def badF (p : Prot) (st : List Int) : Bool := p.bad.any fun le => covF st le 0
theorem w22 (p : Prot) (st : List Int) (hp : p.ok) (hl : ∀ l ∈ p.bad, l.length ≤ st.length) : SoundPure Tryd.prog 34 [p.v, Is st] (.ret (.bool (badF p st))) := by
  refine s22 hT8 1 (by simp) rfl ?_
  simp only [c22, Tryd.f34, gets]
  have e := F32_eq (T := K32) (q := 58) (cs := [Is st]) (F := F40) (p := fun le => covF st le 0) (l := p.bad) rfl rfl (by have := hp.bad; omega) (fun x hx => F40_eq (hl x hx) (hp.bads x hx))
  simp only [vmr, vmw, vmp, vza, ↓reduceIte, Nat.reduceBEq, Nat.reduceLT, Nat.reduceAdd, Nat.reduceEqDiff, reduceCtorEq, vmt, vzb, vzc, vlen, vleaf, velems, oks, vst, vmd, ty, Nat.reduceLeDiff, Nat.reduceMul, Nat.reduceSub, vzr, m22, e, badF]
noncomputable def F22 : List V → Option V := hF (α := Prot × List Int) (fun a => [a.1.v, Is a.2]) (fun a => a.1.ok ∧ ∀ l ∈ a.1.bad, l.length ≤ a.2.length) (fun a => .bool (badF a.1 a.2))
/-! ### Check -/
def checkF (p : Prot) : Int :=
  if (p.begin.length : Int) < 1 ∨ (p.begin.length : Int) > 8 ∨ (p.rules.length : Int) > 12 ∨ (p.bad.length : Int) > 8 then 5
  else if withinF p.begin p.begin.length 6 = false ∨ p.free < 0 ∨ p.free ≥ p.begin.length ∨ (p.rules.any fun r => !rightF r p.begin.length) = true ∨ (p.bad.any fun l => !withinF l p.begin.length 6) = true then 360
  else 0
theorem w14 (p : Prot) (hp : p.ok) : SoundPure Tryd.prog 16 [p.v] (.ret (I (checkF p))) := by
  refine s14 hT8 1 (by simp) rfl ?_
  simp only [c14, Tryd.f16, gets]
  have e1 := F27_eq (l := p.begin) p.begin.length 6 (by have := hp.begin; omega)
  have e2 := F29_eq (T := K29) (q := 37) (cs := [I p.begin.length]) (F := F30) (p := fun r => !rightF r p.begin.length) (l := p.rules) rfl rfl (by have := hp.rules; omega) (fun x hx => F30_eq _ (hp.rule x hx))
  have e3 := F32_eq (T := K32) (q := 40) (cs := [I p.begin.length]) (F := F33) (p := fun l => !withinF l p.begin.length 6) (l := p.bad) rfl rfl (by have := hp.bad; omega) (fun x hx => F33_eq _ (hp.bads x hx))
  unfold checkF
  by_cases q1 : (p.begin.length : Int) < 1
  · have q1' := eq_true q1
    simp only [vmr, vmw, vmp, vza, ↓reduceIte, Nat.reduceBEq, Nat.reduceLT, Nat.reduceAdd, Nat.reduceEqDiff, reduceCtorEq, vmt, vzb, vzc, vlen, vleaf, velems, oks, vst, vmd, ty, Nat.reduceLeDiff, Nat.reduceMul, Nat.reduceSub, vzr, m14, q1']
  have q1' := eq_false q1
  by_cases q2 : (p.begin.length : Int) > 8
  · have q2' := eq_true q2
    simp only [vmr, vmw, vmp, vza, ↓reduceIte, Nat.reduceBEq, Nat.reduceLT, Nat.reduceAdd, Nat.reduceEqDiff, reduceCtorEq, vmt, vzb, vzc, vlen, vleaf, velems, oks, vst, vmd, ty, Nat.reduceLeDiff, Nat.reduceMul, Nat.reduceSub, vzr, m14, q1', q2']
  have q2' := eq_false q2
  by_cases q3 : (p.rules.length : Int) > 12
  · have q3' := eq_true q3
    simp only [vmr, vmw, vmp, vza, ↓reduceIte, Nat.reduceBEq, Nat.reduceLT, Nat.reduceAdd, Nat.reduceEqDiff, reduceCtorEq, vmt, vzb, vzc, vlen, vleaf, velems, oks, vst, vmd, ty, Nat.reduceLeDiff, Nat.reduceMul, Nat.reduceSub, vzr, m14, q1', q2', q3']
  have q3' := eq_false q3
  by_cases q4 : (p.bad.length : Int) > 8
  · have q4' := eq_true q4
    simp only [vmr, vmw, vmp, vza, ↓reduceIte, Nat.reduceBEq, Nat.reduceLT, Nat.reduceAdd, Nat.reduceEqDiff, reduceCtorEq, vmt, vzb, vzc, vlen, vleaf, velems, oks, vst, vmd, ty, Nat.reduceLeDiff, Nat.reduceMul, Nat.reduceSub, vzr, m14, q1', q2', q3', q4']
  have q4' := eq_false q4
  cases g1 : withinF p.begin p.begin.length 6 with
  | false => simp only [vmr, vmw, vmp, vza, ↓reduceIte, Nat.reduceBEq, Nat.reduceLT, Nat.reduceAdd, Nat.reduceEqDiff, reduceCtorEq, vmt, vzb, vzc, vlen, vleaf, velems, oks, vst, vmd, ty, Nat.reduceLeDiff, Nat.reduceMul, Nat.reduceSub, vzr, m14, q1', q2', q3', q4', e1, g1]
  | true =>
  by_cases q5 : p.free < 0
  · have q5' := eq_true q5
    simp only [vmr, vmw, vmp, vza, ↓reduceIte, Nat.reduceBEq, Nat.reduceLT, Nat.reduceAdd, Nat.reduceEqDiff, reduceCtorEq, vmt, vzb, vzc, vlen, vleaf, velems, oks, vst, vmd, ty, Nat.reduceLeDiff, Nat.reduceMul, Nat.reduceSub, vzr, m14, q1', q2', q3', q4', e1, g1, q5']
  have q5' := eq_false q5
  by_cases q6 : p.free ≥ p.begin.length
  · have q6' := eq_true q6
    simp only [vmr, vmw, vmp, vza, ↓reduceIte, Nat.reduceBEq, Nat.reduceLT, Nat.reduceAdd, Nat.reduceEqDiff, reduceCtorEq, vmt, vzb, vzc, vlen, vleaf, velems, oks, vst, vmd, ty, Nat.reduceLeDiff, Nat.reduceMul, Nat.reduceSub, vzr, m14, q1', q2', q3', q4', e1, g1, q5', q6']
  have q6' := eq_false q6
  generalize (p.rules.any fun r => !rightF r p.begin.length) = g2 at e2
  generalize (p.bad.any fun l => !withinF l p.begin.length 6) = g3 at e3
  cases g2 with
  | true => simp only [vmr, vmw, vmp, vza, ↓reduceIte, Nat.reduceBEq, Nat.reduceLT, Nat.reduceAdd, Nat.reduceEqDiff, reduceCtorEq, vmt, vzb, vzc, vlen, vleaf, velems, oks, vst, vmd, ty, Nat.reduceLeDiff, Nat.reduceMul, Nat.reduceSub, vzr, m14, q1', q2', q3', q4', e1, g1, q5', q6', e2]
  | false =>
  cases g3 with
  | true => simp only [vmr, vmw, vmp, vza, ↓reduceIte, Nat.reduceBEq, Nat.reduceLT, Nat.reduceAdd, Nat.reduceEqDiff, reduceCtorEq, vmt, vzb, vzc, vlen, vleaf, velems, oks, vst, vmd, ty, Nat.reduceLeDiff, Nat.reduceMul, Nat.reduceSub, vzr, m14, q1', q2', q3', q4', e1, g1, q5', q6', e2, e3]
  | false => simp only [vmr, vmw, vmp, vza, ↓reduceIte, Nat.reduceBEq, Nat.reduceLT, Nat.reduceAdd, Nat.reduceEqDiff, reduceCtorEq, vmt, vzb, vzc, vlen, vleaf, velems, oks, vst, vmd, ty, Nat.reduceLeDiff, Nat.reduceMul, Nat.reduceSub, vzr, m14, q1', q2', q3', q4', e1, g1, q5', q6', e2, e3]
end Go.Vi
set_option maxRecDepth 100000
set_option maxHeartbeats 4000000
namespace Go.Vi
open Go Go.Proofs

noncomputable def F14 : List V → Option V := hF (α := Prot) (fun a => [a.v]) (fun a => a.ok) (fun a => I (checkF a))
theorem F14_eq {p : Prot} (h : p.ok) : F14 [p.v] = some (I (checkF p)) := hF_eq (a := p) (one_inj' fun _ _ => Prot_inj) (by simp only [cans, canProt]) h
noncomputable abbrev T9 : List (FuncId × (List V → Option V)) := (16, F14) :: (34, F22) :: T8
theorem hT9 : SoundHand Tryd.prog (hand T9) := sound_cons (hF_sound fun a h => w14 a h) (sound_cons (hF_sound fun a h => w22 a.1 a.2 h.1 h.2) hT8)

def startF (p : Prot) (more : Int) : List Int := p.begin.set p.free.toNat (w64 (p.begin.getD p.free.toNat 0 + more))
theorem w36 (p : Prot) (more : Int) (hp : p.ok) (hf : 0 ≤ p.free ∧ p.free < p.begin.length) : SoundPure Tryd.prog 54 [p.v, I more] (.ret (.own 1 ((startF p more).map I))) := by
  refine s36 hT9 1 (by simp) rfl ?_
  simp only [c36, Tryd.f54, gets]
  have e1 := F39_eq (l := p.begin) (by rintro e; rw [e] at hf; simp at hf; omega) (by have := hp.begin; omega)
  have g1 := eq_true hf.1
  have g2 := eq_true hf.2
  have g3 := getI (l := p.begin) (i := p.free.toNat) (by omega)
  have hl : (startF p more).length = p.begin.length := by simp [startF]
  have ht := take_of (startF p more) hl
  have hs : p.begin.set p.free.toNat (IntKind.i64.wrap (p.begin.getD p.free.toNat 0 + more)) = startF p more := rfl
  simp only [vmr, vmw, vmp, vza, ↓reduceIte, Nat.reduceBEq, Nat.reduceLT, Nat.reduceAdd, Nat.reduceEqDiff, reduceCtorEq, vmt, vzb, vzc, vlen, vleaf, velems, oks, vst, vmd, ty, Nat.reduceLeDiff, Nat.reduceMul, Nat.reduceSub, vzr, m36, e1, shI, g1, g2, g3, setI, hs, ht, hl]
noncomputable def F36 : List V → Option V := hF (α := Prot × Int) (fun a => [a.1.v, I a.2]) (fun a => a.1.ok ∧ 0 ≤ a.1.free ∧ a.1.free < a.1.begin.length) (fun a => .own 1 ((startF a.1 a.2).map I))
noncomputable abbrev T10 : List (FuncId × (List V → Option V)) := (54, F36) :: T9
theorem hT10 : SoundHand Tryd.prog (hand T10) := sound_cons (hF_sound fun a h => w36 a.1 a.2 h.1 h.2) hT9

end Go.Vi
set_option maxRecDepth 100000
set_option maxHeartbeats 4000000
namespace Go.Vi
open Go Go.Proofs

/-! ### tokens -/
theorem l34 {H n k out} (l : List Int) (hb : l.length ≤ 1000000) : ∀ r i n' s, l.drop i = r → r.length < n' → tget s.τ 0 = Is l → tget s.τ 1 = I l.length → tget s.τ 5 = I (i : Nat) →
    (r.any (outB 6) = true → out = some (.ret (.bool false))) → (r.any (outB 6) = false → ∀ s', Fin (M34 H n) [.tmp 4] (X (M34 H n) (.exit 0) k s') = out) →
    Fin (M34 H n) [.tmp 4] (L (M34 H n) (sub [1, 1, 0, 1, 0, 0] c34) n' k s) = out
  | [], i, n' + 1, s, hi, hn, h0, h1, h5, ho, hx => by
    have hc := inlt (drop_nil' hi)
    have := hx rfl
    rw [L_succ]
    simp only [vmr, vmw, vmp, vza, ↓reduceIte, Nat.reduceBEq, Nat.reduceLT, Nat.reduceAdd, Nat.reduceEqDiff, reduceCtorEq, vmt, vzb, vzc, vlen, vleaf, velems, oks, vst, vmd, ty, Nat.reduceLeDiff, Nat.reduceMul, Nat.reduceSub, c34, Tryd.f46, m34, h0, h1, h5, hc, this]
  | x :: r, i, n' + 1, s, hi, hn, h0, h1, h5, ho, hx => by
    obtain ⟨hg, hd, hlt⟩ := drop_cons hi
    have hc := ilt hlt
    have hw := wsucc hlt hb
    rw [L_succ]
    by_cases q1 : x < 0
    · have q1' := eq_true q1
      rw [ho (by simp [outB, q1])]
      simp only [vmr, vmw, vmp, vza, ↓reduceIte, Nat.reduceBEq, Nat.reduceLT, Nat.reduceAdd, Nat.reduceEqDiff, reduceCtorEq, vmt, vzb, vzc, vlen, vleaf, velems, oks, vst, vmd, ty, Nat.reduceLeDiff, Nat.reduceMul, Nat.reduceSub, vzr, c34, Tryd.f46, m34, h0, h1, h5, hc, hg, hw, q1']
    have q1' := eq_false q1
    by_cases q2 : x > 6
    · have q2' := eq_true q2
      rw [ho (by simp [outB, q2])]
      simp only [vmr, vmw, vmp, vza, ↓reduceIte, Nat.reduceBEq, Nat.reduceLT, Nat.reduceAdd, Nat.reduceEqDiff, reduceCtorEq, vmt, vzb, vzc, vlen, vleaf, velems, oks, vst, vmd, ty, Nat.reduceLeDiff, Nat.reduceMul, Nat.reduceSub, vzr, c34, Tryd.f46, m34, h0, h1, h5, hc, hg, hw, q1', q2']
    have q2' := eq_false q2
    have q3 : outB 6 x = false := by simp [outB, q1, q2]
    simp only [vmr, vmw, vmp, vza, ↓reduceIte, Nat.reduceBEq, Nat.reduceLT, Nat.reduceAdd, Nat.reduceEqDiff, reduceCtorEq, vmt, vzb, vzc, vlen, vleaf, velems, oks, vst, vmd, ty, Nat.reduceLeDiff, Nat.reduceMul, Nat.reduceSub, c34, Tryd.f46, m34, h0, h1, h5, hc, hg, hw, q1', q2']
    simp only [List.any_cons, q3, Bool.false_or] at ho hx
    have := fun s => @l34 H n k out l hb r (i+1) n' s hd (by simp at hn; omega)
    simp only [sub, c34, Tryd.f46, gets] at this
    refine this _ ?_ ?_ ?_ ho hx
    all_goals simp only [vmr, vmw, vmp, vza, ↓reduceIte, Nat.reduceBEq, Nat.reduceLT, Nat.reduceAdd, Nat.reduceEqDiff, reduceCtorEq, vmt, vzb, vzc, vlen, vleaf, velems, oks, vst, vmd, ty, Nat.reduceLeDiff, Nat.reduceMul, Nat.reduceSub, h0, h1, h5]
theorem w34 (l : List Int) (c : Int) (hb : l.length ≤ 1000000) : SoundPure Tryd.prog 46 [Is l, I c] (.ret (.bool (withinF l c 6))) := by
  refine s34 sound_nil (l.length + 1) (by simp) rfl ?_
  simp only [c34, Tryd.f46, gets]
  unfold withinF
  by_cases h : (l.length : Int) = c
  · subst h
    have h' : ((l.length : Int) != (l.length : Int)) = false := by simp
    have h'' : ((l.length : Int) == (l.length : Int)) = true := by simp
    simp only [vmr, vmw, vmp, vza, ↓reduceIte, Nat.reduceBEq, Nat.reduceLT, Nat.reduceAdd, Nat.reduceEqDiff, reduceCtorEq, vmt, vzb, vzc, vlen, vleaf, velems, oks, vst, vmd, ty, Nat.reduceLeDiff, Nat.reduceMul, Nat.reduceSub, m34, h', h'']
    have := fun k out => @l34 (hand []) (l.length + 1) k out l hb l 0 (l.length + 1)
    simp only [sub, c34, Tryd.f46, gets] at this
    refine this _ _ _ rfl (by omega) ?_ ?_ ?_ ?_ ?_
    case refine_4 => intro h; rw [h]; rfl
    case refine_5 => intro h s'; rw [h]; simp only [vmr, vmw, vmp, vza, ↓reduceIte, Nat.reduceBEq, Nat.reduceLT, Nat.reduceAdd, Nat.reduceEqDiff, reduceCtorEq, vmt, vzb, vzc, vlen, vleaf, velems, oks, vst, vmd, ty, Nat.reduceLeDiff, Nat.reduceMul, Nat.reduceSub, vzr, m34]
    all_goals simp only [vmr, vmw, vmp, vza, ↓reduceIte, Nat.reduceBEq, Nat.reduceLT, Nat.reduceAdd, Nat.reduceEqDiff, reduceCtorEq, vmt, vzb, vzc, vlen, vleaf, velems, oks, vst, vmd, ty, Nat.reduceLeDiff, Nat.reduceMul, Nat.reduceSub]
  · have h' : ((l.length : Int) != c) = true := by simp [h]
    have h'' : ((l.length : Int) == c) = false := by simp [h]
    simp only [vmr, vmw, vmp, vza, ↓reduceIte, Nat.reduceBEq, Nat.reduceLT, Nat.reduceAdd, Nat.reduceEqDiff, reduceCtorEq, vmt, vzb, vzc, vlen, vleaf, velems, oks, vst, vmd, ty, Nat.reduceLeDiff, Nat.reduceMul, Nat.reduceSub, vzr, m34, h', h'']
noncomputable def F34 : List V → Option V := hF (α := List Int × Int) (fun a => [Is a.1, I a.2]) (fun a => a.1.length ≤ 1000000) (fun a => .bool (withinF a.1 a.2 6))
theorem F34_eq {l : List Int} (c : Int) (hb : l.length ≤ 1000000) : F34 [Is l, I c] = some (.bool (withinF l c 6)) :=
  hF_eq (a := (l, c)) (two_inj (fun _ _ => Is_inj) (fun _ _ => I_inj)) (by simp only [cans, canIs, canI]) hb
noncomputable abbrev U1 : List (FuncId × (List V → Option V)) := (46, F34) :: T10
theorem hU1 : SoundHand Tryd.prog (hand U1) := sound_cons (hF_sound fun a h => w34 a.1 a.2 h) hT10

/-! ### state -/
end Go.Vi
set_option maxRecDepth 100000
set_option maxHeartbeats 4000000
namespace Go.Vi
open Go Go.Proofs

theorem l35 {T n k out v2} (rule : Rule) (cn : Int) (hb : rule.clear.length ≤ 1000000) : ∀ r i n' s, rule.clear.drop i = r → r.length < n' →
    tget s.τ 1 = I cn → tget s.τ 2 = .ptr ⟨0, 2, 0⟩ v2 0 0 → lget s.L (2, 0) = some (v2, .var rule.cs) → tget s.τ 5 = I (i : Nat) →
    (clrOk rule.clear cn r i = false → out = some (.ret (.bool false))) →
    (clrOk rule.clear cn r i = true → ∀ s', tget s'.τ 1 = I cn → tget s'.τ 2 = .ptr ⟨0, 2, 0⟩ v2 0 0 → lget s'.L (2, 0) = some (v2, .var rule.cs) → Fin (M35 (hand T) n) [.tmp 4] (X (M35 (hand T) n) (.exit 0) k s') = out) →
    Fin (M35 (hand T) n) [.tmp 4] (L (M35 (hand T) n) (sub [1, 1, 0, 1, 0, 0] c35) n' k s) = out
  | [], i, n' + 1, s, hi, hn, h1, h2, h2', hI, ho, hx => by
    have hc := inlt (drop_nil' hi)
    rw [L_succ]
    simp only [vmr, vmw, vmp, vza, ↓reduceIte, Nat.reduceBEq, Nat.reduceLT, Nat.reduceAdd, Nat.reduceEqDiff, reduceCtorEq, vmt, vzb, vzc, vlen, vleaf, velems, oks, vst, vmd, ty, Nat.reduceLeDiff, Nat.reduceMul, Nat.reduceSub, c35, Tryd.f47, m35, h2, h2', hI, hc]
    refine hx rfl _ ?_ ?_ ?_
    all_goals simp only [vmr, vmw, vmp, vza, ↓reduceIte, Nat.reduceBEq, Nat.reduceLT, Nat.reduceAdd, Nat.reduceEqDiff, reduceCtorEq, vmt, vzb, vzc, vlen, vleaf, velems, oks, vst, vmd, ty, Nat.reduceLeDiff, Nat.reduceMul, Nat.reduceSub, m35, h1, h2, h2']
  | x :: r, i, n' + 1, s, hi, hn, h1, h2, h2', hI, ho, hx => by
    obtain ⟨hg, hd, hlt⟩ := drop_cons hi
    have hc := ilt hlt
    have hw := wsucc hlt hb
    have hs := @d35_6 (hand T) n
    simp only [sub, c35, Tryd.f47, gets, opsAt] at hs
    have fail : (x < 0 ∨ x ≥ cn ∨ (0 < i ∧ x ≤ rule.clear.getD (i - 1) 0)) → out = some (.ret (.bool false)) := fun h => ho (by simp only [clrOk, if_pos h])
    have go : ∀ s, ¬ (x < 0 ∨ x ≥ cn ∨ (0 < i ∧ x ≤ rule.clear.getD (i - 1) 0)) → tget s.τ 1 = I cn → tget s.τ 2 = .ptr ⟨0, 2, 0⟩ v2 0 0 → lget s.L (2, 0) = some (v2, .var rule.cs) → tget s.τ 5 = I ((i + 1 : Nat) : Int) →
        Fin (M35 (hand T) n) [.tmp 4] (L (M35 (hand T) n) (sub [1, 1, 0, 1, 0, 0] c35) n' k s) = out := fun s hne g1 g2 g2' gI => by
      simp only [clrOk, if_neg hne] at ho hx
      exact @l35 T n k out v2 rule cn hb r (i+1) n' s hd (by simp at hn; omega) g1 g2 g2' gI ho hx
    simp only [sub, c35, Tryd.f47, gets] at go
    rw [L_succ]
    by_cases q1 : x < 0
    · have q1' := eq_true q1
      rw [fail (.inl q1)]
      simp only [vmr, vmw, vmp, vza, ↓reduceIte, Nat.reduceBEq, Nat.reduceLT, Nat.reduceAdd, Nat.reduceEqDiff, reduceCtorEq, vmt, vzb, vzc, vlen, vleaf, velems, oks, vst, vmd, ty, Nat.reduceLeDiff, Nat.reduceMul, Nat.reduceSub, vzr, c35, Tryd.f47, m35, h2, h2', hI, hc, hg, hs, q1']
    have q1' := eq_false q1
    by_cases q2 : x ≥ cn
    · have q2' := eq_true q2
      rw [fail (.inr (.inl q2))]
      simp only [vmr, vmw, vmp, vza, ↓reduceIte, Nat.reduceBEq, Nat.reduceLT, Nat.reduceAdd, Nat.reduceEqDiff, reduceCtorEq, vmt, vzb, vzc, vlen, vleaf, velems, oks, vst, vmd, ty, Nat.reduceLeDiff, Nat.reduceMul, Nat.reduceSub, vzr, c35, Tryd.f47, m35, h2, h2', hI, hc, hg, hs, q1', q2', h1]
    have q2' := eq_false q2
    by_cases q3 : 0 < i
    · have q3' : ((i:Int) > 0) = True := by simp; omega
      have hw1 : IntKind.i64.wrap ((i:Int) - 1) = ((i - 1 : Nat) : Int) := by rw [wrap_id] <;> omega
      have ho1 := getI (l := rule.clear) (i := i - 1) (by omega)
      by_cases q4 : x ≤ rule.clear.getD (i - 1) 0
      · have q4' : (rule.clear.getD (i - 1) 0 ≥ x) = True := eq_true q4
        rw [fail (.inr (.inr ⟨q3, q4⟩))]
        simp only [vmr, vmw, vmp, vza, ↓reduceIte, Nat.reduceBEq, Nat.reduceLT, Nat.reduceAdd, Nat.reduceEqDiff, reduceCtorEq, vmt, vzb, vzc, vlen, vleaf, velems, oks, vst, vmd, ty, Nat.reduceLeDiff, Nat.reduceMul, Nat.reduceSub, vzr, c35, Tryd.f47, m35, hI, hc, hg, hs, q1', q2', q3', q4', h1, h2, h2', hw1, ho1]
      · have q4' : (rule.clear.getD (i - 1) 0 ≥ x) = False := eq_false q4
        simp only [vmr, vmw, vmp, vza, ↓reduceIte, Nat.reduceBEq, Nat.reduceLT, Nat.reduceAdd, Nat.reduceEqDiff, reduceCtorEq, vmt, vzb, vzc, vlen, vleaf, velems, oks, vst, vmd, ty, Nat.reduceLeDiff, Nat.reduceMul, Nat.reduceSub, c35, Tryd.f47, m35, hI, hc, hg, hw, hs, q1', q2', q3', q4', h1, h2, h2', hw1, ho1]
        refine go _ (by rintro (h | h | h) <;> first | exact q1 h | exact q2 h | exact q4 h.2) ?_ ?_ ?_ ?_
        all_goals simp only [vmr, vmw, vmp, vza, ↓reduceIte, Nat.reduceBEq, Nat.reduceLT, Nat.reduceAdd, Nat.reduceEqDiff, reduceCtorEq, vmt, vzb, vzc, vlen, vleaf, velems, oks, vst, vmd, ty, Nat.reduceLeDiff, Nat.reduceMul, Nat.reduceSub, m35, h1, h2, h2', hI]
    · have q3' : ((i:Int) > 0) = False := by simp; omega
      simp only [vmr, vmw, vmp, vza, ↓reduceIte, Nat.reduceBEq, Nat.reduceLT, Nat.reduceAdd, Nat.reduceEqDiff, reduceCtorEq, vmt, vzb, vzc, vlen, vleaf, velems, oks, vst, vmd, ty, Nat.reduceLeDiff, Nat.reduceMul, Nat.reduceSub, c35, Tryd.f47, m35, hI, hc, hg, hw, hs, q1', q2', q3', h1, h2, h2']
      refine go _ (by rintro (h | h | h) <;> first | exact q1 h | exact q2 h | exact q3 h.1) ?_ ?_ ?_ ?_
      all_goals simp only [vmr, vmw, vmp, vza, ↓reduceIte, Nat.reduceBEq, Nat.reduceLT, Nat.reduceAdd, Nat.reduceEqDiff, reduceCtorEq, vmt, vzb, vzc, vlen, vleaf, velems, oks, vst, vmd, ty, Nat.reduceLeDiff, Nat.reduceMul, Nat.reduceSub, m35, h1, h2, h2', hI]
theorem w35 (r : Rule) (n : Int) (hr : r.ok) : SoundPure Tryd.prog 47 [r.v, I n] (.ret (.bool (rightF r n))) := by
  obtain ⟨b1, b2, b3⟩ := hr
  refine s35 hU1 (r.clear.length + 1) (by simp) rfl ?_
  simp only [c35, Tryd.f47, gets]
  have e1 := F34_eq (l := r.take) n (by omega)
  have e2 := F34_eq (l := r.give) n (by omega)
  unfold rightF
  cases g1 : withinF r.take n 6 with
  | false => simp only [vmr, vmw, vmp, vza, ↓reduceIte, Nat.reduceBEq, Nat.reduceLT, Nat.reduceAdd, Nat.reduceEqDiff, reduceCtorEq, vmt, vzb, vzc, vlen, vleaf, velems, oks, vst, vmd, ty, Nat.reduceLeDiff, Nat.reduceMul, Nat.reduceSub, vzr, m35, e1, g1]
  | true =>
    cases g2 : withinF r.give n 6 with
    | false => simp only [vmr, vmw, vmp, vza, ↓reduceIte, Nat.reduceBEq, Nat.reduceLT, Nat.reduceAdd, Nat.reduceEqDiff, reduceCtorEq, vmt, vzb, vzc, vlen, vleaf, velems, oks, vst, vmd, ty, Nat.reduceLeDiff, Nat.reduceMul, Nat.reduceSub, vzr, m35, e1, g1, e2, g2]
    | true =>
      have := fun k out => @l35 U1 (r.clear.length + 1) k out 0 r n (by omega) r.clear 0 (r.clear.length + 1)
      simp only [sub, c35, Tryd.f47, gets] at this
      simp only [vmr, vmw, vmp, vza, ↓reduceIte, Nat.reduceBEq, Nat.reduceLT, Nat.reduceAdd, Nat.reduceEqDiff, reduceCtorEq, vmt, vzb, vzc, vlen, vleaf, velems, oks, vst, vmd, ty, Nat.reduceLeDiff, Nat.reduceMul, Nat.reduceSub, m35, e1, g1, e2, g2]
      refine this _ _ _ rfl (by omega) ?_ ?_ ?_ ?_ ?_ ?_
      case refine_5 => intro h; rw [h]; simp
      case refine_6 =>
        intro h s' h1 h2 h2'
        rw [h]
        by_cases q1 : r.into = -1
        · have q1' : (r.into == -1) = true := by simp [q1]
          simp only [vmr, vmw, vmp, vza, ↓reduceIte, Nat.reduceBEq, Nat.reduceLT, Nat.reduceAdd, Nat.reduceEqDiff, reduceCtorEq, vmt, vzb, vzc, vlen, vleaf, velems, oks, vst, vmd, ty, Nat.reduceLeDiff, Nat.reduceMul, Nat.reduceSub, vzr, m35, h1, h2, h2', q1']
        have q1' : (r.into == -1) = false := by simp [q1]
        by_cases q2 : r.into ≥ 0
        · have q2' := eq_true q2
          by_cases q3 : r.into < n
          · have q3' := eq_true q3
            simp only [vmr, vmw, vmp, vza, ↓reduceIte, Nat.reduceBEq, Nat.reduceLT, Nat.reduceAdd, Nat.reduceEqDiff, reduceCtorEq, vmt, vzb, vzc, vlen, vleaf, velems, oks, vst, vmd, ty, Nat.reduceLeDiff, Nat.reduceMul, Nat.reduceSub, vzr, m35, h1, h2, h2', q1', q2', q3']
          · have q3' := eq_false q3
            simp only [vmr, vmw, vmp, vza, ↓reduceIte, Nat.reduceBEq, Nat.reduceLT, Nat.reduceAdd, Nat.reduceEqDiff, reduceCtorEq, vmt, vzb, vzc, vlen, vleaf, velems, oks, vst, vmd, ty, Nat.reduceLeDiff, Nat.reduceMul, Nat.reduceSub, vzr, m35, h1, h2, h2', q1', q2', q3']
        · have q2' := eq_false q2
          simp only [vmr, vmw, vmp, vza, ↓reduceIte, Nat.reduceBEq, Nat.reduceLT, Nat.reduceAdd, Nat.reduceEqDiff, reduceCtorEq, vmt, vzb, vzc, vlen, vleaf, velems, oks, vst, vmd, ty, Nat.reduceLeDiff, Nat.reduceMul, Nat.reduceSub, vzr, m35, h1, h2, h2', q1', q2']
      all_goals simp only [vmr, vmw, vmp, vza, ↓reduceIte, Nat.reduceBEq, Nat.reduceLT, Nat.reduceAdd, Nat.reduceEqDiff, reduceCtorEq, vmt, vzb, vzc, vlen, vleaf, velems, oks, vst, vmd, ty, Nat.reduceLeDiff, Nat.reduceMul, Nat.reduceSub, m35, Rule.cs]
end Go.Vi
