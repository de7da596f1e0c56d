/-
  Walks of slices.IndexFunc, ContainsFunc over strings; short, valid.
-/
import Derived.Test.YtpdeblfnbcponaaGreatDoorYD
set_option linter.unusedSimpArgs false
set_option linter.unusedVariables false
set_option maxRecDepth 100000
set_option maxHeartbeats 1000000
set_option exponentiation.threshold 256
namespace Go.Vi
open Go Go.Proofs

theorem fits9 (s : List UInt8) : fitsE Tryz.prog 9 (.str s) = true := by simp [fitsE, ty, leafV]
abbrev Ss (l : List (List UInt8)) : V := .lst (l.map V.str)
def F82P (H : FuncId → Option (List V → Option V)) (n : Nat) (v : V) (r : Option (Ex × St)) : Prop := Fin (M82 H n) [.tmp 4] r = some (.ret v)
theorem l82 {T n k q} {F : List V → Option V} (p : List UInt8 → Bool) (hq : hand T q = some F) (hok : okL.contains q = true) (l : List (List UInt8)) (hb : l.length ≤ 1000000) (hp : ∀ x ∈ l, F [.str x] = some (.bool (p x))) : ∀ r i n' s, l.drop i = r → r.length < n' → tget s.τ 0 = Ss l → tget s.τ 1 = .fn (.func q) [] [] → tget s.τ 7 = I l.length → tget s.τ 8 = I (i : Nat) →
    (∀ s', F82P (hand T) n (I (-1)) (X (M82 (hand T) n) (.exit 0) k s')) →
    F82P (hand T) n (I (idxF p r i)) (L (M82 (hand T) n) (sub [1, 0, 1, 0, 0] c82) n' k s)
  | [], i, n' + 1, s, hi, hn, h0, h1, h7, h8, hx => by
    have hc := inlt (drop_nil' hi)
    rw [L_succ]
    simp only [vmr, vmw, vmp, vza, ↓reduceIte, Nat.reduceBEq, Nat.reduceLT, Nat.reduceAdd, Nat.reduceEqDiff, reduceCtorEq, vmt, vzb, vzc, vlen, vleaf, velems, oks, vst, vmd, ty, Nat.reduceLeDiff, Nat.reduceMul, Nat.reduceSub, c82, Tryz.f43, m82, h0, h1, h7, h8, hc]
    exact hx _
  | x :: r, i, n' + 1, s, hi, hn, h0, h1, h7, h8, hx => by
    obtain ⟨hg, hd, hlt⟩ := drop_cons hi
    have hc := ilt hlt
    have hw := wsucc hlt hb
    have hgm : (l.map V.str)[i]? = some (.str x) := by simp [hg]
    have hpx := hp x (List.mem_of_getElem? hg)
    have ih := fun s => @l82 T n k q F p hq hok l hb hp r (i+1) n' s hd (by simp at hn; omega)
    simp only [sub, c82, Tryz.f43, gets] at ih
    rw [L_succ]
    cases hpp : p x with
    | true =>
      rw [hpp] at hpx
      simp only [idxF, hpp, if_true]
      simp only [vmr, vmw, vmp, vza, ↓reduceIte, Nat.reduceBEq, Nat.reduceLT, Nat.reduceAdd, Nat.reduceEqDiff, reduceCtorEq, vmt, vzb, vzc, vlen, vleaf, velems, oks, vst, vmd, ty, Nat.reduceLeDiff, Nat.reduceMul, Nat.reduceSub, c82, Tryz.f43, m82, h0, h1, h7, h8, hc, hgm, hw, hq, hok, hpx, fits9]
      unfold F82P
      simp only [vmr, vmw, vmp, vza, ↓reduceIte, Nat.reduceBEq, Nat.reduceLT, Nat.reduceAdd, Nat.reduceEqDiff, reduceCtorEq, vmt, vzb, vzc, vlen, vleaf, velems, oks, vst, vmd, ty, Nat.reduceLeDiff, Nat.reduceMul, Nat.reduceSub, vzr, m82]
    | false =>
      rw [hpp] at hpx
      simp only [idxF, hpp, Bool.false_eq_true, if_false]
      simp only [vmr, vmw, vmp, vza, ↓reduceIte, Nat.reduceBEq, Nat.reduceLT, Nat.reduceAdd, Nat.reduceEqDiff, reduceCtorEq, vmt, vzb, vzc, vlen, vleaf, velems, oks, vst, vmd, ty, Nat.reduceLeDiff, Nat.reduceMul, Nat.reduceSub, c82, Tryz.f43, m82, h0, h1, h7, h8, hc, hgm, hw, hq, hok, hpx, fits9]
      refine ih _ ?_ ?_ ?_ ?_ hx
      all_goals simp only [vmr, vmw, vmp, vza, ↓reduceIte, Nat.reduceBEq, Nat.reduceLT, Nat.reduceAdd, Nat.reduceEqDiff, reduceCtorEq, vmt, vzb, vzc, vlen, vleaf, velems, oks, vst, vmd, ty, Nat.reduceLeDiff, Nat.reduceMul, Nat.reduceSub, m82, h0, h1, h7, h8]
theorem w82 {T} (hH : SoundHand Tryz.prog (hand T)) {q} {F : List V → Option V} (p : List UInt8 → Bool) (hq : hand T q = some F) (hok : okL.contains q = true) (l : List (List UInt8)) (hb : l.length ≤ 1000000) (hp : ∀ x ∈ l, F [.str x] = some (.bool (p x))) :
    SoundPure Tryz.prog 43 [Ss l, .fn (.func q) [] []] (.ret (I (idxF p l 0))) := by
  refine s82 hH (l.length + 1) (by simp) rfl ?_
  show F82P _ _ _ _
  have := fun k s => @l82 T (l.length + 1) k q F p hq hok l hb hp l 0 (l.length + 1) s rfl (by omega)
  simp only [sub, c82, Tryz.f43, gets] at this ⊢
  simp only [vmr, vmw, vmp, vza, ↓reduceIte, Nat.reduceBEq, Nat.reduceLT, Nat.reduceAdd, Nat.reduceEqDiff, reduceCtorEq, vmt, vzb, vzc, vlen, vleaf, velems, oks, vst, vmd, ty, Nat.reduceLeDiff, Nat.reduceMul, Nat.reduceSub, m82]
  refine this _ _ ?_ ?_ ?_ ?_ (fun s' => ?_)
  case refine_5 => simp only [vmr, vmw, vmp, vza, ↓reduceIte, Nat.reduceBEq, Nat.reduceLT, Nat.reduceAdd, Nat.reduceEqDiff, reduceCtorEq, vmt, vzb, vzc, vlen, vleaf, velems, oks, vst, vmd, ty, Nat.reduceLeDiff, Nat.reduceMul, Nat.reduceSub, m82]; unfold F82P; simp only [vmr, vmw, vmp, vza, ↓reduceIte, Nat.reduceBEq, Nat.reduceLT, Nat.reduceAdd, Nat.reduceEqDiff, reduceCtorEq, vmt, vzb, vzc, vlen, vleaf, velems, oks, vst, vmd, ty, Nat.reduceLeDiff, Nat.reduceMul, Nat.reduceSub, vzr, m82]
  all_goals simp only [vmr, vmw, vmp, vza, ↓reduceIte, Nat.reduceBEq, Nat.reduceLT, Nat.reduceAdd, Nat.reduceEqDiff, reduceCtorEq, vmt, vzb, vzc, vlen, vleaf, velems, oks, vst, vmd, ty, Nat.reduceLeDiff, Nat.reduceMul, Nat.reduceSub, m82]
theorem Ss_inj {a b : List (List UInt8)} (h : Ss a = Ss b) : a = b := by
  injection h with h
  have : ∀ a b : List (List UInt8), a.map V.str = b.map V.str → a = b := by
    intro a
    induction a with
    | nil => intro b h; cases b with | nil => rfl | cons _ _ => cases h
    | cons x r ih =>
      intro b h
      cases b with
      | nil => cases h
      | cons y q =>
        simp only [List.map_cons] at h
        injection h with h1 h2
        rw [Str_inj h1, ih q h2]
  exact this a b h
theorem canSs (l : List (List UInt8)) : can (Ss l) = Ss l := by
  show V.lst (cans _) = _
  congr 1
  induction l with
  | nil => rfl
  | cons x r ih => simp only [List.map_cons, cans, canStr, ih]
theorem cansS (l : List (List UInt8)) : cans (l.map V.str) = l.map V.str := by
  induction l with
  | nil => rfl
  | cons x r ih => simp only [List.map_cons, cans, canStr, ih]
theorem fn_inj {q : FuncId} : ∀ a b : List (List UInt8), ([Ss a, .fn (.func q) [] []] : List V) = [Ss b, .fn (.func q) [] []] → a = b := fun a b h => by
  injection h with h _
  exact Ss_inj h
theorem w41 (s : List UInt8) : SoundPure Tryz.prog 16 [.str s] (.ret (.bool (decide (s.length > 600)))) := by
  refine s41 (H := []) sound_nil 3 (by simp) rfl ?_
  simp only [c41, Tryz.f16, gets]
  by_cases h : s.length > 600
  · have c : ((s.length : Int) > 600) = True := eq_true (by omega)
    rw [decide_eq_true h]
    simp only [vmr, vmw, vmp, vza, ↓reduceIte, Nat.reduceBEq, Nat.reduceLT, Nat.reduceAdd, Nat.reduceEqDiff, reduceCtorEq, vmt, vzb, vzc, vlen, vleaf, velems, oks, vst, vmd, ty, Nat.reduceLeDiff, Nat.reduceMul, Nat.reduceSub, vzr, m41, c]
  · have c : ((s.length : Int) > 600) = False := eq_false (by omega)
    rw [decide_eq_false h]
    simp only [vmr, vmw, vmp, vza, ↓reduceIte, Nat.reduceBEq, Nat.reduceLT, Nat.reduceAdd, Nat.reduceEqDiff, reduceCtorEq, vmt, vzb, vzc, vlen, vleaf, velems, oks, vst, vmd, ty, Nat.reduceLeDiff, Nat.reduceMul, Nat.reduceSub, vzr, m41, c]
noncomputable def F41 : List V → Option V := hF (α := List UInt8) (fun a => [.str a]) (fun _ => True) (fun a => .bool (decide (a.length > 600)))
theorem F41_eq (s : List UInt8) : F41 [.str s] = some (.bool (decide (s.length > 600))) := hF_eq (a := s) (one_inj' fun _ _ => Str_inj) (by simp only [cans, canStr]) trivial
noncomputable abbrev T82a : List (FuncId × (List V → Option V)) := (16, F41) :: []
theorem hT82a : SoundHand Tryz.prog (hand T82a) := sound_cons (hF_sound fun a _ => w41 a) sound_nil
noncomputable def F82a : List V → Option V := hF (α := List (List UInt8)) (fun a => [Ss a, .fn (.func 16) [] []]) (fun a => a.length ≤ 1000000) (fun a => I (idxF (fun s => decide (s.length > 600)) a 0))
theorem F82a_eq {l : List (List UInt8)} (h : l.length ≤ 1000000) : F82a [Ss l, .fn (.func 16) [] []] = some (I (idxF (fun s => decide (s.length > 600)) l 0)) := hF_eq (a := l) fn_inj (by simp only [cans, can, cansS]) h
noncomputable abbrev T40a : List (FuncId × (List V → Option V)) := (43, F82a) :: []
theorem hT40a : SoundHand Tryz.prog (hand T40a) := sound_cons (hF_sound fun a h => w82 hT82a _ (q := 16) (F := F41) rfl rfl a h fun x _ => F41_eq x) sound_nil
theorem w40a (l : List (List UInt8)) (h : l.length ≤ 1000000) : SoundPure Tryz.prog 15 [Ss l, .fn (.func 16) [] []] (.ret (.bool (l.any (fun s => decide (s.length > 600))))) := by
  refine s40 hT40a 3 (by simp) rfl ?_
  have e := F82a_eq h
  simp only [c40, Tryz.f15, gets]
  simp only [vmr, vmw, vmp, vza, ↓reduceIte, Nat.reduceBEq, Nat.reduceLT, Nat.reduceAdd, Nat.reduceEqDiff, reduceCtorEq, vmt, vzb, vzc, vlen, vleaf, velems, oks, vst, vmd, ty, Nat.reduceLeDiff, Nat.reduceMul, Nat.reduceSub, vzr, m40, e, ← idx_any]
noncomputable def F40a : List V → Option V := hF (α := List (List UInt8)) (fun a => [Ss a, .fn (.func 16) [] []]) (fun a => a.length ≤ 1000000) (fun a => .bool (a.any (fun s => decide (s.length > 600))))
theorem F40a_eq {l : List (List UInt8)} (h : l.length ≤ 1000000) : F40a [Ss l, .fn (.func 16) [] []] = some (.bool (l.any (fun s => decide (s.length > 600)))) := hF_eq (a := l) fn_inj (by simp only [cans, can, cansS]) h
noncomputable abbrev T9a : List (FuncId × (List V → Option V)) := (15, F40a) :: []
theorem hT9a : SoundHand Tryz.prog (hand T9a) := sound_cons (hF_sound fun a h => w40a a h) sound_nil
theorem w9 (l : List (List UInt8)) (h : l.length ≤ 1000000) : SoundPure Tryz.prog 4 [Ss l] (.ret (.bool (!l.any (fun s => decide (s.length > 600))))) := by
  refine s9 hT9a 3 (by simp) rfl ?_
  have e := F40a_eq h
  simp only [c9, Tryz.f4, gets]
  simp only [vmr, vmw, vmp, vza, ↓reduceIte, Nat.reduceBEq, Nat.reduceLT, Nat.reduceAdd, Nat.reduceEqDiff, reduceCtorEq, vmt, vzb, vzc, vlen, vleaf, velems, oks, vst, vmd, ty, Nat.reduceLeDiff, Nat.reduceMul, Nat.reduceSub, vzr, m9, e]
noncomputable def F9 : List V → Option V := hF (α := List (List UInt8)) (fun a => [Ss a]) (fun a => a.length ≤ 1000000) (fun a => .bool (!a.any (fun s => decide (s.length > 600))))
theorem F9_eq {l : List (List UInt8)} (h : l.length ≤ 1000000) : F9 [Ss l] = some (.bool (!l.any (fun s => decide (s.length > 600)))) := hF_eq (a := l) (one_inj' fun _ _ => Ss_inj) (by simp only [cans, canSs]) h
/-! ### awake -/
noncomputable abbrev T10 : List (FuncId × (List V → Option V)) := (17, F13) :: (18, F17) :: (19, F30) :: []
theorem hT10 : SoundHand Tryz.prog (hand T10) := sound_cons (hF_sound fun a _ => w13 a.1 a.2) <| sound_cons (hF_sound fun a h => w17 a.1 a.2 h) <| sound_cons (hF_sound fun a _ => w30 a) sound_nil
theorem div72 : divO [45, 55] [50] = .tup [.str [45, 51], .str [45, 49], I 0] := by kernel_rfl
theorem pow210 : powS [45, 50] 10 = .tup [.str [49, 48, 50, 52], I 0] := by kernel_rfl
theorem val0 : validB [45, 48] = false := rfl
theorem w10 : SoundPure Tryz.prog 5 [] (.ret (.bool true)) := by
  refine s10 hT10 3 (by simp) rfl ?_
  have e13 := F13_eq [45, 55] [50]
  have e17 := F17_eq (a := [45, 50]) (e := 10) (by omega)
  have e30 := F30_eq [45, 48]
  rw [div72] at e13
  rw [pow210] at e17
  rw [val0] at e30
  have b1 : (([45, 51] : List UInt8) == [45, 51]) = true := rfl
  have b2 : (([45, 49] : List UInt8) == [45, 49]) = true := rfl
  have b3 : (([49, 48, 50, 52] : List UInt8) == [49, 48, 50, 52]) = true := rfl
  simp only [c10, Tryz.f5, gets]
  simp only [vmr, vmw, vmp, vza, ↓reduceIte, Nat.reduceBEq, Nat.reduceLT, Nat.reduceAdd, Nat.reduceEqDiff, reduceCtorEq, vmt, vzb, vzc, vlen, vleaf, velems, oks, vst, vmd, ty, Nat.reduceLeDiff, Nat.reduceMul, Nat.reduceSub, vzr, m10, e13, e17, e30, strOp, b1, b2, b3, Int.reduceBEq]
noncomputable def F10 : List V → Option V := fun args => if args = [] then some (.bool true) else none
theorem F10_eq : F10 [] = some (.bool true) := if_pos rfl
theorem F10_sound : ∀ args v, F10 args = some v → SoundPure Tryz.prog 5 args (.ret v) := by
  intro args v h
  unfold F10 at h
  split at h
  · rename_i e
    subst e
    injection h with h
    subst h
    exact w10
  · cases h
end Go.Vi
set_option maxRecDepth 100000
set_option maxHeartbeats 1000000
set_option exponentiation.threshold 256
namespace Go.Vi
open Go Go.Proofs

theorem room9 {n : Nat} (h : n ≤ 10000000) : roomOk Tryz.prog 9 n = true := by
  simp [roomOk, ty, cellsV, leafV]; omega
end Go.Vi
