/-
  Walks of slices.IndexFunc, ContainsFunc over strings; short, valid.
-/
import Derived.Test.YtpdeblfnbcponaaDoorYD
set_option linter.unusedSimpArgs false
set_option linter.unusedVariables false
set_option maxRecDepth 100000
set_option maxHeartbeats 1000000
set_option exponentiation.threshold 256
namespace Go.Vi
open Go Go.Proofs

theorem fits9 (s : List UInt8) : fitsE Tryd.prog 9 (.str s) = true := by simp [fitsE, ty, leafV]
abbrev Ss (l : List (List UInt8)) : V := .lst (l.map V.str)
def F82P (H : FuncId → Option (List V → Option V)) (n : Nat) (v : V) (r : Option (Ex × St)) : Prop := Fin (M82 H n) [.tmp 4] r = some (.ret v)
theorem l82 {T n k q} {F : List V → Option V} (p : List UInt8 → Bool) (hq : hand T q = some F) (hok : okL.contains q = true) (l : List (List UInt8)) (hb : l.length ≤ 1000000) (hp : ∀ x ∈ l, F [.str x] = some (.bool (p x))) : ∀ r i n' s, l.drop i = r → r.length < n' → tget s.τ 0 = Ss l → tget s.τ 1 = .fn (.func q) [] [] → tget s.τ 7 = I l.length → tget s.τ 8 = I (i : Nat) →
    (∀ s', F82P (hand T) n (I (-1)) (X (M82 (hand T) n) (.exit 0) k s')) →
    F82P (hand T) n (I (idxF p r i)) (L (M82 (hand T) n) (sub [1, 0, 1, 0, 0] c82) n' k s)
  | [], i, n' + 1, s, hi, hn, h0, h1, h7, h8, hx => by
    have hc := inlt (drop_nil' hi)
    rw [L_succ]
    simp only [vmr, vmw, vmp, vza, ↓reduceIte, Nat.reduceBEq, Nat.reduceLT, Nat.reduceAdd, Nat.reduceEqDiff, reduceCtorEq, vmt, vzb, vzc, vlen, vleaf, velems, oks, vst, vmd, ty, Nat.reduceLeDiff, Nat.reduceMul, Nat.reduceSub, c82, Tryd.f82, m82, h0, h1, h7, h8, hc]
    exact hx _
  | x :: r, i, n' + 1, s, hi, hn, h0, h1, h7, h8, hx => by
    obtain ⟨hg, hd, hlt⟩ := drop_cons hi
    have hc := ilt hlt
    have hw := wsucc hlt hb
    have hgm : (l.map V.str)[i]? = some (.str x) := by simp [hg]
    have hpx := hp x (List.mem_of_getElem? hg)
    have ih := fun s => @l82 T n k q F p hq hok l hb hp r (i+1) n' s hd (by simp at hn; omega)
    simp only [sub, c82, Tryd.f82, gets] at ih
    rw [L_succ]
    cases hpp : p x with
    | true =>
      rw [hpp] at hpx
      simp only [idxF, hpp, if_true]
      simp only [vmr, vmw, vmp, vza, ↓reduceIte, Nat.reduceBEq, Nat.reduceLT, Nat.reduceAdd, Nat.reduceEqDiff, reduceCtorEq, vmt, vzb, vzc, vlen, vleaf, velems, oks, vst, vmd, ty, Nat.reduceLeDiff, Nat.reduceMul, Nat.reduceSub, c82, Tryd.f82, m82, h0, h1, h7, h8, hc, hgm, hw, hq, hok, hpx, fits9]
      unfold F82P
      simp only [vmr, vmw, vmp, vza, ↓reduceIte, Nat.reduceBEq, Nat.reduceLT, Nat.reduceAdd, Nat.reduceEqDiff, reduceCtorEq, vmt, vzb, vzc, vlen, vleaf, velems, oks, vst, vmd, ty, Nat.reduceLeDiff, Nat.reduceMul, Nat.reduceSub, vzr, m82]
    | false =>
      rw [hpp] at hpx
      simp only [idxF, hpp, Bool.false_eq_true, if_false]
      simp only [vmr, vmw, vmp, vza, ↓reduceIte, Nat.reduceBEq, Nat.reduceLT, Nat.reduceAdd, Nat.reduceEqDiff, reduceCtorEq, vmt, vzb, vzc, vlen, vleaf, velems, oks, vst, vmd, ty, Nat.reduceLeDiff, Nat.reduceMul, Nat.reduceSub, c82, Tryd.f82, m82, h0, h1, h7, h8, hc, hgm, hw, hq, hok, hpx, fits9]
      refine ih _ ?_ ?_ ?_ ?_ hx
      all_goals simp only [vmr, vmw, vmp, vza, ↓reduceIte, Nat.reduceBEq, Nat.reduceLT, Nat.reduceAdd, Nat.reduceEqDiff, reduceCtorEq, vmt, vzb, vzc, vlen, vleaf, velems, oks, vst, vmd, ty, Nat.reduceLeDiff, Nat.reduceMul, Nat.reduceSub, m82, h0, h1, h7, h8]
theorem w82 {T} (hH : SoundHand Tryd.prog (hand T)) {q} {F : List V → Option V} (p : List UInt8 → Bool) (hq : hand T q = some F) (hok : okL.contains q = true) (l : List (List UInt8)) (hb : l.length ≤ 1000000) (hp : ∀ x ∈ l, F [.str x] = some (.bool (p x))) :
    SoundPure Tryd.prog 82 [Ss l, .fn (.func q) [] []] (.ret (I (idxF p l 0))) := by
  refine s82 hH (l.length + 1) (by simp) rfl ?_
  show F82P _ _ _ _
  have := fun k s => @l82 T (l.length + 1) k q F p hq hok l hb hp l 0 (l.length + 1) s rfl (by omega)
  simp only [sub, c82, Tryd.f82, gets] at this ⊢
  simp only [vmr, vmw, vmp, vza, ↓reduceIte, Nat.reduceBEq, Nat.reduceLT, Nat.reduceAdd, Nat.reduceEqDiff, reduceCtorEq, vmt, vzb, vzc, vlen, vleaf, velems, oks, vst, vmd, ty, Nat.reduceLeDiff, Nat.reduceMul, Nat.reduceSub, m82]
  refine this _ _ ?_ ?_ ?_ ?_ (fun s' => ?_)
  case refine_5 => simp only [vmr, vmw, vmp, vza, ↓reduceIte, Nat.reduceBEq, Nat.reduceLT, Nat.reduceAdd, Nat.reduceEqDiff, reduceCtorEq, vmt, vzb, vzc, vlen, vleaf, velems, oks, vst, vmd, ty, Nat.reduceLeDiff, Nat.reduceMul, Nat.reduceSub, m82]; unfold F82P; simp only [vmr, vmw, vmp, vza, ↓reduceIte, Nat.reduceBEq, Nat.reduceLT, Nat.reduceAdd, Nat.reduceEqDiff, reduceCtorEq, vmt, vzb, vzc, vlen, vleaf, velems, oks, vst, vmd, ty, Nat.reduceLeDiff, Nat.reduceMul, Nat.reduceSub, vzr, m82]
  all_goals simp only [vmr, vmw, vmp, vza, ↓reduceIte, Nat.reduceBEq, Nat.reduceLT, Nat.reduceAdd, Nat.reduceEqDiff, reduceCtorEq, vmt, vzb, vzc, vlen, vleaf, velems, oks, vst, vmd, ty, Nat.reduceLeDiff, Nat.reduceMul, Nat.reduceSub, m82]
theorem Ss_inj {a b : List (List UInt8)} (h : Ss a = Ss b) : a = b := by
  injection h with h
  have : ∀ a b : List (List UInt8), a.map V.str = b.map V.str → a = b := by
    intro a
    induction a with
    | nil => intro b h; cases b with | nil => rfl | cons _ _ => cases h
    | cons x r ih =>
      intro b h
      cases b with
      | nil => cases h
      | cons y q =>
        simp only [List.map_cons] at h
        injection h with h1 h2
        rw [Str_inj h1, ih q h2]
  exact this a b h
theorem canSs (l : List (List UInt8)) : can (Ss l) = Ss l := by
  show V.lst (cans _) = _
  congr 1
  induction l with
  | nil => rfl
  | cons x r ih => simp only [List.map_cons, cans, canStr, ih]
theorem cansS (l : List (List UInt8)) : cans (l.map V.str) = l.map V.str := by
  induction l with
  | nil => rfl
  | cons x r ih => simp only [List.map_cons, cans, canStr, ih]
theorem fn_inj {q : FuncId} : ∀ a b : List (List UInt8), ([Ss a, .fn (.func q) [] []] : List V) = [Ss b, .fn (.func q) [] []] → a = b := fun a b h => by
  injection h with h _
  exact Ss_inj h
theorem w41 (s : List UInt8) : SoundPure Tryd.prog 41 [.str s] (.ret (.bool (decide (s.length > 600)))) := by
  refine s41 (H := []) sound_nil 3 (by simp) rfl ?_
  simp only [c41, Tryd.f41, gets]
  by_cases h : s.length > 600
  · have c : ((s.length : Int) > 600) = True := eq_true (by omega)
    rw [decide_eq_true h]
    simp only [vmr, vmw, vmp, vza, ↓reduceIte, Nat.reduceBEq, Nat.reduceLT, Nat.reduceAdd, Nat.reduceEqDiff, reduceCtorEq, vmt, vzb, vzc, vlen, vleaf, velems, oks, vst, vmd, ty, Nat.reduceLeDiff, Nat.reduceMul, Nat.reduceSub, vzr, m41, c]
  · have c : ((s.length : Int) > 600) = False := eq_false (by omega)
    rw [decide_eq_false h]
    simp only [vmr, vmw, vmp, vza, ↓reduceIte, Nat.reduceBEq, Nat.reduceLT, Nat.reduceAdd, Nat.reduceEqDiff, reduceCtorEq, vmt, vzb, vzc, vlen, vleaf, velems, oks, vst, vmd, ty, Nat.reduceLeDiff, Nat.reduceMul, Nat.reduceSub, vzr, m41, c]
noncomputable def F41 : List V → Option V := hF (α := List UInt8) (fun a => [.str a]) (fun _ => True) (fun a => .bool (decide (a.length > 600)))
theorem F41_eq (s : List UInt8) : F41 [.str s] = some (.bool (decide (s.length > 600))) := hF_eq (a := s) (one_inj' fun _ _ => Str_inj) (by simp only [cans, canStr]) trivial
def longB (s : List UInt8) : Bool := decide (s.length > 100) || !validB s
noncomputable abbrev T65 : List (FuncId × (List V → Option V)) := (30, F30) :: []
theorem hT65 : SoundHand Tryd.prog (hand T65) := sound_cons (hF_sound fun a _ => w30 a) sound_nil
theorem w65 (s : List UInt8) : SoundPure Tryd.prog 65 [.str s] (.ret (.bool (longB s))) := by
  refine s65 hT65 3 (by simp) rfl ?_
  have e30 := F30_eq s
  unfold longB
  simp only [c65, Tryd.f65, gets]
  by_cases h : s.length > 100
  · have c : ((s.length : Int) > 100) = True := eq_true (by omega)
    rw [decide_eq_true h]
    simp only [vmr, vmw, vmp, vza, ↓reduceIte, Nat.reduceBEq, Nat.reduceLT, Nat.reduceAdd, Nat.reduceEqDiff, reduceCtorEq, vmt, vzb, vzc, vlen, vleaf, velems, oks, vst, vmd, ty, Nat.reduceLeDiff, Nat.reduceMul, Nat.reduceSub, vzr, m65, c]
  · have c : ((s.length : Int) > 100) = False := eq_false (by omega)
    rw [decide_eq_false h]
    cases hv : validB s with
    | true => rw [hv] at e30; simp only [vmr, vmw, vmp, vza, ↓reduceIte, Nat.reduceBEq, Nat.reduceLT, Nat.reduceAdd, Nat.reduceEqDiff, reduceCtorEq, vmt, vzb, vzc, vlen, vleaf, velems, oks, vst, vmd, ty, Nat.reduceLeDiff, Nat.reduceMul, Nat.reduceSub, vzr, m65, c, e30]
    | false => rw [hv] at e30; simp only [vmr, vmw, vmp, vza, ↓reduceIte, Nat.reduceBEq, Nat.reduceLT, Nat.reduceAdd, Nat.reduceEqDiff, reduceCtorEq, vmt, vzb, vzc, vlen, vleaf, velems, oks, vst, vmd, ty, Nat.reduceLeDiff, Nat.reduceMul, Nat.reduceSub, vzr, m65, c, e30]
noncomputable def F65 : List V → Option V := hF (α := List UInt8) (fun a => [.str a]) (fun _ => True) (fun a => .bool (longB a))
theorem F65_eq (s : List UInt8) : F65 [.str s] = some (.bool (longB s)) := hF_eq (a := s) (one_inj' fun _ _ => Str_inj) (by simp only [cans, canStr]) trivial
noncomputable abbrev T82a : List (FuncId × (List V → Option V)) := (41, F41) :: (65, F65) :: []
theorem hT82a : SoundHand Tryd.prog (hand T82a) := sound_cons (hF_sound fun a _ => w41 a) <| sound_cons (hF_sound fun a _ => w65 a) sound_nil
noncomputable def F82a : List V → Option V := hF (α := List (List UInt8)) (fun a => [Ss a, .fn (.func 41) [] []]) (fun a => a.length ≤ 1000000) (fun a => I (idxF (fun s => decide (s.length > 600)) a 0))
theorem F82a_eq {l : List (List UInt8)} (h : l.length ≤ 1000000) : F82a [Ss l, .fn (.func 41) [] []] = some (I (idxF (fun s => decide (s.length > 600)) l 0)) := hF_eq (a := l) fn_inj (by simp only [cans, can, cansS]) h
noncomputable abbrev T40a : List (FuncId × (List V → Option V)) := (82, F82a) :: []
theorem hT40a : SoundHand Tryd.prog (hand T40a) := sound_cons (hF_sound fun a h => w82 hT82a _ (q := 41) (F := F41) rfl rfl a h fun x _ => F41_eq x) sound_nil
theorem w40a (l : List (List UInt8)) (h : l.length ≤ 1000000) : SoundPure Tryd.prog 40 [Ss l, .fn (.func 41) [] []] (.ret (.bool (l.any (fun s => decide (s.length > 600))))) := by
  refine s40 hT40a 3 (by simp) rfl ?_
  have e := F82a_eq h
  simp only [c40, Tryd.f40, gets]
  simp only [vmr, vmw, vmp, vza, ↓reduceIte, Nat.reduceBEq, Nat.reduceLT, Nat.reduceAdd, Nat.reduceEqDiff, reduceCtorEq, vmt, vzb, vzc, vlen, vleaf, velems, oks, vst, vmd, ty, Nat.reduceLeDiff, Nat.reduceMul, Nat.reduceSub, vzr, m40, e, ← idx_any]
noncomputable def F40a : List V → Option V := hF (α := List (List UInt8)) (fun a => [Ss a, .fn (.func 41) [] []]) (fun a => a.length ≤ 1000000) (fun a => .bool (a.any (fun s => decide (s.length > 600))))
theorem F40a_eq {l : List (List UInt8)} (h : l.length ≤ 1000000) : F40a [Ss l, .fn (.func 41) [] []] = some (.bool (l.any (fun s => decide (s.length > 600)))) := hF_eq (a := l) fn_inj (by simp only [cans, can, cansS]) h
noncomputable abbrev T9a : List (FuncId × (List V → Option V)) := (40, F40a) :: []
theorem hT9a : SoundHand Tryd.prog (hand T9a) := sound_cons (hF_sound fun a h => w40a a h) sound_nil
noncomputable def F82b : List V → Option V := hF (α := List (List UInt8)) (fun a => [Ss a, .fn (.func 65) [] []]) (fun a => a.length ≤ 1000000) (fun a => I (idxF (longB) a 0))
theorem F82b_eq {l : List (List UInt8)} (h : l.length ≤ 1000000) : F82b [Ss l, .fn (.func 65) [] []] = some (I (idxF (longB) l 0)) := hF_eq (a := l) fn_inj (by simp only [cans, can, cansS]) h
noncomputable abbrev T40b : List (FuncId × (List V → Option V)) := (82, F82b) :: []
theorem hT40b : SoundHand Tryd.prog (hand T40b) := sound_cons (hF_sound fun a h => w82 hT82a _ (q := 65) (F := F65) rfl rfl a h fun x _ => F65_eq x) sound_nil
theorem w40b (l : List (List UInt8)) (h : l.length ≤ 1000000) : SoundPure Tryd.prog 40 [Ss l, .fn (.func 65) [] []] (.ret (.bool (l.any (longB)))) := by
  refine s40 hT40b 3 (by simp) rfl ?_
  have e := F82b_eq h
  simp only [c40, Tryd.f40, gets]
  simp only [vmr, vmw, vmp, vza, ↓reduceIte, Nat.reduceBEq, Nat.reduceLT, Nat.reduceAdd, Nat.reduceEqDiff, reduceCtorEq, vmt, vzb, vzc, vlen, vleaf, velems, oks, vst, vmd, ty, Nat.reduceLeDiff, Nat.reduceMul, Nat.reduceSub, vzr, m40, e, ← idx_any]
noncomputable def F40b : List V → Option V := hF (α := List (List UInt8)) (fun a => [Ss a, .fn (.func 65) [] []]) (fun a => a.length ≤ 1000000) (fun a => .bool (a.any (longB)))
theorem F40b_eq {l : List (List UInt8)} (h : l.length ≤ 1000000) : F40b [Ss l, .fn (.func 65) [] []] = some (.bool (l.any (longB))) := hF_eq (a := l) fn_inj (by simp only [cans, can, cansS]) h
noncomputable abbrev T9b : List (FuncId × (List V → Option V)) := (40, F40b) :: []
theorem hT9b : SoundHand Tryd.prog (hand T9b) := sound_cons (hF_sound fun a h => w40b a h) sound_nil
theorem w9 (l : List (List UInt8)) (h : l.length ≤ 1000000) : SoundPure Tryd.prog 9 [Ss l] (.ret (.bool (!l.any (fun s => decide (s.length > 600))))) := by
  refine s9 hT9a 3 (by simp) rfl ?_
  have e := F40a_eq h
  simp only [c9, Tryd.f9, gets]
  simp only [vmr, vmw, vmp, vza, ↓reduceIte, Nat.reduceBEq, Nat.reduceLT, Nat.reduceAdd, Nat.reduceEqDiff, reduceCtorEq, vmt, vzb, vzc, vlen, vleaf, velems, oks, vst, vmd, ty, Nat.reduceLeDiff, Nat.reduceMul, Nat.reduceSub, vzr, m9, e]
noncomputable def F9 : List V → Option V := hF (α := List (List UInt8)) (fun a => [Ss a]) (fun a => a.length ≤ 1000000) (fun a => .bool (!a.any (fun s => decide (s.length > 600))))
theorem F9_eq {l : List (List UInt8)} (h : l.length ≤ 1000000) : F9 [Ss l] = some (.bool (!l.any (fun s => decide (s.length > 600)))) := hF_eq (a := l) (one_inj' fun _ _ => Ss_inj) (by simp only [cans, canSs]) h
theorem w21 (l : List (List UInt8)) (h : l.length ≤ 1000000) : SoundPure Tryd.prog 21 [Ss l] (.ret (.bool (!l.any (longB)))) := by
  refine s21 hT9b 3 (by simp) rfl ?_
  have e := F40b_eq h
  simp only [c21, Tryd.f21, gets]
  simp only [vmr, vmw, vmp, vza, ↓reduceIte, Nat.reduceBEq, Nat.reduceLT, Nat.reduceAdd, Nat.reduceEqDiff, reduceCtorEq, vmt, vzb, vzc, vlen, vleaf, velems, oks, vst, vmd, ty, Nat.reduceLeDiff, Nat.reduceMul, Nat.reduceSub, vzr, m21, e]
noncomputable def F21 : List V → Option V := hF (α := List (List UInt8)) (fun a => [Ss a]) (fun a => a.length ≤ 1000000) (fun a => .bool (!a.any (longB)))
theorem F21_eq {l : List (List UInt8)} (h : l.length ≤ 1000000) : F21 [Ss l] = some (.bool (!l.any (longB))) := hF_eq (a := l) (one_inj' fun _ _ => Ss_inj) (by simp only [cans, canSs]) h
/-! ### awake -/
noncomputable abbrev T10 : List (FuncId × (List V → Option V)) := (13, F13) :: (17, F17) :: (30, F30) :: []
theorem hT10 : SoundHand Tryd.prog (hand T10) := sound_cons (hF_sound fun a _ => w13 a.1 a.2) <| sound_cons (hF_sound fun a h => w17 a.1 a.2 h) <| sound_cons (hF_sound fun a _ => w30 a) sound_nil
theorem div72 : divO [45, 55] [50] = .tup [.str [45, 51], .str [45, 49], I 0] := by kernel_rfl
theorem pow210 : powS [45, 50] 10 = .tup [.str [49, 48, 50, 52], I 0] := by kernel_rfl
theorem val0 : validB [45, 48] = false := rfl
theorem w10 : SoundPure Tryd.prog 10 [] (.ret (.bool true)) := by
  refine s10 hT10 3 (by simp) rfl ?_
  have e13 := F13_eq [45, 55] [50]
  have e17 := F17_eq (a := [45, 50]) (e := 10) (by omega)
  have e30 := F30_eq [45, 48]
  rw [div72] at e13
  rw [pow210] at e17
  rw [val0] at e30
  have b1 : (([45, 51] : List UInt8) == [45, 51]) = true := rfl
  have b2 : (([45, 49] : List UInt8) == [45, 49]) = true := rfl
  have b3 : (([49, 48, 50, 52] : List UInt8) == [49, 48, 50, 52]) = true := rfl
  simp only [c10, Tryd.f10, gets]
  simp only [vmr, vmw, vmp, vza, ↓reduceIte, Nat.reduceBEq, Nat.reduceLT, Nat.reduceAdd, Nat.reduceEqDiff, reduceCtorEq, vmt, vzb, vzc, vlen, vleaf, velems, oks, vst, vmd, ty, Nat.reduceLeDiff, Nat.reduceMul, Nat.reduceSub, vzr, m10, e13, e17, e30, strOp, b1, b2, b3, Int.reduceBEq]
noncomputable def F10 : List V → Option V := fun args => if args = [] then some (.bool true) else none
theorem F10_eq : F10 [] = some (.bool true) := if_pos rfl
theorem F10_sound : ∀ args v, F10 args = some v → SoundPure Tryd.prog 10 args (.ret v) := by
  intro args v h
  unfold F10 at h
  split at h
  · rename_i e
    subst e
    injection h with h
    subst h
    exact w10
  · cases h
end Go.Vi
set_option maxRecDepth 100000
set_option maxHeartbeats 1000000
set_option exponentiation.threshold 256
namespace Go.Vi
open Go Go.Proofs

theorem cmpO_tup (a b : List UInt8) : ∃ c e, cmpO a b = .tup [I c, I e] := by
  unfold cmpO
  split
  · exact ⟨_, _, rfl⟩
  · exact ⟨_, _, rfl⟩
theorem room9 {n : Nat} (h : n ≤ 10000000) : roomOk Tryd.prog 9 n = true := by
  simp [roomOk, ty, cellsV, leafV]; omega
noncomputable abbrev T6 : List (FuncId × (List V → Option V)) := (9, F9) :: (10, F10) :: (28, F28) :: (29, F29) :: (30, F30) :: (31, F31) :: (24, F24) :: (32, F24) :: (27, F27) :: (33, F27) :: (26, F26) :: (34, F26) :: []
theorem hT6 : SoundHand Tryd.prog (hand T6) := sound_cons (hF_sound fun a h => w9 a h) <| sound_cons F10_sound <| sound_cons (hF_sound fun a _ => w28 a.1 a.2) <| sound_cons (hF_sound fun a _ => w29 a.1 a.2) <| sound_cons (hF_sound fun a _ => w30 a) <| sound_cons (hF_sound fun a _ => w31 a) <|
  sound_cons (hF_sound fun a _ => w24 a.1 a.2) <| sound_cons (hF_sound fun a _ => w32 a.1 a.2) <| sound_cons (hF_sound fun a _ => w27 a.1 a.2) <| sound_cons (hF_sound fun a _ => w33 a.1 a.2) <| sound_cons (hF_sound fun a _ => w26 a) <| sound_cons (hF_sound fun a _ => w34 a) sound_nil
theorem w6 (a b : List UInt8) : SoundPure Tryd.prog 6 [.str a, .str b] (.ret (.bool true)) := by
  refine s6 hT6 6 (by simp) rfl ?_
  have e9 := F9_eq (l := [a, b]) (by simp)
  rw [show Ss [a, b] = .lst [.str a, .str b] from rfl] at e9
  have e10 := F10_eq
  have e28 := F28_eq a b
  have e29 := F29_eq a b
  have e30 := F30_eq a
  have e31 := F31_eq a
  have e24 := F24_eq a b
  have e27 := F27_eq a b
  have e26 := F26_eq a
  obtain ⟨c1, d1, h1⟩ := cmpO_tup a b
  obtain ⟨s2, d2, h2⟩ := with2_tup (fun x y => x + y) a b
  obtain ⟨s3, d3, h3⟩ := with2_tup (fun x y => x - y) a b
  obtain ⟨s4, d4, h4⟩ := with2_tup (fun x y => -x) a [48]
  rw [h1] at e28 e29
  rw [h2] at e24
  rw [h3] at e27
  rw [h4] at e26
  have hr2 := @room9 2 (by omega)
  have v : (validB a != validB a) = false := bne_self_eq_false _
  have n1 : (c1 != c1) = false := bne_self_eq_false _
  have n2 : (d1 != d1) = false := bne_self_eq_false _
  have n3 : (d2 != d2) = false := bne_self_eq_false _
  have q2 : (s2 == s2) = true := beq_self_eq_true _
  have q3 : (s3 == s3) = true := beq_self_eq_true _
  have q4 : (s4 == s4) = true := beq_self_eq_true _
  have q5 : (d3 == d3) = true := beq_self_eq_true _
  have q6 : (d4 == d4) = true := beq_self_eq_true _
  simp only [c6, Tryd.f6, gets]
  cases hl : ([a, b] : List (List UInt8)).any fun s => decide (s.length > 600) with
  | true =>
    rw [hl] at e9
    simp only [vmr, vmw, vmp, vza, ↓reduceIte, Nat.reduceBEq, Nat.reduceLT, Nat.reduceAdd, Nat.reduceEqDiff, reduceCtorEq, vmt, vzb, vzc, vlen, vleaf, velems, oks, vst, vmd, ty, Nat.reduceLeDiff, Nat.reduceMul, Nat.reduceSub, vzr, m6, hr2, fits9, List.map_cons, List.map_nil, e9, e10]
  | false =>
    rw [hl] at e9
    simp only [vmr, vmw, vmp, vza, ↓reduceIte, Nat.reduceBEq, Nat.reduceLT, Nat.reduceAdd, Nat.reduceEqDiff, reduceCtorEq, vmt, vzb, vzc, vlen, vleaf, velems, oks, vst, vmd, ty, Nat.reduceLeDiff, Nat.reduceMul, Nat.reduceSub, vzr, m6, hr2, fits9, List.map_cons, List.map_nil, e9, e10, e28, e29, e30, e31, e24, e27, e26, strOp, v, n1, n2, n3, q2, q3, q4, q5, q6]
end Go.Vi
