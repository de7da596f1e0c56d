/-
  Walks of the small functions on terms and names.
-/
import Derived.Test.YtpibnnopnhmijaaGreatDoorRB
import Derived.Test.YtpibnnopnhmijaaGreatDoorRA
set_option linter.unusedSimpArgs false
set_option linter.unusedVariables false
set_option maxRecDepth 100000
set_option maxHeartbeats 1000000
namespace Go.Vi
open Go Go.Proofs

abbrev tmv (k : Int) (s : List UInt8) (c : List Tm) : V := .agg [I k, .str s, Ts c]
def isV (k : Int) : Bool := decide (5 ≤ k) && decide (k ≤ 7)
def isSy (k : Int) : Bool := decide (1 ≤ k) && decide (k ≤ 3)
theorem tmv_inj {k k' : Int} {s s' : List UInt8} {c c' : List Tm} (h : [tmv k s c] = [tmv k' s' c']) : (k, s, c) = (k', s', c') := by
  injection h with h
  injection h with h
  injection h with h1 h2
  injection h2 with h2 h3
  injection h3 with h3
  rw [I_inj h1, Str_inj h2, Ts_inj h3]
theorem can_tmv (k : Int) (s : List UInt8) (c : List Tm) : cans [tmv k s c] = [tmv k s c] := by show [V.agg [I k, .str s, can (Ts c)]] = _; rw [can_Ts]
noncomputable def Ftm (f : Int → List UInt8 → V) : List V → Option V := hF (α := Int × List UInt8 × List Tm) (fun p => [tmv p.1 p.2.1 p.2.2]) (fun p => p.2.1.length ≤ 1000000000000000) (fun p => f p.1 p.2.1)
theorem Ftm_eq {f : Int → List UInt8 → V} (k : Int) {s : List UInt8} (c : List Tm) (hs : s.length ≤ 1000000000000000) : Ftm f [tmv k s c] = some (f k s) :=
  hF_eq (a := (k, s, c)) (fun _ _ h => tmv_inj h) (can_tmv k s c) hs
theorem Ftm_sound {f : Int → List UInt8 → V} {g : Nat} (h : ∀ k s c, s.length ≤ 1000000000000000 → SoundPure Tryz.prog g [tmv k s c] (.ret (f k s))) : ∀ args v, Ftm f args = some v → SoundPure Tryz.prog g args (.ret v) := hF_sound fun p hp => h p.1 p.2.1 p.2.2 hp
theorem w25 (k : Int) (s : List UInt8) (c : List Tm) (hs : s.length ≤ 1000000000000000) : SoundPure Tryz.prog 67 [tmv k s c] (.ret (.bool (isV k))) := by
  refine s725 (H := []) sound_nil 1 (by simp) rfl ?_
  simp only [c725, Tryz.f67, gets, sub]
  unfold isV
  by_cases h : k ≥ 5
  · rw [decide_eq_true (show 5 ≤ k from h)]
    simp only [vmr, vmw, vmp, vza, ↓reduceIte, Nat.reduceBEq, Nat.reduceLT, Nat.reduceAdd, Nat.reduceEqDiff, reduceCtorEq, vmt, vzb, vzc, vlen, vleaf, velems, oks, vst, vmd, ty, Nat.reduceLeDiff, Nat.reduceMul, Nat.reduceSub, vzr, m725, eq_true h]
  · rw [decide_eq_false (show ¬ 5 ≤ k from h)]
    simp only [vmr, vmw, vmp, vza, ↓reduceIte, Nat.reduceBEq, Nat.reduceLT, Nat.reduceAdd, Nat.reduceEqDiff, reduceCtorEq, vmt, vzb, vzc, vlen, vleaf, velems, oks, vst, vmd, ty, Nat.reduceLeDiff, Nat.reduceMul, Nat.reduceSub, vzr, m725, eq_false h]
theorem k64 (k : Int) (s : List UInt8) (c : List Tm) (hs : s.length ≤ 1000000000000000) : SoundPure Tryz.prog 94 [tmv k s c] (.ret (.bool (isSy k))) := by
  refine s764 (H := []) sound_nil 1 (by simp) rfl ?_
  simp only [c764, Tryz.f94, gets, sub]
  unfold isSy
  by_cases h : k ≥ 1
  · rw [decide_eq_true (show 1 ≤ k from h)]
    simp only [vmr, vmw, vmp, vza, ↓reduceIte, Nat.reduceBEq, Nat.reduceLT, Nat.reduceAdd, Nat.reduceEqDiff, reduceCtorEq, vmt, vzb, vzc, vlen, vleaf, velems, oks, vst, vmd, ty, Nat.reduceLeDiff, Nat.reduceMul, Nat.reduceSub, vzr, m764, eq_true h]
  · rw [decide_eq_false (show ¬ 1 ≤ k from h)]
    simp only [vmr, vmw, vmp, vza, ↓reduceIte, Nat.reduceBEq, Nat.reduceLT, Nat.reduceAdd, Nat.reduceEqDiff, reduceCtorEq, vmt, vzb, vzc, vlen, vleaf, velems, oks, vst, vmd, ty, Nat.reduceLeDiff, Nat.reduceMul, Nat.reduceSub, vzr, m764, eq_false h]
theorem w65 (k : Int) (s : List UInt8) (c : List Tm) (hs : s.length ≤ 1000000000000000) : SoundPure Tryz.prog 96 [tmv k s c] (.ret (.bool (isSy k))) := by
  refine s765 (H := []) sound_nil 1 (by simp) rfl ?_
  simp only [c765, Tryz.f96, gets, sub]
  unfold isSy
  by_cases h : k ≥ 1
  · rw [decide_eq_true (show 1 ≤ k from h)]
    simp only [vmr, vmw, vmp, vza, ↓reduceIte, Nat.reduceBEq, Nat.reduceLT, Nat.reduceAdd, Nat.reduceEqDiff, reduceCtorEq, vmt, vzb, vzc, vlen, vleaf, velems, oks, vst, vmd, ty, Nat.reduceLeDiff, Nat.reduceMul, Nat.reduceSub, vzr, m765, eq_true h]
  · rw [decide_eq_false (show ¬ 1 ≤ k from h)]
    simp only [vmr, vmw, vmp, vza, ↓reduceIte, Nat.reduceBEq, Nat.reduceLT, Nat.reduceAdd, Nat.reduceEqDiff, reduceCtorEq, vmt, vzb, vzc, vlen, vleaf, velems, oks, vst, vmd, ty, Nat.reduceLeDiff, Nat.reduceMul, Nat.reduceSub, vzr, m765, eq_false h]
theorem w88 (k : Int) (s : List UInt8) (c : List Tm) (hs : s.length ≤ 1000000000000000) : SoundPure Tryz.prog 59 [tmv k s c] (.ret (.bool (isV k))) := by
  refine s788 (H := []) sound_nil 1 (by simp) rfl ?_
  simp only [c788, Tryz.f59, gets, sub]
  have e : isV k = (k == 5 || k == 6 || k == 7) := by
    unfold isV
    rw [Bool.eq_iff_iff]
    simp
    omega
  rw [e]
  cases h5 : k == 5 <;> cases h6 : k == 6 <;> simp only [vmr, vmw, vmp, vza, ↓reduceIte, Nat.reduceBEq, Nat.reduceLT, Nat.reduceAdd, Nat.reduceEqDiff, reduceCtorEq, vmt, vzb, vzc, vlen, vleaf, velems, oks, vst, vmd, ty, Nat.reduceLeDiff, Nat.reduceMul, Nat.reduceSub, vzr, m788, h5, h6]
/-- The name of a variable with its kind's letter. -/
def nameV (k : Int) (s : List UInt8) : List UInt8 := (if k = 5 then [115, 46] else if k = 6 then [116, 46] else [101, 46]) ++ s
theorem w89 (k : Int) (s : List UInt8) (c : List Tm) (hs : s.length ≤ 1000000000000000) : SoundPure Tryz.prog 68 [tmv k s c] (.ret (.str (nameV k s))) := by
  refine s789 (H := []) sound_nil 1 (by simp) rfl ?_
  simp only [c789, Tryz.f68, gets, sub]
  have hl : (2 + s.length ≤ 9223372036854775807) = True := eq_true (by omega)
  unfold nameV
  by_cases h5 : k = 5
  · subst h5
    simp only [vmr, vmw, vmp, vza, ↓reduceIte, Nat.reduceBEq, Nat.reduceLT, Nat.reduceAdd, Nat.reduceEqDiff, reduceCtorEq, vmt, vzb, vzc, vlen, vleaf, velems, oks, vst, vmd, ty, Nat.reduceLeDiff, Nat.reduceMul, Nat.reduceSub, vzr, m789, hl, strOp, Int.reduceBEq]
  · have h5' : (k == 5) = false := by simpa using h5
    rw [if_neg h5]
    by_cases h6 : k = 6
    · subst h6
      simp only [vmr, vmw, vmp, vza, ↓reduceIte, Nat.reduceBEq, Nat.reduceLT, Nat.reduceAdd, Nat.reduceEqDiff, reduceCtorEq, vmt, vzb, vzc, vlen, vleaf, velems, oks, vst, vmd, ty, Nat.reduceLeDiff, Nat.reduceMul, Nat.reduceSub, vzr, m789, hl, strOp, Int.reduceBEq, h5']
    · have h6' : (k == 6) = false := by simpa using h6
      rw [if_neg h6]
      simp only [vmr, vmw, vmp, vza, ↓reduceIte, Nat.reduceBEq, Nat.reduceLT, Nat.reduceAdd, Nat.reduceEqDiff, reduceCtorEq, vmt, vzb, vzc, vlen, vleaf, velems, oks, vst, vmd, ty, Nat.reduceLeDiff, Nat.reduceMul, Nat.reduceSub, vzr, m789, hl, strOp, h5', h6']
def nameP (k : Int) (s : List UInt8) : List UInt8 := if isV k = true then nameV k s else []
noncomputable abbrev FisV : List V → Option V := Ftm fun k _ => .bool (isV k)
noncomputable abbrev FisSy : List V → Option V := Ftm fun k _ => .bool (isSy k)
noncomputable abbrev FnameV : List V → Option V := Ftm fun k s => .str (nameV k s)
noncomputable abbrev FnameP : List V → Option V := Ftm fun k s => .str (nameP k s)
theorem F25_sound : ∀ args v, FisV args = some v → SoundPure Tryz.prog 67 args (.ret v) := Ftm_sound w25
theorem F64_sound : ∀ args v, FisSy args = some v → SoundPure Tryz.prog 94 args (.ret v) := Ftm_sound k64
theorem F65_sound : ∀ args v, FisSy args = some v → SoundPure Tryz.prog 96 args (.ret v) := Ftm_sound w65
theorem F88_sound : ∀ args v, FisV args = some v → SoundPure Tryz.prog 59 args (.ret v) := Ftm_sound w88
theorem F89_sound : ∀ args v, FnameV args = some v → SoundPure Tryz.prog 68 args (.ret v) := Ftm_sound w89
theorem w52 (k : Int) (s : List UInt8) (c : List Tm) (hs : s.length ≤ 1000000000000000) : SoundPure Tryz.prog 37 [tmv k s c] (.ret (.str (nameP k s))) := by
  refine s752 (H := [(67, FisV)]) (sound_cons F25_sound sound_nil) 1 (by simp) rfl ?_
  have hd := @d752_3 (hand [(67, FisV)]) 1
  simp only [c752, Tryz.f37, gets, sub, opsAt] at hd ⊢
  have e := Ftm_eq (f := fun k _ => .bool (isV k)) k c hs
  have hl : (2 + s.length ≤ 9223372036854775807) = True := eq_true (by omega)
  unfold nameP
  cases h : isV k with
  | false =>
    rw [h] at e
    simp only [vmr, vmw, vmp, vza, ↓reduceIte, Nat.reduceBEq, Nat.reduceLT, Nat.reduceAdd, Nat.reduceEqDiff, reduceCtorEq, vmt, vzb, vzc, vlen, vleaf, velems, oks, vst, vmd, ty, Nat.reduceLeDiff, Nat.reduceMul, Nat.reduceSub, vzr, m752, e, Bool.false_eq_true, if_false]
  | true =>
    rw [h] at e
    simp only [if_true]
    have hk : k = 5 ∨ k = 6 ∨ k = 7 := by simp [isV] at h; omega
    unfold nameV
    rcases hk with rfl | rfl | rfl
    all_goals
      simp only [vmr, vmw, vmp, vza, ↓reduceIte, Nat.reduceBEq, Nat.reduceLT, Nat.reduceAdd, Nat.reduceEqDiff, reduceCtorEq, vmt, vzb, vzc, vlen, vleaf, velems, oks, vst, vmd, ty, Nat.reduceLeDiff, Nat.reduceMul, Nat.reduceSub, vzr, m752, e, hd, hl, strOp, Int.reduceSub, show IntKind.i64.wrap 0 = 0 from rfl, show IntKind.i64.wrap 1 = 1 from rfl, show IntKind.i64.wrap 2 = 2 from rfl, show Int.toNat 1 = 1 from rfl, show Int.toNat 2 = 2 from rfl, show ((0 : Int) ≤ 1) = True from eq_true (by decide), show ((0 : Int) ≤ 2) = True from eq_true (by decide), show (((115 : UInt8).toNat : Int) < 128) = True from eq_true (by decide), show (((116 : UInt8).toNat : Int) < 128) = True from eq_true (by decide), show (((101 : UInt8).toNat : Int) < 128) = True from eq_true (by decide)]
      rfl
theorem F52_sound : ∀ args v, FnameP args = some v → SoundPure Tryz.prog 37 args (.ret v) := Ftm_sound w52
end Go.Vi
set_option maxRecDepth 100000
set_option maxHeartbeats 1000000
namespace Go.Vi
open Go Go.Proofs

abbrev steS : List UInt8 := [115, 116, 101]
def idx3 (c : UInt8) : Int := if c = 115 then 0 else if c = 116 then 1 else if c = 101 then 2 else -1
theorem idx3_lib (c : UInt8) : Lib.indexByte steS c = idx3 c := by
  unfold idx3
  by_cases h1 : c = 115
  · subst h1; decide
  · by_cases h2 : c = 116
    · subst h2; decide
    · by_cases h3 : c = 101
      · subst h3; decide
      · simp [Lib.indexByte, h1, h2, h3, Ne.symm h1, Ne.symm h2, Ne.symm h3]
theorem w62 (c : UInt8) : SoundPure Tryz.prog 80 [.str steS, .str [c]] (.ret (I (idx3 c))) := by
  intro w A cs hJ hA hp
  simp only [PCs, PC] at hp
  obtain ⟨a, d, hcs, rfl, a2, d2, hcs2, rfl, rfl⟩ := hp
  obtain rfl : cs = #[.string ⟨steS.toArray⟩, .string ⟨#[c]⟩] := by cases cs; simp_all
  refine (Tryz.strings_Index_one ⟨steS.toArray⟩ c w).mono ?_
  rintro e w' ⟨rfl, rfl⟩
  refine ⟨A, ⟨Nat.le_refl _, rfl, rfl, rfl, fun b hb' _ => rfl, fun _ _ _ => rfl, Nat.le_refl _, fun _ h => h, fun _ h => .inl h, fun _ h => .inl h⟩, hA, _, [], rfl, ?_, fun i hi => (by cases hi), List.Pairwise.nil⟩
  simp only [RC, IC, PC]
  exact ⟨trivial, by rw [← idx3_lib]⟩
theorem w61 (c : UInt8) : SoundPure Tryz.prog 79 [.str steS, .str [c]] (.ret (.bool (decide (0 ≤ idx3 c)))) := by
  intro w A cs hJ hA hp
  simp only [PCs, PC] at hp
  obtain ⟨a, d, hcs, rfl, a2, d2, hcs2, rfl, rfl⟩ := hp
  obtain rfl : cs = #[.string ⟨steS.toArray⟩, .string ⟨#[c]⟩] := by cases cs; simp_all
  refine (Tryz.strings_Contains_one ⟨steS.toArray⟩ c w).mono ?_
  rintro e w' ⟨rfl, rfl⟩
  refine ⟨A, ⟨Nat.le_refl _, rfl, rfl, rfl, fun b hb' _ => rfl, fun _ _ _ => rfl, Nat.le_refl _, fun _ h => h, fun _ h => .inl h, fun _ h => .inl h⟩, hA, _, [], rfl, ?_, fun i hi => (by cases hi), List.Pairwise.nil⟩
  simp only [RC, IC, PC]
  exact ⟨trivial, by rw [← idx3_lib]⟩
noncomputable def F61 : List V → Option V := hF (α := UInt8) (fun c => [.str steS, .str [c]]) (fun _ => True) (fun c => .bool (decide (0 ≤ idx3 c)))
theorem F61_eq (c : UInt8) : F61 [.str steS, .str [c]] = some (.bool (decide (0 ≤ idx3 c))) := hF_eq (a := c) (fun _ _ h => by injection h with _ h; injection h with h; have := Str_inj h; injection this) rfl trivial
theorem F61_sound : ∀ args v, F61 args = some v → SoundPure Tryz.prog 79 args (.ret v) := hF_sound fun p _ => w61 p
noncomputable def F62 : List V → Option V := hF (α := UInt8) (fun c => [.str steS, .str [c]]) (fun _ => True) (fun c => I (idx3 c))
theorem F62_eq (c : UInt8) : F62 [.str steS, .str [c]] = some (I (idx3 c)) := hF_eq (a := c) (fun _ _ h => by injection h with _ h; injection h with h; have := Str_inj h; injection this) rfl trivial
theorem F62_sound : ∀ args v, F62 args = some v → SoundPure Tryz.prog 80 args (.ret v) := hF_sound fun p _ => w62 p
/-- The variable with a name: its kind and its text. -/
def varB : List UInt8 → Option (Int × List UInt8)
  | a :: b :: r => if b = 46 ∧ 0 ≤ idx3 a ∧ rightB (5 + idx3 a) r [] = true then some (5 + idx3 a, r) else none
  | _ => none
def varR : Option (Int × List UInt8) → V
  | some (k, r) => .tup [.agg [I k, .str r, .nilS], .bool true]
  | none => .tup [.agg [I 0, .str [], .nilS], .bool false]
noncomputable abbrev T734 : List (FuncId × (List V → Option V)) := [(79, F61), (80, F62), (81, Fright)]
theorem h734 : SoundHand Tryz.prog (hand T734) := sound_cons F61_sound (sound_cons F62_sound (sound_cons F63_sound sound_nil))
theorem Fright_nil {k : Int} {s : List UInt8} (hs : s.length ≤ 1000000000000000) : Fright [.agg [I k, .str s, .nilS]] = some (.bool (rightB k s [])) :=
  hF_eq (a := (k, s, [])) (fun a b h => by
    have := tmv_inj h
    exact Prod.ext (congrArg (·.1) this) (Prod.ext (congrArg (·.2.1) this) (congrArg (·.2.2) this))) rfl hs
theorem idx3_le (a : UInt8) : idx3 a ≤ 2 := by unfold idx3; repeat (first | split | omega)
theorem g46 (u : UInt8) : (((u.toNat : Int)) == 46) = (u == 46) := by
  rw [Bool.eq_iff_iff, beq_iff_eq, beq_iff_eq]
  exact ⟨fun h => UInt8.toNat_inj.1 (by simpa using (show u.toNat = 46 by omega)), fun h => by subst h; rfl⟩
theorem w34 (a : List UInt8) (ha : a.length ≤ 1000000000000000) : SoundPure Tryz.prog 50 [.str a] (.ret (varR (varB a))) := by
  have hp : pureR (varR (varB a)) = true := by cases varB a <;> rfl
  refine s734 h734 1 (by simp) hp ?_
  have hd := @d734_3 (hand T734) 1
  simp only [c734, Tryz.f50, gets, sub, opsAt] at hd ⊢
  match a, ha with
  | [], _ =>
    have q : (((0 : Nat) : Int) < 2) = True := eq_true (by decide)
    have q' : ((0 : Int) < 2) = True := eq_true (by decide)
    simp only [varB, varR]
    simp only [vmr, vmw, vmp, vza, ↓reduceIte, Nat.reduceBEq, Nat.reduceLT, Nat.reduceAdd, Nat.reduceEqDiff, reduceCtorEq, vmt, vzb, vzc, vlen, vleaf, velems, oks, vst, vmd, ty, Nat.reduceLeDiff, Nat.reduceMul, Nat.reduceSub, vzr, m734, q, q']
  | [x], _ =>
    have q : (((1 : Nat) : Int) < 2) = True := eq_true (by decide)
    have q' : ((1 : Int) < 2) = True := eq_true (by decide)
    simp only [varB, varR]
    simp only [vmr, vmw, vmp, vza, ↓reduceIte, Nat.reduceBEq, Nat.reduceLT, Nat.reduceAdd, Nat.reduceEqDiff, reduceCtorEq, vmt, vzb, vzc, vlen, vleaf, velems, oks, vst, vmd, ty, Nat.reduceLeDiff, Nat.reduceMul, Nat.reduceSub, vzr, m734, q, q']
  | x :: y :: r, ha =>
    have e1 := F61_eq x
    have e2 := F62_eq x
    have e3 := Fright_nil (k := 5 + idx3 x) (s := r) (by simp at ha; omega)
    have hx := idx3_le x
    have q : (((r.length + 1 + 1 : Nat) : Int) < 2) = False := eq_false (by omega)
    have t1 : Int.toNat 1 = 1 := rfl
    have t2 : Int.toNat 2 = 2 := rfl
    have p1 : ((0 : Int) ≤ 1) = True := eq_true (by decide)
    have p2 : ((0 : Int) ≤ 2) = True := eq_true (by decide)
    have q1 : (1 ≤ r.length + 1 + 1) = True := eq_true (by omega)
    have q2 : (2 ≤ r.length + 1 + 1) = True := eq_true (by omega)
    have n46 : (((y.toNat : Int)) != 46) = !(y == 46) := by rw [← g46]; rfl
    have h12 : r.length + 1 + 1 - 2 = r.length := rfl
    simp only [varB]
    cases hy : y == 46 with
    | false =>
      rw [hy] at n46
      have : ¬ y = 46 := by simpa using hy
      rw [if_neg (fun h => this h.1)]
      simp only [varR]
      simp only [vmr, vmw, vmp, vza, ↓reduceIte, Nat.reduceBEq, Nat.reduceLT, Nat.reduceAdd, Nat.reduceEqDiff, reduceCtorEq, vmt, vzb, vzc, vlen, vleaf, velems, oks, vst, vmd, ty, Nat.reduceLeDiff, Nat.reduceMul, Nat.reduceSub, vzr, m734, q, t1, t2, p1, p2, q1, q2, n46]
    | true =>
      rw [hy] at n46
      have hy : y = 46 := by simpa using hy
      by_cases hi : 0 ≤ idx3 x
      · rw [decide_eq_true hi] at e1
        have w1 : IntKind.i64.wrap (5 + idx3 x) = 5 + idx3 x := by rw [wrap_id] <;> omega
        cases hr : rightB (5 + idx3 x) r [] with
        | false =>
          rw [hr] at e3
          rw [if_neg (fun h => by simp at h)]
          simp only [varR]
          simp only [vmr, vmw, vmp, vza, ↓reduceIte, Nat.reduceBEq, Nat.reduceLT, Nat.reduceAdd, Nat.reduceEqDiff, reduceCtorEq, vmt, vzb, vzc, vlen, vleaf, velems, oks, vst, vmd, ty, Nat.reduceLeDiff, Nat.reduceMul, Nat.reduceSub, vzr, m734, q, t1, t2, p1, p2, q1, q2, n46, e1, e2, e3, hd, w1, h12, sliceA, sliceV, boundOf, Option.map_some, Option.map_none]
        | true =>
          rw [hr] at e3
          rw [if_pos ⟨hy, hi, rfl⟩]
          simp only [varR]
          simp only [vmr, vmw, vmp, vza, ↓reduceIte, Nat.reduceBEq, Nat.reduceLT, Nat.reduceAdd, Nat.reduceEqDiff, reduceCtorEq, vmt, vzb, vzc, vlen, vleaf, velems, oks, vst, vmd, ty, Nat.reduceLeDiff, Nat.reduceMul, Nat.reduceSub, vzr, m734, q, t1, t2, p1, p2, q1, q2, n46, e1, e2, e3, hd, w1, h12, sliceA, sliceV, boundOf, Option.map_some, Option.map_none]
      · rw [decide_eq_false hi] at e1
        rw [if_neg (fun h => hi h.2.1)]
        simp only [varR]
        simp only [vmr, vmw, vmp, vza, ↓reduceIte, Nat.reduceBEq, Nat.reduceLT, Nat.reduceAdd, Nat.reduceEqDiff, reduceCtorEq, vmt, vzb, vzc, vlen, vleaf, velems, oks, vst, vmd, ty, Nat.reduceLeDiff, Nat.reduceMul, Nat.reduceSub, vzr, m734, q, t1, t2, p1, p2, q1, q2, n46, e1, sliceA, sliceV, boundOf, Option.map_some, Option.map_none]
end Go.Vi
set_option maxRecDepth 100000
set_option maxHeartbeats 1000000
namespace Go.Vi
open Go Go.Proofs

theorem two_b (a b : Bool) : (a = true ∧ b = true) ∨ a = false ∨ (a = true ∧ b = false) := by cases a <;> cases b <;> simp
theorem l736 {n k} {a : List UInt8} (ha : a.length ≤ 1000) {P : Option (Ex × St) → Prop} : ∀ r i n' s, a.drop i = r → r.length < n' → tget s.τ 0 = .str a → tget s.τ 3 = I (i : Nat) →
    (∀ s', r.all lodU = true → P (X (M736 (hand []) n) (.exit 0) k s')) → (∀ s', r.all lodU = false → tget s'.τ 2 = .bool false → P (some (.ret, s'))) →
    P (L (M736 (hand []) n) (sub [1, 1, 0, 1, 0, 0] c736) n' k s) := by
  intro r
  induction r with
  | nil =>
    intro i n' s hi hn h0 h3 hx hf
    obtain ⟨n', rfl⟩ : ∃ m, n' = m + 1 := ⟨n' - 1, by omega⟩
    have hc := inlt (drop_nil' hi)
    rw [L_succ]
    simp only [vmr, vmw, vmp, vza, ↓reduceIte, Nat.reduceBEq, Nat.reduceLT, Nat.reduceAdd, Nat.reduceEqDiff, reduceCtorEq, vmt, vzb, vzc, vlen, vleaf, velems, oks, vst, vmd, ty, Nat.reduceLeDiff, Nat.reduceMul, Nat.reduceSub, c736, Tryz.f74, m736, h0, h3, hc]
    exact hx _ rfl
  | cons u r ih =>
    intro i n' s hi hn h0 h3 hx hf
    obtain ⟨n', rfl⟩ : ∃ m, n' = m + 1 := ⟨n' - 1, by omega⟩
    obtain ⟨hg, hd, hlt2⟩ := drop_cons hi
    have hcl := ilt hlt2
    have hw := wsuc hlt2 (by omega)
    have ih := fun s => ih (i + 1) n' s hd (by simp at hn; omega)
    simp only [sub, c736, Tryz.f74, gets] at ih
    rw [L_succ]
    obtain ⟨b1, a1⟩ : ∃ b, decide ((u.toNat : Int) ≥ 97) = b := ⟨_, rfl⟩
    obtain ⟨b2, a2⟩ : ∃ b, decide ((u.toNat : Int) ≤ 122) = b := ⟨_, rfl⟩
    obtain ⟨b3, a3⟩ : ∃ b, decide ((u.toNat : Int) ≥ 65) = b := ⟨_, rfl⟩
    obtain ⟨b4, a4⟩ : ∃ b, decide ((u.toNat : Int) ≤ 90) = b := ⟨_, rfl⟩
    obtain ⟨b5, a5⟩ : ∃ b, decide ((u.toNat : Int) ≥ 48) = b := ⟨_, rfl⟩
    obtain ⟨b6, a6⟩ : ∃ b, decide ((u.toNat : Int) ≤ 57) = b := ⟨_, rfl⟩
    have hl : lodU u = ((b1 && b2 || b3 && b4) || b5 && b6) := by
      unfold lodU letN digN
      have e : ∀ k : Nat, decide ((u.toNat : Int) ≥ (k : Nat)) = decide (k ≤ u.toNat) := fun k => decide_eq_decide.2 (by omega)
      have f : ∀ k : Nat, decide ((u.toNat : Int) ≤ (k : Nat)) = decide (u.toNat ≤ k) := fun k => decide_eq_decide.2 (by omega)
      rw [← a1, ← a2, ← a3, ← a4, ← a5, ← a6, show decide ((u.toNat : Int) ≥ 97) = _ from e 97, show decide ((u.toNat : Int) ≤ 122) = _ from f 122, show decide ((u.toNat : Int) ≥ 65) = _ from e 65, show decide ((u.toNat : Int) ≤ 90) = _ from f 90, show decide ((u.toNat : Int) ≥ 48) = _ from e 48, show decide ((u.toNat : Int) ≤ 57) = _ from f 57]
    have good : lodU u = true → _ := fun hu => (⟨fun (s' : St) (h : r.all lodU = true) => hx s' (by rw [List.all_cons, hu, Bool.true_and]; exact h), fun (s' : St) (h : r.all lodU = false) => hf s' (by rw [List.all_cons, hu, Bool.true_and]; exact h)⟩ : (∀ s' : St, r.all lodU = true → _) ∧ (∀ s' : St, r.all lodU = false → _))
    have bad : lodU u = false → _ := fun hu (s' : St) => hf s' (by rw [List.all_cons, hu, Bool.false_and])
    rcases two_b b1 b2 with ⟨rfl, rfl⟩ | rfl | ⟨rfl, rfl⟩
    · simp only [vmr, vmw, vmp, vza, ↓reduceIte, Nat.reduceBEq, Nat.reduceLT, Nat.reduceAdd, Nat.reduceEqDiff, reduceCtorEq, vmt, vzb, vzc, vlen, vleaf, velems, oks, vst, vmd, ty, Nat.reduceLeDiff, Nat.reduceMul, Nat.reduceSub, c736, Tryz.f74, m736, h0, h3, hcl, hg, hw, a1, a2]
      obtain ⟨g1, g2⟩ := good hl
      refine ih _ ?_ ?_ g1 g2
      all_goals simp only [vmr, vmw, vmp, vza, ↓reduceIte, Nat.reduceBEq, Nat.reduceLT, Nat.reduceAdd, Nat.reduceEqDiff, reduceCtorEq, vmt, vzb, vzc, vlen, vleaf, velems, oks, vst, vmd, ty, Nat.reduceLeDiff, Nat.reduceMul, Nat.reduceSub, m736, h0]
    all_goals rcases two_b b3 b4 with ⟨rfl, rfl⟩ | rfl | ⟨rfl, rfl⟩
    case inr.inl.inl | inr.inr.inl =>
      simp only [vmr, vmw, vmp, vza, ↓reduceIte, Nat.reduceBEq, Nat.reduceLT, Nat.reduceAdd, Nat.reduceEqDiff, reduceCtorEq, vmt, vzb, vzc, vlen, vleaf, velems, oks, vst, vmd, ty, Nat.reduceLeDiff, Nat.reduceMul, Nat.reduceSub, c736, Tryz.f74, m736, h0, h3, hcl, hg, hw, a1, a2, a3, a4]
      obtain ⟨g1, g2⟩ := good (by rw [hl]; simp)
      refine ih _ ?_ ?_ g1 g2
      all_goals simp only [vmr, vmw, vmp, vza, ↓reduceIte, Nat.reduceBEq, Nat.reduceLT, Nat.reduceAdd, Nat.reduceEqDiff, reduceCtorEq, vmt, vzb, vzc, vlen, vleaf, velems, oks, vst, vmd, ty, Nat.reduceLeDiff, Nat.reduceMul, Nat.reduceSub, m736, h0]
    all_goals rcases two_b b5 b6 with ⟨rfl, rfl⟩ | rfl | ⟨rfl, rfl⟩
    all_goals simp only [vmr, vmw, vmp, vza, ↓reduceIte, Nat.reduceBEq, Nat.reduceLT, Nat.reduceAdd, Nat.reduceEqDiff, reduceCtorEq, vmt, vzb, vzc, vlen, vleaf, velems, oks, vst, vmd, ty, Nat.reduceLeDiff, Nat.reduceMul, Nat.reduceSub, c736, Tryz.f74, m736, h0, h3, hcl, hg, hw, a1, a2, a3, a4, a5, a6]
    case inr.inl.inr.inl.inl | inr.inl.inr.inr.inl | inr.inr.inr.inl.inl | inr.inr.inr.inr.inl =>
      obtain ⟨g1, g2⟩ := good (by rw [hl]; simp)
      refine ih _ ?_ ?_ g1 g2
      all_goals simp only [vmr, vmw, vmp, vza, ↓reduceIte, Nat.reduceBEq, Nat.reduceLT, Nat.reduceAdd, Nat.reduceEqDiff, reduceCtorEq, vmt, vzb, vzc, vlen, vleaf, velems, oks, vst, vmd, ty, Nat.reduceLeDiff, Nat.reduceMul, Nat.reduceSub, m736, h0]
    all_goals
      refine bad (by rw [hl]; simp) _ ?_
      simp only [vmr, vmw, vmp, vza, ↓reduceIte, Nat.reduceBEq, Nat.reduceLT, Nat.reduceAdd, Nat.reduceEqDiff, reduceCtorEq, vmt, vzb, vzc, vlen, vleaf, velems, oks, vst, vmd, ty, Nat.reduceLeDiff, Nat.reduceMul, Nat.reduceSub, m736]
/-- Is a text a variable? -/
def varO : List UInt8 → Bool
  | a :: b :: r => decide (1 ≤ r.length) && decide (r.length ≤ 40) && decide (0 ≤ idx3 a) && (b == 46) && r.all lodU
  | _ => false
theorem varO_some (a : List UInt8) : varO a = (varB a).isSome := by
  match a with
  | [] => rfl
  | [x] => rfl
  | x :: y :: r =>
    show (decide (1 ≤ r.length) && decide (r.length ≤ 40) && decide (0 ≤ idx3 x) && (y == 46) && r.all lodU) = (if y = 46 ∧ 0 ≤ idx3 x ∧ rightB (5 + idx3 x) r [] = true then some (5 + idx3 x, r) else none).isSome
    by_cases h1 : y = 46
    · by_cases h2 : 0 ≤ idx3 x
      · have hx := idx3_le x
        have hr : rightB (5 + idx3 x) r [] = (!(r == []) && decide (r.length ≤ 40) && r.all lodU) := by
          unfold rightB
          rw [if_neg (by omega), if_neg (by omega), if_neg (by simp), if_neg (by omega), if_neg (by omega), if_neg (by omega), if_pos (by omega)]
        have hn : (!(r == [])) = decide (1 ≤ r.length) := by cases r <;> simp
        rw [hn] at hr
        rw [hr, decide_eq_true h2, show (y == 46) = true by simpa using h1, Bool.and_true, Bool.and_true]
        cases h3 : decide (1 ≤ r.length) && decide (r.length ≤ 40) && r.all lodU with
        | true => rw [if_pos ⟨h1, h2, rfl⟩]; rfl
        | false => rw [if_neg (fun h => by simp at h)]; rfl
      · rw [if_neg (fun h => h2 h.2.1), decide_eq_false h2, Bool.and_false, Bool.false_and, Bool.false_and]; rfl
    · rw [if_neg (fun h => h1 h.1), show (y == 46) = false by simpa using h1, Bool.and_false, Bool.false_and]; rfl
def P736 (n : Nat) (v : V) (r : Option (Ex × St)) : Prop := Fin (M736 (hand []) n) [.tmp 2] r = some (.ret v)
theorem w36 (a : List UInt8) (ha : a.length ≤ 1000000000000000) : SoundPure Tryz.prog 74 [.str a] (.ret (.bool (varO a))) := by
  refine s736 (H := []) sound_nil 1001 (by simp) rfl ?_
  show P736 _ _ _
  simp only [c736, Tryz.f74, gets, sub]
  match a, ha with
  | [], _ =>
    have q' : ((0 : Int) < 3) = True := eq_true (by decide)
    simp only [varO]
    simp only [vmr, vmw, vmp, vza, ↓reduceIte, Nat.reduceBEq, Nat.reduceLT, Nat.reduceAdd, Nat.reduceEqDiff, reduceCtorEq, vmt, vzb, vzc, vlen, vleaf, velems, oks, vst, vmd, ty, Nat.reduceLeDiff, Nat.reduceMul, Nat.reduceSub, m736, q']
    unfold P736
    simp only [vmr, vmw, vmp, vza, ↓reduceIte, Nat.reduceBEq, Nat.reduceLT, Nat.reduceAdd, Nat.reduceEqDiff, reduceCtorEq, vmt, vzb, vzc, vlen, vleaf, velems, oks, vst, vmd, ty, Nat.reduceLeDiff, Nat.reduceMul, Nat.reduceSub, vzr, m736]
  | [x], _ =>
    have q' : ((1 : Int) < 3) = True := eq_true (by decide)
    simp only [varO]
    simp only [vmr, vmw, vmp, vza, ↓reduceIte, Nat.reduceBEq, Nat.reduceLT, Nat.reduceAdd, Nat.reduceEqDiff, reduceCtorEq, vmt, vzb, vzc, vlen, vleaf, velems, oks, vst, vmd, ty, Nat.reduceLeDiff, Nat.reduceMul, Nat.reduceSub, m736, q']
    unfold P736
    simp only [vmr, vmw, vmp, vza, ↓reduceIte, Nat.reduceBEq, Nat.reduceLT, Nat.reduceAdd, Nat.reduceEqDiff, reduceCtorEq, vmt, vzb, vzc, vlen, vleaf, velems, oks, vst, vmd, ty, Nat.reduceLeDiff, Nat.reduceMul, Nat.reduceSub, vzr, m736]
  | x :: y :: r, ha =>
    have hv : varO (x :: y :: r) = (decide (1 ≤ r.length) && decide (r.length ≤ 40) && decide (0 ≤ idx3 x) && (y == 46) && r.all lodU) := rfl
    have a1 := fun (h : (x :: y :: r).length ≤ 1000) k s => @l736 1001 k (x :: y :: r) h (P736 1001 (.bool (r.all lodU))) r 2 1001 s rfl (by simp at h; omega)
    simp only [sub, c736, Tryz.f74, gets] at a1
    rw [hv]
    by_cases h1 : r.length < 1
    · have q : (((r.length + 1 + 1 : Nat) : Int) < 3) = True := eq_true (by omega)
      rw [decide_eq_false (show ¬ 1 ≤ r.length by omega)]
      simp only [vmr, vmw, vmp, vza, ↓reduceIte, Nat.reduceBEq, Nat.reduceLT, Nat.reduceAdd, Nat.reduceEqDiff, reduceCtorEq, vmt, vzb, vzc, vlen, vleaf, velems, oks, vst, vmd, ty, Nat.reduceLeDiff, Nat.reduceMul, Nat.reduceSub, m736, q]
      unfold P736
      simp only [vmr, vmw, vmp, vza, ↓reduceIte, Nat.reduceBEq, Nat.reduceLT, Nat.reduceAdd, Nat.reduceEqDiff, reduceCtorEq, vmt, vzb, vzc, vlen, vleaf, velems, oks, vst, vmd, ty, Nat.reduceLeDiff, Nat.reduceMul, Nat.reduceSub, vzr, m736]
    · have q : (((r.length + 1 + 1 : Nat) : Int) < 3) = False := eq_false (by omega)
      rw [decide_eq_true (show 1 ≤ r.length by omega)]
      by_cases h2 : r.length ≤ 40
      · have q2 : (((r.length + 1 + 1 : Nat) : Int) > 42) = False := eq_false (by omega)
        rw [decide_eq_true h2]
        have n115 : (((x.toNat : Int)) != 115) = !(x == 115) := by rw [Bool.eq_iff_iff]; simp [← UInt8.toNat_inj]; omega
        have n116 : (((x.toNat : Int)) != 116) = !(x == 116) := by rw [Bool.eq_iff_iff]; simp [← UInt8.toNat_inj]; omega
        have n101 : (((x.toNat : Int)) != 101) = !(x == 101) := by rw [Bool.eq_iff_iff]; simp [← UInt8.toNat_inj]; omega
        have n46 : (((y.toNat : Int)) != 46) = !(y == 46) := by rw [← g46]; rfl
        have hi : decide (0 ≤ idx3 x) = (x == 115 || x == 116 || x == 101) := by
          unfold idx3
          by_cases e1 : x = 115
          · subst e1; rfl
          · by_cases e2 : x = 116
            · subst e2; rfl
            · by_cases e3 : x = 101
              · subst e3; rfl
              · simp [e1, e2, e3]
        rw [hi]
        have g0 : (x :: y :: r)[0]? = some x := rfl
        have g1 : (x :: y :: r)[1]? = some y := rfl
        generalize hc4 : (y == 46) = c4 at n46 ⊢
        generalize hc1 : (x == 115) = c1 at n115 ⊢
        generalize hc2 : (x == 116) = c2 at n116 ⊢
        generalize hc3 : (x == 101) = c3 at n101 ⊢
        rcases (show c1 = true ∨ (c1 = false ∧ c2 = true) ∨ (c1 = false ∧ c2 = false ∧ c3 = true) ∨ (c1 = false ∧ c2 = false ∧ c3 = false) by cases c1 <;> cases c2 <;> cases c3 <;> simp) with rfl | ⟨rfl, rfl⟩ | ⟨rfl, rfl, rfl⟩ | ⟨rfl, rfl, rfl⟩
        case inr.inr.inr =>
          simp only [vmr, vmw, vmp, vza, ↓reduceIte, Nat.reduceBEq, Nat.reduceLT, Nat.reduceAdd, Nat.reduceEqDiff, reduceCtorEq, vmt, vzb, vzc, vlen, vleaf, velems, oks, vst, vmd, ty, Nat.reduceLeDiff, Nat.reduceMul, Nat.reduceSub, m736, q, q2, n115, n116, n101]
          unfold P736
          simp only [vmr, vmw, vmp, vza, ↓reduceIte, Nat.reduceBEq, Nat.reduceLT, Nat.reduceAdd, Nat.reduceEqDiff, reduceCtorEq, vmt, vzb, vzc, vlen, vleaf, velems, oks, vst, vmd, ty, Nat.reduceLeDiff, Nat.reduceMul, Nat.reduceSub, vzr, m736]
        all_goals
          cases c4 with
          | false =>
            simp only [vmr, vmw, vmp, vza, ↓reduceIte, Nat.reduceBEq, Nat.reduceLT, Nat.reduceAdd, Nat.reduceEqDiff, reduceCtorEq, vmt, vzb, vzc, vlen, vleaf, velems, oks, vst, vmd, ty, Nat.reduceLeDiff, Nat.reduceMul, Nat.reduceSub, m736, q, q2, n115, n116, n101, n46, show ((0 : Int) ≤ 1) = True from eq_true (by decide), show Int.toNat 1 = 1 from rfl]
            unfold P736
            simp only [vmr, vmw, vmp, vza, ↓reduceIte, Nat.reduceBEq, Nat.reduceLT, Nat.reduceAdd, Nat.reduceEqDiff, reduceCtorEq, vmt, vzb, vzc, vlen, vleaf, velems, oks, vst, vmd, ty, Nat.reduceLeDiff, Nat.reduceMul, Nat.reduceSub, vzr, m736]
          | true =>
            simp only [vmr, vmw, vmp, vza, ↓reduceIte, Nat.reduceBEq, Nat.reduceLT, Nat.reduceAdd, Nat.reduceEqDiff, reduceCtorEq, vmt, vzb, vzc, vlen, vleaf, velems, oks, vst, vmd, ty, Nat.reduceLeDiff, Nat.reduceMul, Nat.reduceSub, m736, q, q2, n115, n116, n101, n46, show ((0 : Int) ≤ 1) = True from eq_true (by decide), show Int.toNat 1 = 1 from rfl]
            refine a1 (by simp; omega) _ _ ?_ ?_ (fun s' h => ?_) (fun s' h e => ?_)
            case refine_3 =>
              rw [h]
              simp only [vmr, vmw, vmp, vza, ↓reduceIte, Nat.reduceBEq, Nat.reduceLT, Nat.reduceAdd, Nat.reduceEqDiff, reduceCtorEq, vmt, vzb, vzc, vlen, vleaf, velems, oks, vst, vmd, ty, Nat.reduceLeDiff, Nat.reduceMul, Nat.reduceSub, m736]
              unfold P736
              simp only [vmr, vmw, vmp, vza, ↓reduceIte, Nat.reduceBEq, Nat.reduceLT, Nat.reduceAdd, Nat.reduceEqDiff, reduceCtorEq, vmt, vzb, vzc, vlen, vleaf, velems, oks, vst, vmd, ty, Nat.reduceLeDiff, Nat.reduceMul, Nat.reduceSub, vzr, m736]
            case refine_4 =>
              rw [h]
              unfold P736
              simp only [vmr, vmw, vmp, vza, ↓reduceIte, Nat.reduceBEq, Nat.reduceLT, Nat.reduceAdd, Nat.reduceEqDiff, reduceCtorEq, vmt, vzb, vzc, vlen, vleaf, velems, oks, vst, vmd, ty, Nat.reduceLeDiff, Nat.reduceMul, Nat.reduceSub, vzr, m736, e]
            all_goals simp only [vmr, vmw, vmp, vza, ↓reduceIte, Nat.reduceBEq, Nat.reduceLT, Nat.reduceAdd, Nat.reduceEqDiff, reduceCtorEq, vmt, vzb, vzc, vlen, vleaf, velems, oks, vst, vmd, ty, Nat.reduceLeDiff, Nat.reduceMul, Nat.reduceSub, m736, show ((2 : Nat) : Int) = 2 from rfl]
      · have q2 : (((r.length + 1 + 1 : Nat) : Int) > 42) = True := eq_true (by omega)
        rw [decide_eq_false h2]
        simp only [vmr, vmw, vmp, vza, ↓reduceIte, Nat.reduceBEq, Nat.reduceLT, Nat.reduceAdd, Nat.reduceEqDiff, reduceCtorEq, vmt, vzb, vzc, vlen, vleaf, velems, oks, vst, vmd, ty, Nat.reduceLeDiff, Nat.reduceMul, Nat.reduceSub, m736, q, q2]
        unfold P736
        simp only [vmr, vmw, vmp, vza, ↓reduceIte, Nat.reduceBEq, Nat.reduceLT, Nat.reduceAdd, Nat.reduceEqDiff, reduceCtorEq, vmt, vzb, vzc, vlen, vleaf, velems, oks, vst, vmd, ty, Nat.reduceLeDiff, Nat.reduceMul, Nat.reduceSub, vzr, m736]
noncomputable def F36 : List V → Option V := hF (α := List UInt8) (fun a => [.str a]) (fun a => a.length ≤ 1000000000000000) (fun a => .bool (varO a))
theorem F36_eq {a : List UInt8} (ha : a.length ≤ 1000000000000000) : F36 [.str a] = some (.bool (varO a)) := hF_eq (a := a) (one_inj' fun _ _ => Str_inj) rfl ha
theorem F36_sound : ∀ args v, F36 args = some v → SoundPure Tryz.prog 74 args (.ret v) := hF_sound fun p hp => w36 p hp
noncomputable def F34 : List V → Option V := hF (α := List UInt8) (fun a => [.str a]) (fun a => a.length ≤ 1000000000000000) (fun a => varR (varB a))
theorem F34_eq {a : List UInt8} (ha : a.length ≤ 1000000000000000) : F34 [.str a] = some (varR (varB a)) := hF_eq (a := a) (one_inj' fun _ _ => Str_inj) rfl ha
theorem F34_sound : ∀ args v, F34 args = some v → SoundPure Tryz.prog 50 args (.ret v) := hF_sound fun p hp => w34 p hp

/-! ### fits -/
/-- May a result stand for a variable of a kind? -/
def fitsB (k : Int) (l : List Tm) : Bool := if k = 7 then true else match l with
  | [.mk k' _ _] => if k = 5 then isSy k' || (k' == 5) else !(k' == 7) && !(k' == 8)
  | _ => false
theorem Tm_cases (l : List Tm) : (∃ k s c, l = [.mk k s c]) ∨ (l.length ≠ 1 ∧ ((l.length : Int) != 1) = true ∧ ∀ k, k ≠ 7 → fitsB k l = false) := by
  match l with
  | [] => exact .inr ⟨by simp, rfl, fun k h => by unfold fitsB; rw [if_neg h]⟩
  | [.mk k s c] => exact .inl ⟨k, s, c, rfl⟩
  | x :: y :: r => exact .inr ⟨by simp, by simp; omega, fun k h => by unfold fitsB; rw [if_neg h]; cases x; rfl⟩
theorem w35 (k : Int) (s : List UInt8) (c : List Tm) (l : List Tm) (hl : ∀ k s c, l = [.mk k s c] → s.length ≤ 1000000000000000) : SoundPure Tryz.prog 69 [tmv k s c, Ts l] (.ret (.bool (fitsB k l))) := by
  refine s735 (H := [(94, FisSy)]) (sound_cons F64_sound sound_nil) 1 (by simp) rfl ?_
  simp only [c735, Tryz.f69, gets, sub]
  by_cases k7 : k = 7
  · subst k7
    unfold fitsB
    simp only [if_true]
    simp only [vmr, vmw, vmp, vza, ↓reduceIte, Nat.reduceBEq, Nat.reduceLT, Nat.reduceAdd, Nat.reduceEqDiff, reduceCtorEq, vmt, vzb, vzc, vlen, vleaf, velems, oks, vst, vmd, ty, Nat.reduceLeDiff, Nat.reduceMul, Nat.reduceSub, vzr, m735, Int.reduceBEq]
  · have k7' : (k == 7) = false := by simpa using k7
    rcases Tm_cases l with ⟨k', s', c', rfl⟩ | ⟨_, hn, hf⟩
    · have e := Ftm_eq (f := fun k _ => .bool (isSy k)) k' c' (hl _ _ _ rfl)
      have hm : tv (.mk k' s' c') = .agg [I k', .str s', Ts c'] := tv_mk _ _ _
      have n1 : ((1 : Int) != 1) = false := rfl
      unfold fitsB
      simp only [if_neg k7, List.map_cons, List.map_nil, hm]
      by_cases k5 : k = 5
      · subst k5
        simp only [if_true]
        cases h : isSy k' with
        | true =>
          rw [h] at e
          simp only [vmr, vmw, vmp, vza, ↓reduceIte, Nat.reduceBEq, Nat.reduceLT, Nat.reduceAdd, Nat.reduceEqDiff, reduceCtorEq, vmt, vzb, vzc, vlen, vleaf, velems, oks, vst, vmd, ty, Nat.reduceLeDiff, Nat.reduceMul, Nat.reduceSub, vzr, m735, k7', Int.reduceBEq, n1, hm, e]
        | false =>
          rw [h] at e
          simp only [vmr, vmw, vmp, vza, ↓reduceIte, Nat.reduceBEq, Nat.reduceLT, Nat.reduceAdd, Nat.reduceEqDiff, reduceCtorEq, vmt, vzb, vzc, vlen, vleaf, velems, oks, vst, vmd, ty, Nat.reduceLeDiff, Nat.reduceMul, Nat.reduceSub, vzr, m735, k7', Int.reduceBEq, n1, hm, e]
      · have k5' : (k == 5) = false := by simpa using k5
        simp only [if_neg k5]
        have b7 : (k' != 7) = !(k' == 7) := rfl
        have b8 : (k' != 8) = !(k' == 8) := rfl
        cases h7 : k' == 7 with
        | true =>
          rw [h7] at b7
          simp only [vmr, vmw, vmp, vza, ↓reduceIte, Nat.reduceBEq, Nat.reduceLT, Nat.reduceAdd, Nat.reduceEqDiff, reduceCtorEq, vmt, vzb, vzc, vlen, vleaf, velems, oks, vst, vmd, ty, Nat.reduceLeDiff, Nat.reduceMul, Nat.reduceSub, vzr, m735, k7', k5', n1, hm, b7]
        | false =>
          rw [h7] at b7
          simp only [vmr, vmw, vmp, vza, ↓reduceIte, Nat.reduceBEq, Nat.reduceLT, Nat.reduceAdd, Nat.reduceEqDiff, reduceCtorEq, vmt, vzb, vzc, vlen, vleaf, velems, oks, vst, vmd, ty, Nat.reduceLeDiff, Nat.reduceMul, Nat.reduceSub, vzr, m735, k7', k5', n1, hm, b7, b8]
    · rw [hf k k7]
      simp only [vmr, vmw, vmp, vza, ↓reduceIte, Nat.reduceBEq, Nat.reduceLT, Nat.reduceAdd, Nat.reduceEqDiff, reduceCtorEq, vmt, vzb, vzc, vlen, vleaf, velems, oks, vst, vmd, ty, Nat.reduceLeDiff, Nat.reduceMul, Nat.reduceSub, vzr, m735, k7', hn]
theorem w38 (x : UInt8) (r : List UInt8) (l : List Tm) (hx : 0 ≤ idx3 x) (hl : ∀ k s c, l = [.mk k s c] → s.length ≤ 1000000000000000) : SoundPure Tryz.prog 75 [.str (x :: r), Ts l] (.ret (.bool (fitsB (5 + idx3 x) l))) := by
  refine s738 (H := [(96, FisSy)]) (sound_cons F65_sound sound_nil) 1 (by simp) rfl ?_
  simp only [c738, Tryz.f75, gets, sub]
  have g1 : (((x.toNat : Int)) == 101) = decide (5 + idx3 x = 7) := by
    unfold idx3 at hx ⊢
    rw [Bool.eq_iff_iff, beq_iff_eq, decide_eq_true_iff]
    split
    · rename_i h; subst h; decide
    · split
      · rename_i h; subst h; decide
      · split
        · rename_i h; subst h; decide
        · simp_all
  have g2 : (((x.toNat : Int)) == 115) = decide (5 + idx3 x = 5) := by
    unfold idx3 at hx ⊢
    rw [Bool.eq_iff_iff, beq_iff_eq, decide_eq_true_iff]
    split
    · rename_i h; subst h; decide
    · split
      · rename_i h; subst h; decide
      · split
        · rename_i h; subst h; decide
        · simp_all
  generalize 5 + idx3 x = k at *
  by_cases k7 : k = 7
  · rw [decide_eq_true k7] at g1
    unfold fitsB
    rw [if_pos k7]
    simp only [vmr, vmw, vmp, vza, ↓reduceIte, Nat.reduceBEq, Nat.reduceLT, Nat.reduceAdd, Nat.reduceEqDiff, reduceCtorEq, vmt, vzb, vzc, vlen, vleaf, velems, oks, vst, vmd, ty, Nat.reduceLeDiff, Nat.reduceMul, Nat.reduceSub, vzr, m738, g1]
  · rw [decide_eq_false k7] at g1
    rcases Tm_cases l with ⟨k', s', c', rfl⟩ | ⟨_, hn, hf⟩
    · have e := Ftm_eq (f := fun k _ => .bool (isSy k)) k' c' (hl _ _ _ rfl)
      have hm : tv (.mk k' s' c') = .agg [I k', .str s', Ts c'] := tv_mk _ _ _
      have n1 : ((1 : Int) != 1) = false := rfl
      unfold fitsB
      simp only [if_neg k7, List.map_cons, List.map_nil, hm]
      by_cases k5 : k = 5
      · rw [decide_eq_true k5] at g2
        simp only [if_pos k5]
        cases h : isSy k' with
        | true =>
          rw [h] at e
          simp only [vmr, vmw, vmp, vza, ↓reduceIte, Nat.reduceBEq, Nat.reduceLT, Nat.reduceAdd, Nat.reduceEqDiff, reduceCtorEq, vmt, vzb, vzc, vlen, vleaf, velems, oks, vst, vmd, ty, Nat.reduceLeDiff, Nat.reduceMul, Nat.reduceSub, vzr, m738, g1, g2, n1, hm, e]
        | false =>
          rw [h] at e
          simp only [vmr, vmw, vmp, vza, ↓reduceIte, Nat.reduceBEq, Nat.reduceLT, Nat.reduceAdd, Nat.reduceEqDiff, reduceCtorEq, vmt, vzb, vzc, vlen, vleaf, velems, oks, vst, vmd, ty, Nat.reduceLeDiff, Nat.reduceMul, Nat.reduceSub, vzr, m738, g1, g2, n1, hm, e]
      · rw [decide_eq_false k5] at g2
        simp only [if_neg k5]
        have b7 : (k' != 7) = !(k' == 7) := rfl
        have b8 : (k' != 8) = !(k' == 8) := rfl
        cases h7 : k' == 7 with
        | true =>
          rw [h7] at b7
          simp only [vmr, vmw, vmp, vza, ↓reduceIte, Nat.reduceBEq, Nat.reduceLT, Nat.reduceAdd, Nat.reduceEqDiff, reduceCtorEq, vmt, vzb, vzc, vlen, vleaf, velems, oks, vst, vmd, ty, Nat.reduceLeDiff, Nat.reduceMul, Nat.reduceSub, vzr, m738, g1, g2, n1, hm, b7]
        | false =>
          rw [h7] at b7
          simp only [vmr, vmw, vmp, vza, ↓reduceIte, Nat.reduceBEq, Nat.reduceLT, Nat.reduceAdd, Nat.reduceEqDiff, reduceCtorEq, vmt, vzb, vzc, vlen, vleaf, velems, oks, vst, vmd, ty, Nat.reduceLeDiff, Nat.reduceMul, Nat.reduceSub, vzr, m738, g1, g2, n1, hm, b7, b8]
    · rw [hf k k7]
      simp only [vmr, vmw, vmp, vza, ↓reduceIte, Nat.reduceBEq, Nat.reduceLT, Nat.reduceAdd, Nat.reduceEqDiff, reduceCtorEq, vmt, vzb, vzc, vlen, vleaf, velems, oks, vst, vmd, ty, Nat.reduceLeDiff, Nat.reduceMul, Nat.reduceSub, vzr, m738, g1, hn]
def fitOk (l : List Tm) : Prop := ∀ k s c, l = [.mk k s c] → s.length ≤ 1000000000000000
noncomputable def F35 : List V → Option V := hF (α := (Int × List UInt8 × List Tm) × List Tm) (fun p => [tmv p.1.1 p.1.2.1 p.1.2.2, Ts p.2]) (fun p => fitOk p.2) (fun p => .bool (fitsB p.1.1 p.2))
theorem F35_nil {k : Int} {s : List UInt8} {l : List Tm} (hl : fitOk l) : F35 [.agg [I k, .str s, .nilS], Ts l] = some (.bool (fitsB k l)) :=
  hF_eq (a := ((k, s, []), l)) (fun a b h => by
    injection h with h1 h2
    injection h2 with h2
    have := tmv_inj (show [tmv a.1.1 a.1.2.1 a.1.2.2] = [tmv b.1.1 b.1.2.1 b.1.2.2] by rw [h1])
    exact Prod.ext this (Ts_inj h2)) (by show [tmv k s [], can (Ts l)] = _; rw [can_Ts]) hl
theorem F35_sound : ∀ args v, F35 args = some v → SoundPure Tryz.prog 69 args (.ret v) := hF_sound fun p hp => w35 _ _ _ _ hp
noncomputable def F38 : List V → Option V := hF (α := (UInt8 × List UInt8) × List Tm) (fun p => [.str (p.1.1 :: p.1.2), Ts p.2]) (fun p => 0 ≤ idx3 p.1.1 ∧ fitOk p.2) (fun p => .bool (fitsB (5 + idx3 p.1.1) p.2))
theorem F38_eq {x : UInt8} {r : List UInt8} {l : List Tm} (hx : 0 ≤ idx3 x) (hl : fitOk l) : F38 [.str (x :: r), Ts l] = some (.bool (fitsB (5 + idx3 x) l)) :=
  hF_eq (a := ((x, r), l)) (fun a b h => by
    injection h with h1 h2
    injection h2 with h2
    have h1 := Str_inj h1
    injection h1 with h1 h3
    exact Prod.ext (Prod.ext h1 h3) (Ts_inj h2)) (by simp only [cans, canStr, can_Ts]) ⟨hx, hl⟩
theorem F38_sound : ∀ args v, F38 args = some v → SoundPure Tryz.prog 75 args (.ret v) := hF_sound fun p hp => w38 _ _ _ hp.1 hp.2
end Go.Vi
set_option maxRecDepth 100000
set_option maxHeartbeats 1000000
namespace Go.Vi
open Go Go.Proofs

def seenE (L : List (List UInt8)) : List (V × V) := L.map fun x => (.str x, .bool true)
theorem keyEq_str (a b : List UInt8) : keyEq (.str a) (.str b) = some (a == b) := rfl
theorem seen_find (x : List UInt8) : ∀ (L : List (List UInt8)) (i : Nat), (L.contains x = true ∧ ∃ j, mfind (.str x) (seenE L) i = some (some (j, .bool true))) ∨ (L.contains x = false ∧ mfind (.str x) (seenE L) i = some none)
  | [], i => .inr ⟨rfl, rfl⟩
  | y :: r, i => by
    simp only [seenE, List.map_cons, mfind, keyEq_str, List.contains_cons]
    cases h : x == y with
    | true => exact .inl ⟨rfl, i, rfl⟩
    | false =>
      rw [Bool.false_or]
      exact seen_find x r (i + 1)
/-- No text of a binding is longer than memory. -/
def bok (b : Bn) : Prop := b.x.length ≤ 1000000000000000 ∧ szs b.e ≤ 1000000 ∧ txs b.e
theorem fitOk_of {l : List Tm} (h : txs l) : fitOk l := fun k s c e => by subst e; simp only [txs, txt1] at h; exact h.1.1
/-- The error of bindings behind others with some names. -/
def chkL : List (List UInt8) → List Bn → Int
  | _, [] => 0
  | L, b :: r => match varB b.x with
    | none => 90
    | some (k, _) => if L.contains b.x = true then 10 else if errB 8 b.e ≠ 0 then errB 8 b.e else if fitsB k b.e = true then chkL (L ++ [b.x]) r else 90
noncomputable abbrev T714 : List (FuncId × (List V → Option V)) := [(29, Fres), (50, F34), (69, F35)]
theorem h714 : SoundHand Tryz.prog (hand T714) := sound_cons F17_sound (sound_cons F34_sound (sound_cons F35_sound sound_nil))
def P714 (n : Nat) (v : V) (r : Option (Ex × St)) : Prop := Fin (M714 (hand T714) n) [.tmp 2] r = some (.ret v)
theorem l714 {n k v} (a : List Bn) (ha : a.length ≤ 1000000) (hb : ∀ b ∈ a, bok b) : ∀ r i W v3 n' s, a.drop i = r → r.length < n' → tget s.τ 13 = Bs a → tget s.τ 14 = I a.length → tget s.τ 15 = I (i : Nat) → tget s.τ 3 = .mref ⟨0, 3, 0⟩ v3 → lget s.L (3, 0) = some (v3, .map (seenE W)) →
    I (chkL W r) = v → (∀ s', v = I 0 → P714 n v (X (M714 (hand T714) n) (.exit 0) k s')) →
    P714 n v (L (M714 (hand T714) n) (sub [1, 1, 1, 0, 1, 0, 0] c714) n' k s)
  | [], i, W, v3, n' + 1, s, hi, hn, h13, h14, h15, h3, h3', hv, hx => by
    have hc := inlt (drop_nil' hi)
    rw [L_succ]
    simp only [vmr, vmw, vmp, vza, ↓reduceIte, Nat.reduceBEq, Nat.reduceLT, Nat.reduceAdd, Nat.reduceEqDiff, reduceCtorEq, vmt, vzb, vzc, vlen, vleaf, velems, oks, vst, vmd, ty, Nat.reduceLeDiff, Nat.reduceMul, Nat.reduceSub, c714, Tryz.f39, m714, h13, h14, h15, hc]
    exact hx _ hv.symm
  | b :: r, i, W, v3, n' + 1, s, hi, hn, h13, h14, h15, h3, h3', hv, hx => by
    obtain ⟨g1, g2, g3⟩ := drop_cons hi
    have hcl := ilt g3
    have ga : (a.map Bn.v)[i]? = some (.agg [.str b.x, Ts b.e]) := by rw [List.getElem?_map, g1, Option.map_some, Bn.v]
    obtain ⟨b1, b2, b3⟩ := hb b (List.mem_of_getElem? g1)
    have w4 := wsuc g3 (by omega)
    have e1 := F34_eq b1
    have e2 := Fres_eq b2 b3
    have e3 := fun k s => F35_nil (k := k) (s := s) (fitOk_of b3)
    have ih := fun W v3 s => l714 (n := n) (k := k) (v := v) a ha hb r (i + 1) W v3 n' s g2 (by simp at hn; omega)
    simp only [sub, c714, Tryz.f39, gets] at ih
    have kok : keyOk Tryz.prog 9 (.str b.x) = true := by kernel_rfl
    rw [L_succ]
    cases hv1 : varB b.x with
    | none =>
      rw [hv1] at e1
      simp only [varR] at e1
      have : I (chkL W (b :: r)) = I 90 := by simp only [chkL, hv1]
      rw [← hv, this]
      simp only [vmr, vmw, vmp, vza, ↓reduceIte, Nat.reduceBEq, Nat.reduceLT, Nat.reduceAdd, Nat.reduceEqDiff, reduceCtorEq, vmt, vzb, vzc, vlen, vleaf, velems, oks, vst, vmd, ty, Nat.reduceLeDiff, Nat.reduceMul, Nat.reduceSub, c714, Tryz.f39, m714, h13, h14, h15, h3, h3', hcl, ga, e1, w4]
      unfold P714
      simp only [vmr, vmw, vmp, vza, ↓reduceIte, Nat.reduceBEq, Nat.reduceLT, Nat.reduceAdd, Nat.reduceEqDiff, reduceCtorEq, vmt, vzb, vzc, vlen, vleaf, velems, oks, vst, vmd, ty, Nat.reduceLeDiff, Nat.reduceMul, Nat.reduceSub, vzr, m714]
    | some q =>
      obtain ⟨kk, tt⟩ := q
      rw [hv1] at e1
      simp only [varR] at e1
      have hq : chkL W (b :: r) = if W.contains b.x = true then 10 else if errB 8 b.e ≠ 0 then errB 8 b.e else if fitsB kk b.e = true then chkL (W ++ [b.x]) r else 90 := by simp only [chkL, hv1]
      rcases seen_find b.x W 0 with ⟨hL, j, hf⟩ | ⟨hL, hf⟩
      · rw [← hv, hq, if_pos hL]
        simp only [vmr, vmw, vmp, vza, ↓reduceIte, Nat.reduceBEq, Nat.reduceLT, Nat.reduceAdd, Nat.reduceEqDiff, reduceCtorEq, vmt, vzb, vzc, vlen, vleaf, velems, oks, vst, vmd, ty, Nat.reduceLeDiff, Nat.reduceMul, Nat.reduceSub, c714, Tryz.f39, m714, h13, h14, h15, h3, h3', hcl, ga, e1, w4, mapGet, kok, hf]
        unfold P714
        simp only [vmr, vmw, vmp, vza, ↓reduceIte, Nat.reduceBEq, Nat.reduceLT, Nat.reduceAdd, Nat.reduceEqDiff, reduceCtorEq, vmt, vzb, vzc, vlen, vleaf, velems, oks, vst, vmd, ty, Nat.reduceLeDiff, Nat.reduceMul, Nat.reduceSub, vzr, m714]
      · have hm : mput (.str b.x) (.bool true) (seenE W) = some (seenE (W ++ [b.x])) := by
          unfold mput
          rw [hf]
          simp [seenE]
        rw [hL, if_neg (by simp)] at hq
        by_cases q1 : errB 8 b.e = 0
        · have n1 : ((0 : Int) != 0) = false := rfl
          rw [q1] at e2
          rw [if_neg (by simp [q1])] at hq
          cases q2 : fitsB kk b.e with
          | false =>
            have e3 := e3 kk tt
            rw [q2] at e3
            rw [← hv, hq, q2]
            simp only [vmr, vmw, vmp, vza, ↓reduceIte, Nat.reduceBEq, Nat.reduceLT, Nat.reduceAdd, Nat.reduceEqDiff, reduceCtorEq, vmt, vzb, vzc, vlen, vleaf, velems, oks, vst, vmd, ty, Nat.reduceLeDiff, Nat.reduceMul, Nat.reduceSub, c714, Tryz.f39, m714, h13, h14, h15, h3, h3', hcl, ga, e1, e2, e3, w4, mapGet, mapPut, kok, hf, hm, n1, Bool.false_eq_true, if_false]
            unfold P714
            simp only [vmr, vmw, vmp, vza, ↓reduceIte, Nat.reduceBEq, Nat.reduceLT, Nat.reduceAdd, Nat.reduceEqDiff, reduceCtorEq, vmt, vzb, vzc, vlen, vleaf, velems, oks, vst, vmd, ty, Nat.reduceLeDiff, Nat.reduceMul, Nat.reduceSub, vzr, m714]
          | true =>
            have e3 := e3 kk tt
            rw [q2] at e3
            rw [q2, if_pos rfl] at hq
            simp only [vmr, vmw, vmp, vza, ↓reduceIte, Nat.reduceBEq, Nat.reduceLT, Nat.reduceAdd, Nat.reduceEqDiff, reduceCtorEq, vmt, vzb, vzc, vlen, vleaf, velems, oks, vst, vmd, ty, Nat.reduceLeDiff, Nat.reduceMul, Nat.reduceSub, c714, Tryz.f39, m714, h13, h14, h15, h3, h3', hcl, ga, e1, e2, e3, w4, mapGet, mapPut, kok, hf, hm, n1]
            refine ih (W ++ [b.x]) v3 _ ?_ ?_ ?_ ?_ ?_ (by rw [← hq]; exact hv) hx
            all_goals simp only [vmr, vmw, vmp, vza, ↓reduceIte, Nat.reduceBEq, Nat.reduceLT, Nat.reduceAdd, Nat.reduceEqDiff, reduceCtorEq, vmt, vzb, vzc, vlen, vleaf, velems, oks, vst, vmd, ty, Nat.reduceLeDiff, Nat.reduceMul, Nat.reduceSub, m714, h13, h14, h3, h3']
        · have n1 : (errB 8 b.e != 0) = true := by simpa using q1
          rw [if_pos q1] at hq
          rw [← hv, hq]
          simp only [vmr, vmw, vmp, vza, ↓reduceIte, Nat.reduceBEq, Nat.reduceLT, Nat.reduceAdd, Nat.reduceEqDiff, reduceCtorEq, vmt, vzb, vzc, vlen, vleaf, velems, oks, vst, vmd, ty, Nat.reduceLeDiff, Nat.reduceMul, Nat.reduceSub, c714, Tryz.f39, m714, h13, h14, h15, h3, h3', hcl, ga, e1, e2, w4, mapGet, mapPut, kok, hf, hm, n1]
          unfold P714
          simp only [vmr, vmw, vmp, vza, ↓reduceIte, Nat.reduceBEq, Nat.reduceLT, Nat.reduceAdd, Nat.reduceEqDiff, reduceCtorEq, vmt, vzb, vzc, vlen, vleaf, velems, oks, vst, vmd, ty, Nat.reduceLeDiff, Nat.reduceMul, Nat.reduceSub, vzr, m714]
/-- The error of a substitution. -/
def chkB (l : List Bn) : Int := if l.length > 4000 then 5 else chkL [] l
def bnsOk (l : List Bn) : Prop := l.length ≤ 1000000 ∧ ∀ b ∈ l, bok b
theorem w14 (a : List Bn) (h : bnsOk a) : SoundPure Tryz.prog 39 [Bs a] (.ret (I (chkB a))) := by
  refine s714 h714 (a.length + 1) (by simp) rfl ?_
  show P714 _ _ _
  unfold chkB
  have a1 := fun v v3 k s => @l714 (a.length + 1) k v a h.1 h.2 a 0 [] v3 (a.length + 1) s rfl (by omega)
  simp only [c714, Tryz.f39, gets, sub] at a1 ⊢
  by_cases q1 : a.length > 4000
  · have q1' : ((a.length : Int) > 4000) = True := eq_true (by omega)
    rw [if_pos q1]
    simp only [vmr, vmw, vmp, vza, ↓reduceIte, Nat.reduceBEq, Nat.reduceLT, Nat.reduceAdd, Nat.reduceEqDiff, reduceCtorEq, vmt, vzb, vzc, vlen, vleaf, velems, oks, vst, vmd, ty, Nat.reduceLeDiff, Nat.reduceMul, Nat.reduceSub, m714, q1']
    unfold P714
    simp only [vmr, vmw, vmp, vza, ↓reduceIte, Nat.reduceBEq, Nat.reduceLT, Nat.reduceAdd, Nat.reduceEqDiff, reduceCtorEq, vmt, vzb, vzc, vlen, vleaf, velems, oks, vst, vmd, ty, Nat.reduceLeDiff, Nat.reduceMul, Nat.reduceSub, vzr, m714]
  · have q1' : ((a.length : Int) > 4000) = False := eq_false (by omega)
    rw [if_neg q1]
    simp only [vmr, vmw, vmp, vza, ↓reduceIte, Nat.reduceBEq, Nat.reduceLT, Nat.reduceAdd, Nat.reduceEqDiff, reduceCtorEq, vmt, vzb, vzc, vlen, vleaf, velems, oks, vst, vmd, ty, Nat.reduceLeDiff, Nat.reduceMul, Nat.reduceSub, m714, q1', newMap]
    refine a1 _ 1 _ _ ?_ ?_ ?_ ?_ ?_ rfl (fun s' e => ?_)
    case refine_4 => simp only [vmr, vmw, vmp, vza, ↓reduceIte, Nat.reduceBEq, Nat.reduceLT, Nat.reduceAdd, Nat.reduceEqDiff, reduceCtorEq, vmt, vzb, vzc, vlen, vleaf, velems, oks, vst, vmd, ty, Nat.reduceLeDiff, Nat.reduceMul, Nat.reduceSub, m714]
    case refine_5 => simp only [vmr, vmw, vmp, vza, ↓reduceIte, Nat.reduceBEq, Nat.reduceLT, Nat.reduceAdd, Nat.reduceEqDiff, reduceCtorEq, vmt, vzb, vzc, vlen, vleaf, velems, oks, vst, vmd, ty, Nat.reduceLeDiff, Nat.reduceMul, Nat.reduceSub, m714]; rfl
    case refine_6 =>
      rw [e]
      simp only [vmr, vmw, vmp, vza, ↓reduceIte, Nat.reduceBEq, Nat.reduceLT, Nat.reduceAdd, Nat.reduceEqDiff, reduceCtorEq, vmt, vzb, vzc, vlen, vleaf, velems, oks, vst, vmd, ty, Nat.reduceLeDiff, Nat.reduceMul, Nat.reduceSub, m714]
      unfold P714
      simp only [vmr, vmw, vmp, vza, ↓reduceIte, Nat.reduceBEq, Nat.reduceLT, Nat.reduceAdd, Nat.reduceEqDiff, reduceCtorEq, vmt, vzb, vzc, vlen, vleaf, velems, oks, vst, vmd, ty, Nat.reduceLeDiff, Nat.reduceMul, Nat.reduceSub, vzr, m714]
    all_goals simp only [vmr, vmw, vmp, vza, ↓reduceIte, Nat.reduceBEq, Nat.reduceLT, Nat.reduceAdd, Nat.reduceEqDiff, reduceCtorEq, vmt, vzb, vzc, vlen, vleaf, velems, oks, vst, vmd, ty, Nat.reduceLeDiff, Nat.reduceMul, Nat.reduceSub, m714]
noncomputable def Fchk : List V → Option V := hF (α := List Bn) (fun p => [Bs p]) bnsOk (fun p => I (chkB p))
theorem Fchk_eq {a : List Bn} (h : bnsOk a) : Fchk [Bs a] = some (I (chkB a)) := hF_eq (a := a) (one_inj' fun _ _ => Bs_inj) (by simp only [cans, can_Bs]) h
theorem F14_sound : ∀ args v, Fchk args = some v → SoundPure Tryz.prog 39 args (.ret v) := hF_sound fun p hp => w14 p hp
end Go.Vi
set_option maxRecDepth 100000
set_option maxHeartbeats 1000000
namespace Go.Vi
open Go Go.Proofs

/-- The first value of a name. -/
def findB (x : List UInt8) : List Bn → Option (List Tm)
  | [] => none
  | b :: r => if b.x == x then some b.e else findB x r
def findR : Option (List Tm) → V
  | some e => .tup [.own 3 (e.map tv), .bool true]
  | none => .tup [.nilS, .bool false]
def P737 (n : Nat) (v : V) (r : Option (Ex × St)) : Prop := Fin (M737 (hand []) n) [.tmp 4, .tmp 5] r = some (.ret v)
theorem room35 {n : Nat} (h : n ≤ 2000000) : roomOk Tryz.prog 52 n = true := by simp [roomOk, ty, cellsV, leafV]; omega
theorem fits35 (t : Tm) : fitsE Tryz.prog 52 (tv t) = true := by cases t; simp [tv_mk, fitsE, ty, leafV]
theorem fits35s : ∀ l : List Tm, (l.map tv).all (fitsE Tryz.prog 52) = true
  | [] => rfl
  | t :: r => by simp only [List.map_cons, List.all_cons, fits35, fits35s r, Bool.and_self]
theorem l737 {n k v} {x : List UInt8} (a : List Bn) (ha : a.length ≤ 1000000) (hb : ∀ b ∈ a, bok b) : ∀ r i n' s, a.drop i = r → r.length < n' → tget s.τ 0 = Bs a → tget s.τ 1 = .str x → tget s.τ 6 = I (i : Nat) →
    findR (findB x r) = v → (∀ s', v = findR none → P737 n v (X (M737 (hand []) n) (.exit 0) k s')) →
    P737 n v (L (M737 (hand []) n) (sub [1, 0, 1, 0, 0] c737) n' k s)
  | [], i, n' + 1, s, hi, hn, h0, h1, h6, hv, hx => by
    have hc := inlt (drop_nil' hi)
    rw [L_succ]
    simp only [vmr, vmw, vmp, vza, ↓reduceIte, Nat.reduceBEq, Nat.reduceLT, Nat.reduceAdd, Nat.reduceEqDiff, reduceCtorEq, vmt, vzb, vzc, vlen, vleaf, velems, oks, vst, vmd, ty, Nat.reduceLeDiff, Nat.reduceMul, Nat.reduceSub, c737, Tryz.f45, m737, h0, h1, h6, hc]
    exact hx _ hv.symm
  | b :: r, i, n' + 1, s, hi, hn, h0, h1, h6, hv, hx => by
    obtain ⟨g1, g2, g3⟩ := drop_cons hi
    have hcl := ilt g3
    have ga : (a.map Bn.v)[i]? = some (.agg [.str b.x, Ts b.e]) := by rw [List.getElem?_map, g1, Option.map_some, Bn.v]
    obtain ⟨b1, b2, b3⟩ := hb b (List.mem_of_getElem? g1)
    have w4 := wsuc g3 (by omega)
    have ih := fun s => l737 (n := n) (k := k) (v := v) (x := x) a ha hb r (i + 1) n' s g2 (by simp at hn; omega)
    simp only [sub, c737, Tryz.f45, gets] at ih
    rw [L_succ]
    cases hq : b.x == x with
    | false =>
      rw [findB, hq, if_neg (by simp)] at hv
      simp only [vmr, vmw, vmp, vza, ↓reduceIte, Nat.reduceBEq, Nat.reduceLT, Nat.reduceAdd, Nat.reduceEqDiff, reduceCtorEq, vmt, vzb, vzc, vlen, vleaf, velems, oks, vst, vmd, ty, Nat.reduceLeDiff, Nat.reduceMul, Nat.reduceSub, c737, Tryz.f45, m737, h0, h1, h6, hcl, ga, strOp, hq, w4]
      refine ih _ ?_ ?_ ?_ hv hx
      all_goals simp only [vmr, vmw, vmp, vza, ↓reduceIte, Nat.reduceBEq, Nat.reduceLT, Nat.reduceAdd, Nat.reduceEqDiff, reduceCtorEq, vmt, vzb, vzc, vlen, vleaf, velems, oks, vst, vmd, ty, Nat.reduceLeDiff, Nat.reduceMul, Nat.reduceSub, m737, h0, h1]
    | true =>
      rw [findB, hq, if_pos rfl] at hv
      rw [← hv]
      have hl := szs_len b.e
      have hr := @room35 b.e.length (by omega)
      have hr0 := @room35 0 (by omega)
      have hf := fits35s b.e
      simp only [vmr, vmw, vmp, vza, ↓reduceIte, Nat.reduceBEq, Nat.reduceLT, Nat.reduceAdd, Nat.reduceEqDiff, reduceCtorEq, vmt, vzb, vzc, vlen, vleaf, velems, oks, vst, vmd, ty, Nat.reduceLeDiff, Nat.reduceMul, Nat.reduceSub, c737, Tryz.f45, m737, h0, h1, h6, hcl, ga, strOp, hq, w4, hr, hr0, hf]
      unfold P737 findR
      simp only [vmr, vmw, vmp, vza, ↓reduceIte, Nat.reduceBEq, Nat.reduceLT, Nat.reduceAdd, Nat.reduceEqDiff, reduceCtorEq, vmt, vzb, vzc, vlen, vleaf, velems, oks, vst, vmd, ty, Nat.reduceLeDiff, Nat.reduceMul, Nat.reduceSub, vzr, m737, take_len]
def findI : Option (List Tm) → V
  | some e => .tup [Ts e, .bool true]
  | none => .tup [Ts [], .bool false]
theorem pureLT : ∀ l : List Tm, pureRL (l.map tv) = true
  | [] => rfl
  | .mk k s c :: r => by simp only [List.map_cons, pureRL, tv_mk, pureR, pureLT r, Bool.and_self]
theorem findR_pure (o : Option (List Tm)) : pureR (findR o) = true := by cases o <;> simp only [findR, pureR, pureRL, pureLT, Bool.and_self]
theorem w37 (a : List Bn) (x : List UInt8) (h : bnsOk a) : SoundPure Tryz.prog 45 [Bs a, .str x] (.ret (findR (findB x a))) := by
  refine s737 (H := []) sound_nil (a.length + 1) (by simp) (findR_pure _) ?_
  show P737 _ _ _
  have a1 := fun k s => @l737 (a.length + 1) k (findR (findB x a)) x a h.1 h.2 a 0 (a.length + 1) s rfl (by omega)
  simp only [c737, Tryz.f45, gets, sub] at a1 ⊢
  simp only [vmr, vmw, vmp, vza, ↓reduceIte, Nat.reduceBEq, Nat.reduceLT, Nat.reduceAdd, Nat.reduceEqDiff, reduceCtorEq, vmt, vzb, vzc, vlen, vleaf, velems, oks, vst, vmd, ty, Nat.reduceLeDiff, Nat.reduceMul, Nat.reduceSub, m737]
  refine a1 _ _ ?_ ?_ ?_ (by first | trivial | rfl) (fun s' e => ?_)
  case refine_4 =>
    rw [e]
    unfold findR
    simp only [vmr, vmw, vmp, vza, ↓reduceIte, Nat.reduceBEq, Nat.reduceLT, Nat.reduceAdd, Nat.reduceEqDiff, reduceCtorEq, vmt, vzb, vzc, vlen, vleaf, velems, oks, vst, vmd, ty, Nat.reduceLeDiff, Nat.reduceMul, Nat.reduceSub, m737]
    unfold P737
    simp only [vmr, vmw, vmp, vza, ↓reduceIte, Nat.reduceBEq, Nat.reduceLT, Nat.reduceAdd, Nat.reduceEqDiff, reduceCtorEq, vmt, vzb, vzc, vlen, vleaf, velems, oks, vst, vmd, ty, Nat.reduceLeDiff, Nat.reduceMul, Nat.reduceSub, vzr, m737]
  all_goals simp only [vmr, vmw, vmp, vza, ↓reduceIte, Nat.reduceBEq, Nat.reduceLT, Nat.reduceAdd, Nat.reduceEqDiff, reduceCtorEq, vmt, vzb, vzc, vlen, vleaf, velems, oks, vst, vmd, ty, Nat.reduceLeDiff, Nat.reduceMul, Nat.reduceSub, m737]
theorem imms_map {α : Type} {e : α → V} (he : ∀ a, imm (e a) = e a) : ∀ l : List α, immL (l.map e) = l.map e
  | [] => rfl
  | x :: r => by simp only [List.map_cons, immL, he x, imms_map he r]
theorem imm_tv (t : Tm) : imm (tv t) = tv t := by cases t; rw [tv_mk]; rfl
theorem find_imm (o : Option (List Tm)) : can (imm (findR o)) = findI o := by
  cases o with
  | none => rfl
  | some e =>
    show V.tup [can (imm (.own 3 (e.map tv))), .bool true] = _
    have : imm (V.own 3 (e.map tv)) = .lst (e.map tv) := by simp only [imm, imms_map imm_tv]
    rw [this, can_Ts]
    rfl
noncomputable def Ffind : List V → Option V := hF (α := List Bn × List UInt8) (fun p => [Bs p.1, .str p.2]) (fun p => bnsOk p.1) (fun p => findI (findB p.2 p.1))
theorem Ffind_eq {a : List Bn} {x : List UInt8} (h : bnsOk a) : Ffind [Bs a, .str x] = some (findI (findB x a)) := hF_eq (a := (a, x)) (two_inj (fun _ _ => Bs_inj) (fun _ _ => Str_inj)) (by simp only [cans, can_Bs, canStr]) h
theorem F37_sound : ∀ args v, Ffind args = some v → SoundPure Tryz.prog 45 args (.ret v) := hF_sound fun p hp => by
  have := sound_imm (w37 p.1 p.2 hp) (findR_pure _)
  rw [find_imm] at this
  exact this

/-! ### Check -/
theorem find_none (x : List UInt8) : ∀ l : List Bn, (findB x l).isSome = (l.map (·.x)).contains x
  | [] => rfl
  | b :: r => by
    simp only [findB, List.map_cons, List.contains_cons]
    cases h : b.x == x with
    | true =>
      have : b.x = x := by simpa using h
      simp [this]
    | false =>
      have : ¬ x = b.x := fun e => by rw [e] at h; simp at h
      have h2 : (x == b.x) = false := by simpa using this
      rw [h2, Bool.false_or, if_neg (by simp)]
      exact find_none x r
noncomputable abbrev T715 : List (FuncId × (List V → Option V)) := [(33, Fres), (74, F36), (45, Ffind), (75, F38)]
theorem h715 : SoundHand Tryz.prog (hand T715) := sound_cons F31_sound (sound_cons F36_sound (sound_cons F37_sound (sound_cons F38_sound sound_nil)))
def P715 (n : Nat) (v : V) (r : Option (Ex × St)) : Prop := Fin (M715 (hand T715) n) [.tmp 2] r = some (.ret v)
theorem l715 {n k v} (a : List Bn) (ha : a.length ≤ 1000000) (hb : ∀ b ∈ a, bok b) : ∀ r i n' s, a.drop i = r → i ≤ a.length → r.length < n' → tget s.τ 0 = Bs a → tget s.τ 3 = I (i : Nat) →
    I (chkL ((a.take i).map (·.x)) r) = v → (∀ s', v = I 0 → P715 n v (X (M715 (hand T715) n) (.exit 0) k s')) →
    P715 n v (L (M715 (hand T715) n) (sub [1, 1, 0, 1, 0, 0] c715) n' k s)
  | [], i, n' + 1, s, hi, hil, hn, h0, h3, hv, hx => by
    have hc := inlt (drop_nil' hi)
    rw [L_succ]
    simp only [vmr, vmw, vmp, vza, ↓reduceIte, Nat.reduceBEq, Nat.reduceLT, Nat.reduceAdd, Nat.reduceEqDiff, reduceCtorEq, vmt, vzb, vzc, vlen, vleaf, velems, oks, vst, vmd, ty, Nat.reduceLeDiff, Nat.reduceMul, Nat.reduceSub, c715, Tryz.f43, m715, h0, h3, hc]
    exact hx _ hv.symm
  | b :: r, i, n' + 1, s, hi, hil, hn, h0, h3, hv, hx => by
    obtain ⟨g1, g2, g3⟩ := drop_cons hi
    have hcl := ilt g3
    have ga : (a.map Bn.v)[i]? = some (.agg [.str b.x, Ts b.e]) := by rw [List.getElem?_map, g1, Option.map_some, Bn.v]
    obtain ⟨b1, b2, b3⟩ := hb b (List.mem_of_getElem? g1)
    have w4 := wsuc g3 (by omega)
    have e1 := F36_eq b1
    have e2 := Fres_eq b2 b3
    have hbt : bnsOk (a.take i) := ⟨by simp; omega, fun b hb' => hb b (List.mem_of_mem_take hb')⟩
    have e4 := Ffind_eq (x := b.x) hbt
    have etk : Bs (a.take i) = .lst ((a.map Bn.v).take i) := by rw [← List.map_take]
    rw [etk] at e4
    have hfn := find_none b.x (a.take i)
    have htk : (a.take (i + 1)).map (·.x) = (a.take i).map (·.x) ++ [b.x] := by
      rw [List.take_add_one, g1, List.map_append]; rfl
    have hff : firstFits Tryz.prog 57 0 (a.map Bn.v) = true := by simp [firstFits, ty]
    have hds := @d715_8 (hand T715) n
    have hds2 := @d715_14 (hand T715) n
    have ih := fun s => l715 (n := n) (k := k) (v := v) a ha hb r (i + 1) n' s g2 (by omega) (by simp at hn; omega)
    simp only [sub, c715, Tryz.f43, gets, opsAt] at ih hds hds2
    rw [varO_some] at e1
    rw [L_succ]
    generalize (a.take i).map (·.x) = W at hv hfn htk
    cases hv1 : varB b.x with
    | none =>
      rw [hv1] at e1
      have : I (chkL W (b :: r)) = I 90 := by simp only [chkL, hv1]
      rw [← hv, this]
      simp only [vmr, vmw, vmp, vza, ↓reduceIte, Nat.reduceBEq, Nat.reduceLT, Nat.reduceAdd, Nat.reduceEqDiff, reduceCtorEq, vmt, vzb, vzc, vlen, vleaf, velems, oks, vst, vmd, ty, Nat.reduceLeDiff, Nat.reduceMul, Nat.reduceSub, c715, Tryz.f43, m715, h0, h3, hcl, ga, e1, w4, Option.isSome_none]
      unfold P715
      simp only [vmr, vmw, vmp, vza, ↓reduceIte, Nat.reduceBEq, Nat.reduceLT, Nat.reduceAdd, Nat.reduceEqDiff, reduceCtorEq, vmt, vzb, vzc, vlen, vleaf, velems, oks, vst, vmd, ty, Nat.reduceLeDiff, Nat.reduceMul, Nat.reduceSub, vzr, m715]
    | some q =>
      obtain ⟨kk, tt⟩ := q
      rw [hv1] at e1
      have hq : chkL W (b :: r) = if W.contains b.x = true then 10 else if errB 8 b.e ≠ 0 then errB 8 b.e else if fitsB kk b.e = true then chkL (W ++ [b.x]) r else 90 := by simp only [chkL, hv1]
      have hil' : (i ≤ a.length) = True := eq_true hil
      cases hfd : findB b.x (a.take i) with
      | some e =>
        rw [hfd] at e4 hfn
        simp only [findI] at e4
        have hL : W.contains b.x = true := hfn.symm
        rw [← hv, hq, if_pos hL]
        simp only [vmr, vmw, vmp, vza, ↓reduceIte, Nat.reduceBEq, Nat.reduceLT, Nat.reduceAdd, Nat.reduceEqDiff, reduceCtorEq, vmt, vzb, vzc, vlen, vleaf, velems, oks, vst, vmd, ty, Nat.reduceLeDiff, Nat.reduceMul, Nat.reduceSub, c715, Tryz.f43, m715, h0, h3, hcl, ga, e1, w4, Option.isSome_some, e4, hds, sliceA, sliceV, boundOf, hil', hff, Nat.sub_zero, Option.map_some, Option.map_none]
        unfold P715
        simp only [vmr, vmw, vmp, vza, ↓reduceIte, Nat.reduceBEq, Nat.reduceLT, Nat.reduceAdd, Nat.reduceEqDiff, reduceCtorEq, vmt, vzb, vzc, vlen, vleaf, velems, oks, vst, vmd, ty, Nat.reduceLeDiff, Nat.reduceMul, Nat.reduceSub, vzr, m715]
      | none =>
        rw [hfd] at e4 hfn
        simp only [findI] at e4
        have hL : W.contains b.x = false := hfn.symm
        rw [hL, if_neg (by simp)] at hq
        by_cases q1 : errB 8 b.e = 0
        · have n1 : ((0 : Int) != 0) = false := rfl
          rw [q1] at e2
          rw [if_neg (by simp [q1])] at hq
          obtain ⟨x0, r0, hx0, hi0, hk0⟩ : ∃ x0 r0, b.x = x0 :: r0 ∧ 0 ≤ idx3 x0 ∧ kk = 5 + idx3 x0 := by
            unfold varB at hv1
            split at hv1
            · rename_i a0 b0 r0 h0'
              split at hv1
              · rename_i hc0
                injection hv1 with hv1
                injection hv1 with hv1
                exact ⟨a0, b0 :: r0, h0', hc0.2.1, hv1.symm⟩
              · cases hv1
            · cases hv1
          have e3 := F38_eq (r := r0) hi0 (fitOk_of b3)
          rw [← hx0, ← hk0] at e3
          cases q2 : fitsB kk b.e with
          | false =>
            rw [q2] at e3
            rw [← hv, hq, q2]
            simp only [vmr, vmw, vmp, vza, ↓reduceIte, Nat.reduceBEq, Nat.reduceLT, Nat.reduceAdd, Nat.reduceEqDiff, reduceCtorEq, vmt, vzb, vzc, vlen, vleaf, velems, oks, vst, vmd, ty, Nat.reduceLeDiff, Nat.reduceMul, Nat.reduceSub, c715, Tryz.f43, m715, h0, h3, hcl, ga, e1, w4, Option.isSome_some, e4, hds, hds2, sliceA, sliceV, boundOf, hil', hff, Nat.sub_zero, Option.map_some, Option.map_none, e2, n1, e3, Bool.false_eq_true, if_false]
            unfold P715
            simp only [vmr, vmw, vmp, vza, ↓reduceIte, Nat.reduceBEq, Nat.reduceLT, Nat.reduceAdd, Nat.reduceEqDiff, reduceCtorEq, vmt, vzb, vzc, vlen, vleaf, velems, oks, vst, vmd, ty, Nat.reduceLeDiff, Nat.reduceMul, Nat.reduceSub, vzr, m715]
          | true =>
            rw [q2] at e3
            rw [q2, if_pos rfl] at hq
            simp only [vmr, vmw, vmp, vza, ↓reduceIte, Nat.reduceBEq, Nat.reduceLT, Nat.reduceAdd, Nat.reduceEqDiff, reduceCtorEq, vmt, vzb, vzc, vlen, vleaf, velems, oks, vst, vmd, ty, Nat.reduceLeDiff, Nat.reduceMul, Nat.reduceSub, c715, Tryz.f43, m715, h0, h3, hcl, ga, e1, w4, Option.isSome_some, e4, hds, hds2, sliceA, sliceV, boundOf, hil', hff, Nat.sub_zero, Option.map_some, Option.map_none, e2, n1, e3]
            refine ih _ ?_ ?_ (by rw [htk, ← hq]; exact hv) hx
            all_goals simp only [vmr, vmw, vmp, vza, ↓reduceIte, Nat.reduceBEq, Nat.reduceLT, Nat.reduceAdd, Nat.reduceEqDiff, reduceCtorEq, vmt, vzb, vzc, vlen, vleaf, velems, oks, vst, vmd, ty, Nat.reduceLeDiff, Nat.reduceMul, Nat.reduceSub, m715, h0]
        · have n1 : (errB 8 b.e != 0) = true := by simpa using q1
          rw [if_pos q1] at hq
          rw [← hv, hq]
          simp only [vmr, vmw, vmp, vza, ↓reduceIte, Nat.reduceBEq, Nat.reduceLT, Nat.reduceAdd, Nat.reduceEqDiff, reduceCtorEq, vmt, vzb, vzc, vlen, vleaf, velems, oks, vst, vmd, ty, Nat.reduceLeDiff, Nat.reduceMul, Nat.reduceSub, c715, Tryz.f43, m715, h0, h3, hcl, ga, e1, w4, Option.isSome_some, e4, hds, hds2, sliceA, sliceV, boundOf, hil', hff, Nat.sub_zero, Option.map_some, Option.map_none, e2, n1]
          unfold P715
          simp only [vmr, vmw, vmp, vza, ↓reduceIte, Nat.reduceBEq, Nat.reduceLT, Nat.reduceAdd, Nat.reduceEqDiff, reduceCtorEq, vmt, vzb, vzc, vlen, vleaf, velems, oks, vst, vmd, ty, Nat.reduceLeDiff, Nat.reduceMul, Nat.reduceSub, vzr, m715]
theorem w15 (a : List Bn) (h : bnsOk a) : SoundPure Tryz.prog 43 [Bs a] (.ret (I (chkB a))) := by
  refine s715 h715 (a.length + 1) (by simp) rfl ?_
  show P715 _ _ _
  unfold chkB
  have a1 := fun v k s => @l715 (a.length + 1) k v a h.1 h.2 a 0 (a.length + 1) s rfl (by omega) (by omega)
  simp only [c715, Tryz.f43, gets, sub] at a1 ⊢
  by_cases q1 : a.length > 4000
  · have q1' : ((a.length : Int) > 4000) = True := eq_true (by omega)
    rw [if_pos q1]
    simp only [vmr, vmw, vmp, vza, ↓reduceIte, Nat.reduceBEq, Nat.reduceLT, Nat.reduceAdd, Nat.reduceEqDiff, reduceCtorEq, vmt, vzb, vzc, vlen, vleaf, velems, oks, vst, vmd, ty, Nat.reduceLeDiff, Nat.reduceMul, Nat.reduceSub, m715, q1']
    unfold P715
    simp only [vmr, vmw, vmp, vza, ↓reduceIte, Nat.reduceBEq, Nat.reduceLT, Nat.reduceAdd, Nat.reduceEqDiff, reduceCtorEq, vmt, vzb, vzc, vlen, vleaf, velems, oks, vst, vmd, ty, Nat.reduceLeDiff, Nat.reduceMul, Nat.reduceSub, vzr, m715]
  · have q1' : ((a.length : Int) > 4000) = False := eq_false (by omega)
    rw [if_neg q1]
    simp only [vmr, vmw, vmp, vza, ↓reduceIte, Nat.reduceBEq, Nat.reduceLT, Nat.reduceAdd, Nat.reduceEqDiff, reduceCtorEq, vmt, vzb, vzc, vlen, vleaf, velems, oks, vst, vmd, ty, Nat.reduceLeDiff, Nat.reduceMul, Nat.reduceSub, m715, q1']
    refine a1 _ _ _ ?_ ?_ rfl (fun s' e => ?_)
    case refine_3 =>
      rw [e]
      simp only [vmr, vmw, vmp, vza, ↓reduceIte, Nat.reduceBEq, Nat.reduceLT, Nat.reduceAdd, Nat.reduceEqDiff, reduceCtorEq, vmt, vzb, vzc, vlen, vleaf, velems, oks, vst, vmd, ty, Nat.reduceLeDiff, Nat.reduceMul, Nat.reduceSub, m715]
      unfold P715
      simp only [vmr, vmw, vmp, vza, ↓reduceIte, Nat.reduceBEq, Nat.reduceLT, Nat.reduceAdd, Nat.reduceEqDiff, reduceCtorEq, vmt, vzb, vzc, vlen, vleaf, velems, oks, vst, vmd, ty, Nat.reduceLeDiff, Nat.reduceMul, Nat.reduceSub, vzr, m715]
    all_goals simp only [vmr, vmw, vmp, vza, ↓reduceIte, Nat.reduceBEq, Nat.reduceLT, Nat.reduceAdd, Nat.reduceEqDiff, reduceCtorEq, vmt, vzb, vzc, vlen, vleaf, velems, oks, vst, vmd, ty, Nat.reduceLeDiff, Nat.reduceMul, Nat.reduceSub, m715]
theorem F15_sound : ∀ args v, Fchk args = some v → SoundPure Tryz.prog 43 args (.ret v) := hF_sound fun p hp => w15 p hp
end Go.Vi
