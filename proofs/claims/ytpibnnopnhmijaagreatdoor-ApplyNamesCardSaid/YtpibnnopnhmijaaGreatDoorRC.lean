/-
  Walks of the small functions on terms and names.
-/
import Derived.Test.YtpibnnopnhmijaaGreatDoorRB
import Derived.Test.YtpibnnopnhmijaaGreatDoorRA
set_option linter.unusedSimpArgs false
set_option linter.unusedVariables false
set_option maxRecDepth 100000
set_option maxHeartbeats 1000000
namespace Go.Vi
open Go Go.Proofs
abbrev tmv (k : Int) (s : List UInt8) (c : List Tm) : V := .agg [I k, .str s, Ts c]
def isV (k : Int) : Bool := decide (5 ≤ k) && decide (k ≤ 7)
def isSy (k : Int) : Bool := decide (1 ≤ k) && decide (k ≤ 3)
theorem tmv_inj {k k' : Int} {s s' : List UInt8} {c c' : List Tm} (h : [tmv k s c] = [tmv k' s' c']) : (k, s, c) = (k', s', c') := by
  injection h with h
  injection h with h
  injection h with h1 h2
  injection h2 with h2 h3
  injection h3 with h3
  rw [I_inj h1, Str_inj h2, Ts_inj h3]
theorem can_tmv (k : Int) (s : List UInt8) (c : List Tm) : cans [tmv k s c] = [tmv k s c] := by show [V.agg [I k, .str s, can (Ts c)]] = _; rw [can_Ts]
noncomputable def Ftm (f : Int → List UInt8 → V) : List V → Option V := hF (α := Int × List UInt8 × List Tm) (fun p => [tmv p.1 p.2.1 p.2.2]) (fun p => p.2.1.length ≤ 1000000000000000) (fun p => f p.1 p.2.1)
theorem Ftm_eq {f : Int → List UInt8 → V} (k : Int) {s : List UInt8} (c : List Tm) (hs : s.length ≤ 1000000000000000) : Ftm f [tmv k s c] = some (f k s) :=
  hF_eq (a := (k, s, c)) (fun _ _ h => tmv_inj h) (can_tmv k s c) hs
theorem Ftm_sound {f : Int → List UInt8 → V} {g : Nat} (h : ∀ k s c, s.length ≤ 1000000000000000 → SoundPure Tryz.prog g [tmv k s c] (.ret (f k s))) : ∀ args v, Ftm f args = some v → SoundPure Tryz.prog g args (.ret v) := hF_sound fun p hp => h p.1 p.2.1 p.2.2 hp
theorem w25 (k : Int) (s : List UInt8) (c : List Tm) (hs : s.length ≤ 1000000000000000) : SoundPure Tryz.prog 67 [tmv k s c] (.ret (.bool (isV k))) := by
  refine s725 (H := []) sound_nil 1 (by simp) rfl ?_
  simp only [c725, Tryz.f67, gets, sub]
  unfold isV
  by_cases h : k ≥ 5
  · rw [decide_eq_true (show 5 ≤ k from h)]
    simp only [vmr, vmw, vmp, vza, ↓reduceIte, Nat.reduceBEq, Nat.reduceLT, Nat.reduceAdd, Nat.reduceEqDiff, reduceCtorEq, vmt, vzb, vzc, vlen, vleaf, velems, oks, vst, vmd, ty, Nat.reduceLeDiff, Nat.reduceMul, Nat.reduceSub, vzr, m725, eq_true h]
  · rw [decide_eq_false (show ¬ 5 ≤ k from h)]
    simp only [vmr, vmw, vmp, vza, ↓reduceIte, Nat.reduceBEq, Nat.reduceLT, Nat.reduceAdd, Nat.reduceEqDiff, reduceCtorEq, vmt, vzb, vzc, vlen, vleaf, velems, oks, vst, vmd, ty, Nat.reduceLeDiff, Nat.reduceMul, Nat.reduceSub, vzr, m725, eq_false h]
theorem k64 (k : Int) (s : List UInt8) (c : List Tm) (hs : s.length ≤ 1000000000000000) : SoundPure Tryz.prog 94 [tmv k s c] (.ret (.bool (isSy k))) := by
  refine s764 (H := []) sound_nil 1 (by simp) rfl ?_
  simp only [c764, Tryz.f94, gets, sub]
  unfold isSy
  by_cases h : k ≥ 1
  · rw [decide_eq_true (show 1 ≤ k from h)]
    simp only [vmr, vmw, vmp, vza, ↓reduceIte, Nat.reduceBEq, Nat.reduceLT, Nat.reduceAdd, Nat.reduceEqDiff, reduceCtorEq, vmt, vzb, vzc, vlen, vleaf, velems, oks, vst, vmd, ty, Nat.reduceLeDiff, Nat.reduceMul, Nat.reduceSub, vzr, m764, eq_true h]
  · rw [decide_eq_false (show ¬ 1 ≤ k from h)]
    simp only [vmr, vmw, vmp, vza, ↓reduceIte, Nat.reduceBEq, Nat.reduceLT, Nat.reduceAdd, Nat.reduceEqDiff, reduceCtorEq, vmt, vzb, vzc, vlen, vleaf, velems, oks, vst, vmd, ty, Nat.reduceLeDiff, Nat.reduceMul, Nat.reduceSub, vzr, m764, eq_false h]
theorem w88 (k : Int) (s : List UInt8) (c : List Tm) (hs : s.length ≤ 1000000000000000) : SoundPure Tryz.prog 59 [tmv k s c] (.ret (.bool (isV k))) := by
  refine s788 (H := []) sound_nil 1 (by simp) rfl ?_
  simp only [c788, Tryz.f59, gets, sub]
  have e : isV k = (k == 5 || k == 6 || k == 7) := by
    unfold isV
    rw [Bool.eq_iff_iff]
    simp
    omega
  rw [e]
  cases h5 : k == 5 <;> cases h6 : k == 6 <;> simp only [vmr, vmw, vmp, vza, ↓reduceIte, Nat.reduceBEq, Nat.reduceLT, Nat.reduceAdd, Nat.reduceEqDiff, reduceCtorEq, vmt, vzb, vzc, vlen, vleaf, velems, oks, vst, vmd, ty, Nat.reduceLeDiff, Nat.reduceMul, Nat.reduceSub, vzr, m788, h5, h6]
def nameV (k : Int) (s : List UInt8) : List UInt8 := (if k = 5 then [115, 46] else if k = 6 then [116, 46] else [101, 46]) ++ s
theorem w89 (k : Int) (s : List UInt8) (c : List Tm) (hs : s.length ≤ 1000000000000000) : SoundPure Tryz.prog 68 [tmv k s c] (.ret (.str (nameV k s))) := by
  refine s789 (H := []) sound_nil 1 (by simp) rfl ?_
  simp only [c789, Tryz.f68, gets, sub]
  have hl : (2 + s.length ≤ 9223372036854775807) = True := eq_true (by omega)
  unfold nameV
  by_cases h5 : k = 5
  · subst h5
    simp only [vmr, vmw, vmp, vza, ↓reduceIte, Nat.reduceBEq, Nat.reduceLT, Nat.reduceAdd, Nat.reduceEqDiff, reduceCtorEq, vmt, vzb, vzc, vlen, vleaf, velems, oks, vst, vmd, ty, Nat.reduceLeDiff, Nat.reduceMul, Nat.reduceSub, vzr, m789, hl, strOp, Int.reduceBEq]
  · have h5' : (k == 5) = false := by simpa using h5
    rw [if_neg h5]
    by_cases h6 : k = 6
    · subst h6
      simp only [vmr, vmw, vmp, vza, ↓reduceIte, Nat.reduceBEq, Nat.reduceLT, Nat.reduceAdd, Nat.reduceEqDiff, reduceCtorEq, vmt, vzb, vzc, vlen, vleaf, velems, oks, vst, vmd, ty, Nat.reduceLeDiff, Nat.reduceMul, Nat.reduceSub, vzr, m789, hl, strOp, Int.reduceBEq, h5']
    · have h6' : (k == 6) = false := by simpa using h6
      rw [if_neg h6]
      simp only [vmr, vmw, vmp, vza, ↓reduceIte, Nat.reduceBEq, Nat.reduceLT, Nat.reduceAdd, Nat.reduceEqDiff, reduceCtorEq, vmt, vzb, vzc, vlen, vleaf, velems, oks, vst, vmd, ty, Nat.reduceLeDiff, Nat.reduceMul, Nat.reduceSub, vzr, m789, hl, strOp, h5', h6']
def nameP (k : Int) (s : List UInt8) : List UInt8 := if isV k = true then nameV k s else []
noncomputable abbrev FisV : List V → Option V := Ftm fun k _ => .bool (isV k)
noncomputable abbrev FisSy : List V → Option V := Ftm fun k _ => .bool (isSy k)
noncomputable abbrev FnameV : List V → Option V := Ftm fun k s => .str (nameV k s)
noncomputable abbrev FnameP : List V → Option V := Ftm fun k s => .str (nameP k s)
theorem F25_sound : ∀ args v, FisV args = some v → SoundPure Tryz.prog 67 args (.ret v) := Ftm_sound w25
theorem F64_sound : ∀ args v, FisSy args = some v → SoundPure Tryz.prog 94 args (.ret v) := Ftm_sound k64
theorem F88_sound : ∀ args v, FisV args = some v → SoundPure Tryz.prog 59 args (.ret v) := Ftm_sound w88
theorem F89_sound : ∀ args v, FnameV args = some v → SoundPure Tryz.prog 68 args (.ret v) := Ftm_sound w89
theorem w52 (k : Int) (s : List UInt8) (c : List Tm) (hs : s.length ≤ 1000000000000000) : SoundPure Tryz.prog 37 [tmv k s c] (.ret (.str (nameP k s))) := by
  refine s752 (H := [(67, FisV)]) (sound_cons F25_sound sound_nil) 1 (by simp) rfl ?_
  have hd := @d752_3 (hand [(67, FisV)]) 1
  simp only [c752, Tryz.f37, gets, sub, opsAt] at hd ⊢
  have e := Ftm_eq (f := fun k _ => .bool (isV k)) k c hs
  have hl : (2 + s.length ≤ 9223372036854775807) = True := eq_true (by omega)
  unfold nameP
  cases h : isV k with
  | false =>
    rw [h] at e
    simp only [vmr, vmw, vmp, vza, ↓reduceIte, Nat.reduceBEq, Nat.reduceLT, Nat.reduceAdd, Nat.reduceEqDiff, reduceCtorEq, vmt, vzb, vzc, vlen, vleaf, velems, oks, vst, vmd, ty, Nat.reduceLeDiff, Nat.reduceMul, Nat.reduceSub, vzr, m752, e, Bool.false_eq_true, if_false]
  | true =>
    rw [h] at e
    simp only [if_true]
    have hk : k = 5 ∨ k = 6 ∨ k = 7 := by simp [isV] at h; omega
    unfold nameV
    rcases hk with rfl | rfl | rfl
    all_goals
      simp only [vmr, vmw, vmp, vza, ↓reduceIte, Nat.reduceBEq, Nat.reduceLT, Nat.reduceAdd, Nat.reduceEqDiff, reduceCtorEq, vmt, vzb, vzc, vlen, vleaf, velems, oks, vst, vmd, ty, Nat.reduceLeDiff, Nat.reduceMul, Nat.reduceSub, vzr, m752, e, hd, hl, strOp, Int.reduceSub, show IntKind.i64.wrap 0 = 0 from rfl, show IntKind.i64.wrap 1 = 1 from rfl, show IntKind.i64.wrap 2 = 2 from rfl, show Int.toNat 1 = 1 from rfl, show Int.toNat 2 = 2 from rfl, show ((0 : Int) ≤ 1) = True from eq_true (by decide), show ((0 : Int) ≤ 2) = True from eq_true (by decide), show (((115 : UInt8).toNat : Int) < 128) = True from eq_true (by decide), show (((116 : UInt8).toNat : Int) < 128) = True from eq_true (by decide), show (((101 : UInt8).toNat : Int) < 128) = True from eq_true (by decide)]
      rfl
theorem F52_sound : ∀ args v, FnameP args = some v → SoundPure Tryz.prog 37 args (.ret v) := Ftm_sound w52
end Go.Vi
set_option maxRecDepth 100000
set_option maxHeartbeats 1000000
namespace Go.Vi
open Go Go.Proofs
abbrev steS : List UInt8 := [115, 116, 101]
def idx3 (c : UInt8) : Int := if c = 115 then 0 else if c = 116 then 1 else if c = 101 then 2 else -1
theorem idx3_lib (c : UInt8) : Lib.indexByte steS c = idx3 c := by
  unfold idx3
  by_cases h1 : c = 115
  · subst h1; decide
  · by_cases h2 : c = 116
    · subst h2; decide
    · by_cases h3 : c = 101
      · subst h3; decide
      · simp [Lib.indexByte, h1, h2, h3, Ne.symm h1, Ne.symm h2, Ne.symm h3]
theorem w62 (c : UInt8) : SoundPure Tryz.prog 80 [.str steS, .str [c]] (.ret (I (idx3 c))) := by
  intro w A cs hJ hA hp
  simp only [PCs, PC] at hp
  obtain ⟨a, d, hcs, rfl, a2, d2, hcs2, rfl, rfl⟩ := hp
  obtain rfl : cs = #[.string ⟨steS.toArray⟩, .string ⟨#[c]⟩] := by cases cs; simp_all
  refine (Tryz.strings_Index_one ⟨steS.toArray⟩ c w).mono ?_
  rintro e w' ⟨rfl, rfl⟩
  refine ⟨A, ⟨Nat.le_refl _, rfl, rfl, rfl, fun b hb' _ => rfl, fun _ _ _ => rfl, Nat.le_refl _, fun _ h => h, fun _ h => .inl h, fun _ h => .inl h⟩, hA, _, [], rfl, ?_, fun i hi => (by cases hi), List.Pairwise.nil⟩
  simp only [RC, IC, PC]
  exact ⟨trivial, by rw [← idx3_lib]⟩
theorem w61 (c : UInt8) : SoundPure Tryz.prog 79 [.str steS, .str [c]] (.ret (.bool (decide (0 ≤ idx3 c)))) := by
  intro w A cs hJ hA hp
  simp only [PCs, PC] at hp
  obtain ⟨a, d, hcs, rfl, a2, d2, hcs2, rfl, rfl⟩ := hp
  obtain rfl : cs = #[.string ⟨steS.toArray⟩, .string ⟨#[c]⟩] := by cases cs; simp_all
  refine (Tryz.strings_Contains_one ⟨steS.toArray⟩ c w).mono ?_
  rintro e w' ⟨rfl, rfl⟩
  refine ⟨A, ⟨Nat.le_refl _, rfl, rfl, rfl, fun b hb' _ => rfl, fun _ _ _ => rfl, Nat.le_refl _, fun _ h => h, fun _ h => .inl h, fun _ h => .inl h⟩, hA, _, [], rfl, ?_, fun i hi => (by cases hi), List.Pairwise.nil⟩
  simp only [RC, IC, PC]
  exact ⟨trivial, by rw [← idx3_lib]⟩
noncomputable def F61 : List V → Option V := hF (α := UInt8) (fun c => [.str steS, .str [c]]) (fun _ => True) (fun c => .bool (decide (0 ≤ idx3 c)))
theorem F61_eq (c : UInt8) : F61 [.str steS, .str [c]] = some (.bool (decide (0 ≤ idx3 c))) := hF_eq (a := c) (fun _ _ h => by injection h with _ h; injection h with h; have := Str_inj h; injection this) rfl trivial
theorem F61_sound : ∀ args v, F61 args = some v → SoundPure Tryz.prog 79 args (.ret v) := hF_sound fun p _ => w61 p
noncomputable def F62 : List V → Option V := hF (α := UInt8) (fun c => [.str steS, .str [c]]) (fun _ => True) (fun c => I (idx3 c))
theorem F62_eq (c : UInt8) : F62 [.str steS, .str [c]] = some (I (idx3 c)) := hF_eq (a := c) (fun _ _ h => by injection h with _ h; injection h with h; have := Str_inj h; injection this) rfl trivial
theorem F62_sound : ∀ args v, F62 args = some v → SoundPure Tryz.prog 80 args (.ret v) := hF_sound fun p _ => w62 p
def varB : List UInt8 → Option (Int × List UInt8)
  | a :: b :: r => if b = 46 ∧ 0 ≤ idx3 a ∧ rightB (5 + idx3 a) r [] = true then some (5 + idx3 a, r) else none
  | _ => none
def varR : Option (Int × List UInt8) → V
  | some (k, r) => .tup [.agg [I k, .str r, .nilS], .bool true]
  | none => .tup [.agg [I 0, .str [], .nilS], .bool false]
noncomputable abbrev T734 : List (FuncId × (List V → Option V)) := [(79, F61), (80, F62), (81, Fright)]
theorem h734 : SoundHand Tryz.prog (hand T734) := sound_cons F61_sound (sound_cons F62_sound (sound_cons F63_sound sound_nil))
theorem Fright_nil {k : Int} {s : List UInt8} (hs : s.length ≤ 1000000000000000) : Fright [.agg [I k, .str s, .nilS]] = some (.bool (rightB k s [])) :=
  hF_eq (a := (k, s, [])) (fun a b h => by
    have := tmv_inj h
    exact Prod.ext (congrArg (·.1) this) (Prod.ext (congrArg (·.2.1) this) (congrArg (·.2.2) this))) rfl hs
theorem idx3_le (a : UInt8) : idx3 a ≤ 2 := by unfold idx3; repeat (first | split | omega)
theorem g46 (u : UInt8) : (((u.toNat : Int)) == 46) = (u == 46) := by
  rw [Bool.eq_iff_iff, beq_iff_eq, beq_iff_eq]
  exact ⟨fun h => UInt8.toNat_inj.1 (by simpa using (show u.toNat = 46 by omega)), fun h => by subst h; rfl⟩
theorem w34 (a : List UInt8) (ha : a.length ≤ 1000000000000000) : SoundPure Tryz.prog 50 [.str a] (.ret (varR (varB a))) := by
  have hp : pureR (varR (varB a)) = true := by cases varB a <;> rfl
  refine s734 h734 1 (by simp) hp ?_
  have hd := @d734_3 (hand T734) 1
  simp only [c734, Tryz.f50, gets, sub, opsAt] at hd ⊢
  match a, ha with
  | [], _ =>
    have q : (((0 : Nat) : Int) < 2) = True := eq_true (by decide)
    have q' : ((0 : Int) < 2) = True := eq_true (by decide)
    simp only [varB, varR]
    simp only [vmr, vmw, vmp, vza, ↓reduceIte, Nat.reduceBEq, Nat.reduceLT, Nat.reduceAdd, Nat.reduceEqDiff, reduceCtorEq, vmt, vzb, vzc, vlen, vleaf, velems, oks, vst, vmd, ty, Nat.reduceLeDiff, Nat.reduceMul, Nat.reduceSub, vzr, m734, q, q']
  | [x], _ =>
    have q : (((1 : Nat) : Int) < 2) = True := eq_true (by decide)
    have q' : ((1 : Int) < 2) = True := eq_true (by decide)
    simp only [varB, varR]
    simp only [vmr, vmw, vmp, vza, ↓reduceIte, Nat.reduceBEq, Nat.reduceLT, Nat.reduceAdd, Nat.reduceEqDiff, reduceCtorEq, vmt, vzb, vzc, vlen, vleaf, velems, oks, vst, vmd, ty, Nat.reduceLeDiff, Nat.reduceMul, Nat.reduceSub, vzr, m734, q, q']
  | x :: y :: r, ha =>
    have e1 := F61_eq x
    have e2 := F62_eq x
    have e3 := Fright_nil (k := 5 + idx3 x) (s := r) (by simp at ha; omega)
    have hx := idx3_le x
    have q : (((r.length + 1 + 1 : Nat) : Int) < 2) = False := eq_false (by omega)
    have t1 : Int.toNat 1 = 1 := rfl
    have t2 : Int.toNat 2 = 2 := rfl
    have p1 : ((0 : Int) ≤ 1) = True := eq_true (by decide)
    have p2 : ((0 : Int) ≤ 2) = True := eq_true (by decide)
    have q1 : (1 ≤ r.length + 1 + 1) = True := eq_true (by omega)
    have q2 : (2 ≤ r.length + 1 + 1) = True := eq_true (by omega)
    have n46 : (((y.toNat : Int)) != 46) = !(y == 46) := by rw [← g46]; rfl
    have h12 : r.length + 1 + 1 - 2 = r.length := rfl
    simp only [varB]
    cases hy : y == 46 with
    | false =>
      rw [hy] at n46
      have : ¬ y = 46 := by simpa using hy
      rw [if_neg (fun h => this h.1)]
      simp only [varR]
      simp only [vmr, vmw, vmp, vza, ↓reduceIte, Nat.reduceBEq, Nat.reduceLT, Nat.reduceAdd, Nat.reduceEqDiff, reduceCtorEq, vmt, vzb, vzc, vlen, vleaf, velems, oks, vst, vmd, ty, Nat.reduceLeDiff, Nat.reduceMul, Nat.reduceSub, vzr, m734, q, t1, t2, p1, p2, q1, q2, n46]
    | true =>
      rw [hy] at n46
      have hy : y = 46 := by simpa using hy
      by_cases hi : 0 ≤ idx3 x
      · rw [decide_eq_true hi] at e1
        have w1 : IntKind.i64.wrap (5 + idx3 x) = 5 + idx3 x := by rw [wrap_id] <;> omega
        cases hr : rightB (5 + idx3 x) r [] with
        | false =>
          rw [hr] at e3
          rw [if_neg (fun h => by simp at h)]
          simp only [varR]
          simp only [vmr, vmw, vmp, vza, ↓reduceIte, Nat.reduceBEq, Nat.reduceLT, Nat.reduceAdd, Nat.reduceEqDiff, reduceCtorEq, vmt, vzb, vzc, vlen, vleaf, velems, oks, vst, vmd, ty, Nat.reduceLeDiff, Nat.reduceMul, Nat.reduceSub, vzr, m734, q, t1, t2, p1, p2, q1, q2, n46, e1, e2, e3, hd, w1, h12, sliceA, sliceV, boundOf, Option.map_some, Option.map_none]
        | true =>
          rw [hr] at e3
          rw [if_pos ⟨hy, hi, rfl⟩]
          simp only [varR]
          simp only [vmr, vmw, vmp, vza, ↓reduceIte, Nat.reduceBEq, Nat.reduceLT, Nat.reduceAdd, Nat.reduceEqDiff, reduceCtorEq, vmt, vzb, vzc, vlen, vleaf, velems, oks, vst, vmd, ty, Nat.reduceLeDiff, Nat.reduceMul, Nat.reduceSub, vzr, m734, q, t1, t2, p1, p2, q1, q2, n46, e1, e2, e3, hd, w1, h12, sliceA, sliceV, boundOf, Option.map_some, Option.map_none]
      · rw [decide_eq_false hi] at e1
        rw [if_neg (fun h => hi h.2.1)]
        simp only [varR]
        simp only [vmr, vmw, vmp, vza, ↓reduceIte, Nat.reduceBEq, Nat.reduceLT, Nat.reduceAdd, Nat.reduceEqDiff, reduceCtorEq, vmt, vzb, vzc, vlen, vleaf, velems, oks, vst, vmd, ty, Nat.reduceLeDiff, Nat.reduceMul, Nat.reduceSub, vzr, m734, q, t1, t2, p1, p2, q1, q2, n46, e1, sliceA, sliceV, boundOf, Option.map_some, Option.map_none]
end Go.Vi
set_option maxRecDepth 100000
set_option maxHeartbeats 1000000
namespace Go.Vi
open Go Go.Proofs
noncomputable def F34 : List V → Option V := hF (α := List UInt8) (fun a => [.str a]) (fun a => a.length ≤ 1000000000000000) (fun a => varR (varB a))
theorem F34_eq {a : List UInt8} (ha : a.length ≤ 1000000000000000) : F34 [.str a] = some (varR (varB a)) := hF_eq (a := a) (one_inj' fun _ _ => Str_inj) rfl ha
theorem F34_sound : ∀ args v, F34 args = some v → SoundPure Tryz.prog 50 args (.ret v) := hF_sound fun p hp => w34 p hp
def fitsB (k : Int) (l : List Tm) : Bool := if k = 7 then true else match l with
  | [.mk k' _ _] => if k = 5 then isSy k' || (k' == 5) else !(k' == 7) && !(k' == 8)
  | _ => false
theorem Tm_cases (l : List Tm) : (∃ k s c, l = [.mk k s c]) ∨ (l.length ≠ 1 ∧ ((l.length : Int) != 1) = true ∧ ∀ k, k ≠ 7 → fitsB k l = false) := by
  match l with
  | [] => exact .inr ⟨by simp, rfl, fun k h => by unfold fitsB; rw [if_neg h]⟩
  | [.mk k s c] => exact .inl ⟨k, s, c, rfl⟩
  | x :: y :: r => exact .inr ⟨by simp, by simp; omega, fun k h => by unfold fitsB; rw [if_neg h]; cases x; rfl⟩
theorem w35 (k : Int) (s : List UInt8) (c : List Tm) (l : List Tm) (hl : ∀ k s c, l = [.mk k s c] → s.length ≤ 1000000000000000) : SoundPure Tryz.prog 69 [tmv k s c, Ts l] (.ret (.bool (fitsB k l))) := by
  refine s735 (H := [(94, FisSy)]) (sound_cons F64_sound sound_nil) 1 (by simp) rfl ?_
  simp only [c735, Tryz.f69, gets, sub]
  by_cases k7 : k = 7
  · subst k7
    unfold fitsB
    simp only [if_true]
    simp only [vmr, vmw, vmp, vza, ↓reduceIte, Nat.reduceBEq, Nat.reduceLT, Nat.reduceAdd, Nat.reduceEqDiff, reduceCtorEq, vmt, vzb, vzc, vlen, vleaf, velems, oks, vst, vmd, ty, Nat.reduceLeDiff, Nat.reduceMul, Nat.reduceSub, vzr, m735, Int.reduceBEq]
  · have k7' : (k == 7) = false := by simpa using k7
    rcases Tm_cases l with ⟨k', s', c', rfl⟩ | ⟨_, hn, hf⟩
    · have e := Ftm_eq (f := fun k _ => .bool (isSy k)) k' c' (hl _ _ _ rfl)
      have hm : tv (.mk k' s' c') = .agg [I k', .str s', Ts c'] := tv_mk _ _ _
      have n1 : ((1 : Int) != 1) = false := rfl
      unfold fitsB
      simp only [if_neg k7, List.map_cons, List.map_nil, hm]
      by_cases k5 : k = 5
      · subst k5
        simp only [if_true]
        cases h : isSy k' with
        | true =>
          rw [h] at e
          simp only [vmr, vmw, vmp, vza, ↓reduceIte, Nat.reduceBEq, Nat.reduceLT, Nat.reduceAdd, Nat.reduceEqDiff, reduceCtorEq, vmt, vzb, vzc, vlen, vleaf, velems, oks, vst, vmd, ty, Nat.reduceLeDiff, Nat.reduceMul, Nat.reduceSub, vzr, m735, k7', Int.reduceBEq, n1, hm, e]
        | false =>
          rw [h] at e
          simp only [vmr, vmw, vmp, vza, ↓reduceIte, Nat.reduceBEq, Nat.reduceLT, Nat.reduceAdd, Nat.reduceEqDiff, reduceCtorEq, vmt, vzb, vzc, vlen, vleaf, velems, oks, vst, vmd, ty, Nat.reduceLeDiff, Nat.reduceMul, Nat.reduceSub, vzr, m735, k7', Int.reduceBEq, n1, hm, e]
      · have k5' : (k == 5) = false := by simpa using k5
        simp only [if_neg k5]
        have b7 : (k' != 7) = !(k' == 7) := rfl
        have b8 : (k' != 8) = !(k' == 8) := rfl
        cases h7 : k' == 7 with
        | true =>
          rw [h7] at b7
          simp only [vmr, vmw, vmp, vza, ↓reduceIte, Nat.reduceBEq, Nat.reduceLT, Nat.reduceAdd, Nat.reduceEqDiff, reduceCtorEq, vmt, vzb, vzc, vlen, vleaf, velems, oks, vst, vmd, ty, Nat.reduceLeDiff, Nat.reduceMul, Nat.reduceSub, vzr, m735, k7', k5', n1, hm, b7]
        | false =>
          rw [h7] at b7
          simp only [vmr, vmw, vmp, vza, ↓reduceIte, Nat.reduceBEq, Nat.reduceLT, Nat.reduceAdd, Nat.reduceEqDiff, reduceCtorEq, vmt, vzb, vzc, vlen, vleaf, velems, oks, vst, vmd, ty, Nat.reduceLeDiff, Nat.reduceMul, Nat.reduceSub, vzr, m735, k7', k5', n1, hm, b7, b8]
    · rw [hf k k7]
      simp only [vmr, vmw, vmp, vza, ↓reduceIte, Nat.reduceBEq, Nat.reduceLT, Nat.reduceAdd, Nat.reduceEqDiff, reduceCtorEq, vmt, vzb, vzc, vlen, vleaf, velems, oks, vst, vmd, ty, Nat.reduceLeDiff, Nat.reduceMul, Nat.reduceSub, vzr, m735, k7', hn]
def fitOk (l : List Tm) : Prop := ∀ k s c, l = [.mk k s c] → s.length ≤ 1000000000000000
noncomputable def F35 : List V → Option V := hF (α := (Int × List UInt8 × List Tm) × List Tm) (fun p => [tmv p.1.1 p.1.2.1 p.1.2.2, Ts p.2]) (fun p => fitOk p.2) (fun p => .bool (fitsB p.1.1 p.2))
theorem F35_nil {k : Int} {s : List UInt8} {l : List Tm} (hl : fitOk l) : F35 [.agg [I k, .str s, .nilS], Ts l] = some (.bool (fitsB k l)) :=
  hF_eq (a := ((k, s, []), l)) (fun a b h => by
    injection h with h1 h2
    injection h2 with h2
    have := tmv_inj (show [tmv a.1.1 a.1.2.1 a.1.2.2] = [tmv b.1.1 b.1.2.1 b.1.2.2] by rw [h1])
    exact Prod.ext this (Ts_inj h2)) (by show [tmv k s [], can (Ts l)] = _; rw [can_Ts]) hl
theorem F35_sound : ∀ args v, F35 args = some v → SoundPure Tryz.prog 69 args (.ret v) := hF_sound fun p hp => w35 _ _ _ _ hp
end Go.Vi
set_option maxRecDepth 100000
set_option maxHeartbeats 1000000
namespace Go.Vi
open Go Go.Proofs
def seenE (L : List (List UInt8)) : List (V × V) := L.map fun x => (.str x, .bool true)
theorem keyEq_str (a b : List UInt8) : keyEq (.str a) (.str b) = some (a == b) := rfl
theorem seen_find (x : List UInt8) : ∀ (L : List (List UInt8)) (i : Nat), (L.contains x = true ∧ ∃ j, mfind (.str x) (seenE L) i = some (some (j, .bool true))) ∨ (L.contains x = false ∧ mfind (.str x) (seenE L) i = some none)
  | [], i => .inr ⟨rfl, rfl⟩
  | y :: r, i => by
    simp only [seenE, List.map_cons, mfind, keyEq_str, List.contains_cons]
    cases h : x == y with
    | true => exact .inl ⟨rfl, i, rfl⟩
    | false =>
      rw [Bool.false_or]
      exact seen_find x r (i + 1)
def bok (b : Bn) : Prop := b.x.length ≤ 1000000000000000 ∧ szs b.e ≤ 1000000 ∧ txs b.e
theorem fitOk_of {l : List Tm} (h : txs l) : fitOk l := fun k s c e => by subst e; simp only [txs, txt1] at h; exact h.1.1
def chkL : List (List UInt8) → List Bn → Int
  | _, [] => 0
  | L, b :: r => match varB b.x with
    | none => 90
    | some (k, _) => if L.contains b.x = true then 10 else if errB 8 b.e ≠ 0 then errB 8 b.e else if fitsB k b.e = true then chkL (L ++ [b.x]) r else 90
noncomputable abbrev T714 : List (FuncId × (List V → Option V)) := [(29, Fres), (50, F34), (69, F35)]
theorem h714 : SoundHand Tryz.prog (hand T714) := sound_cons F17_sound (sound_cons F34_sound (sound_cons F35_sound sound_nil))
def P714 (n : Nat) (v : V) (r : Option (Ex × St)) : Prop := Fin (M714 (hand T714) n) [.tmp 2] r = some (.ret v)
theorem l714 {n k v} (a : List Bn) (ha : a.length ≤ 1000000) (hb : ∀ b ∈ a, bok b) : ∀ r i W v3 n' s, a.drop i = r → r.length < n' → tget s.τ 13 = Bs a → tget s.τ 14 = I a.length → tget s.τ 15 = I (i : Nat) → tget s.τ 3 = .mref ⟨0, 3, 0⟩ v3 → lget s.L (3, 0) = some (v3, .map (seenE W)) →
    I (chkL W r) = v → (∀ s', v = I 0 → P714 n v (X (M714 (hand T714) n) (.exit 0) k s')) →
    P714 n v (L (M714 (hand T714) n) (sub [1, 1, 1, 0, 1, 0, 0] c714) n' k s)
  | [], i, W, v3, n' + 1, s, hi, hn, h13, h14, h15, h3, h3', hv, hx => by
    have hc := inlt (drop_nil' hi)
    rw [L_succ]
    simp only [vmr, vmw, vmp, vza, ↓reduceIte, Nat.reduceBEq, Nat.reduceLT, Nat.reduceAdd, Nat.reduceEqDiff, reduceCtorEq, vmt, vzb, vzc, vlen, vleaf, velems, oks, vst, vmd, ty, Nat.reduceLeDiff, Nat.reduceMul, Nat.reduceSub, c714, Tryz.f39, m714, h13, h14, h15, hc]
    exact hx _ hv.symm
  | b :: r, i, W, v3, n' + 1, s, hi, hn, h13, h14, h15, h3, h3', hv, hx => by
    obtain ⟨g1, g2, g3⟩ := drop_cons hi
    have hcl := ilt g3
    have ga : (a.map Bn.v)[i]? = some (.agg [.str b.x, Ts b.e]) := by rw [List.getElem?_map, g1, Option.map_some, Bn.v]
    obtain ⟨b1, b2, b3⟩ := hb b (List.mem_of_getElem? g1)
    have w4 := wsuc g3 (by omega)
    have e1 := F34_eq b1
    have e2 := Fres_eq b2 b3
    have e3 := fun k s => F35_nil (k := k) (s := s) (fitOk_of b3)
    have ih := fun W v3 s => l714 (n := n) (k := k) (v := v) a ha hb r (i + 1) W v3 n' s g2 (by simp at hn; omega)
    simp only [sub, c714, Tryz.f39, gets] at ih
    have kok : keyOk Tryz.prog 9 (.str b.x) = true := by kernel_rfl
    rw [L_succ]
    cases hv1 : varB b.x with
    | none =>
      rw [hv1] at e1
      simp only [varR] at e1
      have : I (chkL W (b :: r)) = I 90 := by simp only [chkL, hv1]
      rw [← hv, this]
      simp only [vmr, vmw, vmp, vza, ↓reduceIte, Nat.reduceBEq, Nat.reduceLT, Nat.reduceAdd, Nat.reduceEqDiff, reduceCtorEq, vmt, vzb, vzc, vlen, vleaf, velems, oks, vst, vmd, ty, Nat.reduceLeDiff, Nat.reduceMul, Nat.reduceSub, c714, Tryz.f39, m714, h13, h14, h15, h3, h3', hcl, ga, e1, w4]
      unfold P714
      simp only [vmr, vmw, vmp, vza, ↓reduceIte, Nat.reduceBEq, Nat.reduceLT, Nat.reduceAdd, Nat.reduceEqDiff, reduceCtorEq, vmt, vzb, vzc, vlen, vleaf, velems, oks, vst, vmd, ty, Nat.reduceLeDiff, Nat.reduceMul, Nat.reduceSub, vzr, m714]
    | some q =>
      obtain ⟨kk, tt⟩ := q
      rw [hv1] at e1
      simp only [varR] at e1
      have hq : chkL W (b :: r) = if W.contains b.x = true then 10 else if errB 8 b.e ≠ 0 then errB 8 b.e else if fitsB kk b.e = true then chkL (W ++ [b.x]) r else 90 := by simp only [chkL, hv1]
      rcases seen_find b.x W 0 with ⟨hL, j, hf⟩ | ⟨hL, hf⟩
      · rw [← hv, hq, if_pos hL]
        simp only [vmr, vmw, vmp, vza, ↓reduceIte, Nat.reduceBEq, Nat.reduceLT, Nat.reduceAdd, Nat.reduceEqDiff, reduceCtorEq, vmt, vzb, vzc, vlen, vleaf, velems, oks, vst, vmd, ty, Nat.reduceLeDiff, Nat.reduceMul, Nat.reduceSub, c714, Tryz.f39, m714, h13, h14, h15, h3, h3', hcl, ga, e1, w4, mapGet, kok, hf]
        unfold P714
        simp only [vmr, vmw, vmp, vza, ↓reduceIte, Nat.reduceBEq, Nat.reduceLT, Nat.reduceAdd, Nat.reduceEqDiff, reduceCtorEq, vmt, vzb, vzc, vlen, vleaf, velems, oks, vst, vmd, ty, Nat.reduceLeDiff, Nat.reduceMul, Nat.reduceSub, vzr, m714]
      · have hm : mput (.str b.x) (.bool true) (seenE W) = some (seenE (W ++ [b.x])) := by
          unfold mput
          rw [hf]
          simp [seenE]
        rw [hL, if_neg (by simp)] at hq
        by_cases q1 : errB 8 b.e = 0
        · have n1 : ((0 : Int) != 0) = false := rfl
          rw [q1] at e2
          rw [if_neg (by simp [q1])] at hq
          cases q2 : fitsB kk b.e with
          | false =>
            have e3 := e3 kk tt
            rw [q2] at e3
            rw [← hv, hq, q2]
            simp only [vmr, vmw, vmp, vza, ↓reduceIte, Nat.reduceBEq, Nat.reduceLT, Nat.reduceAdd, Nat.reduceEqDiff, reduceCtorEq, vmt, vzb, vzc, vlen, vleaf, velems, oks, vst, vmd, ty, Nat.reduceLeDiff, Nat.reduceMul, Nat.reduceSub, c714, Tryz.f39, m714, h13, h14, h15, h3, h3', hcl, ga, e1, e2, e3, w4, mapGet, mapPut, kok, hf, hm, n1, Bool.false_eq_true, if_false]
            unfold P714
            simp only [vmr, vmw, vmp, vza, ↓reduceIte, Nat.reduceBEq, Nat.reduceLT, Nat.reduceAdd, Nat.reduceEqDiff, reduceCtorEq, vmt, vzb, vzc, vlen, vleaf, velems, oks, vst, vmd, ty, Nat.reduceLeDiff, Nat.reduceMul, Nat.reduceSub, vzr, m714]
          | true =>
            have e3 := e3 kk tt
            rw [q2] at e3
            rw [q2, if_pos rfl] at hq
            simp only [vmr, vmw, vmp, vza, ↓reduceIte, Nat.reduceBEq, Nat.reduceLT, Nat.reduceAdd, Nat.reduceEqDiff, reduceCtorEq, vmt, vzb, vzc, vlen, vleaf, velems, oks, vst, vmd, ty, Nat.reduceLeDiff, Nat.reduceMul, Nat.reduceSub, c714, Tryz.f39, m714, h13, h14, h15, h3, h3', hcl, ga, e1, e2, e3, w4, mapGet, mapPut, kok, hf, hm, n1]
            refine ih (W ++ [b.x]) v3 _ ?_ ?_ ?_ ?_ ?_ (by rw [← hq]; exact hv) hx
            all_goals simp only [vmr, vmw, vmp, vza, ↓reduceIte, Nat.reduceBEq, Nat.reduceLT, Nat.reduceAdd, Nat.reduceEqDiff, reduceCtorEq, vmt, vzb, vzc, vlen, vleaf, velems, oks, vst, vmd, ty, Nat.reduceLeDiff, Nat.reduceMul, Nat.reduceSub, m714, h13, h14, h3, h3']
        · have n1 : (errB 8 b.e != 0) = true := by simpa using q1
          rw [if_pos q1] at hq
          rw [← hv, hq]
          simp only [vmr, vmw, vmp, vza, ↓reduceIte, Nat.reduceBEq, Nat.reduceLT, Nat.reduceAdd, Nat.reduceEqDiff, reduceCtorEq, vmt, vzb, vzc, vlen, vleaf, velems, oks, vst, vmd, ty, Nat.reduceLeDiff, Nat.reduceMul, Nat.reduceSub, c714, Tryz.f39, m714, h13, h14, h15, h3, h3', hcl, ga, e1, e2, w4, mapGet, mapPut, kok, hf, hm, n1]
          unfold P714
          simp only [vmr, vmw, vmp, vza, ↓reduceIte, Nat.reduceBEq, Nat.reduceLT, Nat.reduceAdd, Nat.reduceEqDiff, reduceCtorEq, vmt, vzb, vzc, vlen, vleaf, velems, oks, vst, vmd, ty, Nat.reduceLeDiff, Nat.reduceMul, Nat.reduceSub, vzr, m714]
def chkB (l : List Bn) : Int := if l.length > 4000 then 5 else chkL [] l
def bnsOk (l : List Bn) : Prop := l.length ≤ 1000000 ∧ ∀ b ∈ l, bok b
theorem w14 (a : List Bn) (h : bnsOk a) : SoundPure Tryz.prog 39 [Bs a] (.ret (I (chkB a))) := by
  refine s714 h714 (a.length + 1) (by simp) rfl ?_
  show P714 _ _ _
  unfold chkB
  have a1 := fun v v3 k s => @l714 (a.length + 1) k v a h.1 h.2 a 0 [] v3 (a.length + 1) s rfl (by omega)
  simp only [c714, Tryz.f39, gets, sub] at a1 ⊢
  by_cases q1 : a.length > 4000
  · have q1' : ((a.length : Int) > 4000) = True := eq_true (by omega)
    rw [if_pos q1]
    simp only [vmr, vmw, vmp, vza, ↓reduceIte, Nat.reduceBEq, Nat.reduceLT, Nat.reduceAdd, Nat.reduceEqDiff, reduceCtorEq, vmt, vzb, vzc, vlen, vleaf, velems, oks, vst, vmd, ty, Nat.reduceLeDiff, Nat.reduceMul, Nat.reduceSub, m714, q1']
    unfold P714
    simp only [vmr, vmw, vmp, vza, ↓reduceIte, Nat.reduceBEq, Nat.reduceLT, Nat.reduceAdd, Nat.reduceEqDiff, reduceCtorEq, vmt, vzb, vzc, vlen, vleaf, velems, oks, vst, vmd, ty, Nat.reduceLeDiff, Nat.reduceMul, Nat.reduceSub, vzr, m714]
  · have q1' : ((a.length : Int) > 4000) = False := eq_false (by omega)
    rw [if_neg q1]
    simp only [vmr, vmw, vmp, vza, ↓reduceIte, Nat.reduceBEq, Nat.reduceLT, Nat.reduceAdd, Nat.reduceEqDiff, reduceCtorEq, vmt, vzb, vzc, vlen, vleaf, velems, oks, vst, vmd, ty, Nat.reduceLeDiff, Nat.reduceMul, Nat.reduceSub, m714, q1', newMap]
    refine a1 _ 1 _ _ ?_ ?_ ?_ ?_ ?_ rfl (fun s' e => ?_)
    case refine_4 => simp only [vmr, vmw, vmp, vza, ↓reduceIte, Nat.reduceBEq, Nat.reduceLT, Nat.reduceAdd, Nat.reduceEqDiff, reduceCtorEq, vmt, vzb, vzc, vlen, vleaf, velems, oks, vst, vmd, ty, Nat.reduceLeDiff, Nat.reduceMul, Nat.reduceSub, m714]
    case refine_5 => simp only [vmr, vmw, vmp, vza, ↓reduceIte, Nat.reduceBEq, Nat.reduceLT, Nat.reduceAdd, Nat.reduceEqDiff, reduceCtorEq, vmt, vzb, vzc, vlen, vleaf, velems, oks, vst, vmd, ty, Nat.reduceLeDiff, Nat.reduceMul, Nat.reduceSub, m714]; rfl
    case refine_6 =>
      rw [e]
      simp only [vmr, vmw, vmp, vza, ↓reduceIte, Nat.reduceBEq, Nat.reduceLT, Nat.reduceAdd, Nat.reduceEqDiff, reduceCtorEq, vmt, vzb, vzc, vlen, vleaf, velems, oks, vst, vmd, ty, Nat.reduceLeDiff, Nat.reduceMul, Nat.reduceSub, m714]
      unfold P714
      simp only [vmr, vmw, vmp, vza, ↓reduceIte, Nat.reduceBEq, Nat.reduceLT, Nat.reduceAdd, Nat.reduceEqDiff, reduceCtorEq, vmt, vzb, vzc, vlen, vleaf, velems, oks, vst, vmd, ty, Nat.reduceLeDiff, Nat.reduceMul, Nat.reduceSub, vzr, m714]
    all_goals simp only [vmr, vmw, vmp, vza, ↓reduceIte, Nat.reduceBEq, Nat.reduceLT, Nat.reduceAdd, Nat.reduceEqDiff, reduceCtorEq, vmt, vzb, vzc, vlen, vleaf, velems, oks, vst, vmd, ty, Nat.reduceLeDiff, Nat.reduceMul, Nat.reduceSub, m714]
noncomputable def Fchk : List V → Option V := hF (α := List Bn) (fun p => [Bs p]) bnsOk (fun p => I (chkB p))
theorem Fchk_eq {a : List Bn} (h : bnsOk a) : Fchk [Bs a] = some (I (chkB a)) := hF_eq (a := a) (one_inj' fun _ _ => Bs_inj) (by simp only [cans, can_Bs]) h
theorem F14_sound : ∀ args v, Fchk args = some v → SoundPure Tryz.prog 39 args (.ret v) := hF_sound fun p hp => w14 p hp
end Go.Vi
set_option maxRecDepth 100000
set_option maxHeartbeats 1000000
namespace Go.Vi
open Go Go.Proofs
def findB (x : List UInt8) : List Bn → Option (List Tm)
  | [] => none
  | b :: r => if b.x == x then some b.e else findB x r
def findR : Option (List Tm) → V
  | some e => .tup [.own 3 (e.map tv), .bool true]
  | none => .tup [.nilS, .bool false]
def P737 (n : Nat) (v : V) (r : Option (Ex × St)) : Prop := Fin (M737 (hand []) n) [.tmp 4, .tmp 5] r = some (.ret v)
theorem room35 {n : Nat} (h : n ≤ 2000000) : roomOk Tryz.prog 52 n = true := by simp [roomOk, ty, cellsV, leafV]; omega
theorem fits35 (t : Tm) : fitsE Tryz.prog 52 (tv t) = true := by cases t; simp [tv_mk, fitsE, ty, leafV]
theorem fits35s : ∀ l : List Tm, (l.map tv).all (fitsE Tryz.prog 52) = true
  | [] => rfl
  | t :: r => by simp only [List.map_cons, List.all_cons, fits35, fits35s r, Bool.and_self]
theorem l737 {n k v} {x : List UInt8} (a : List Bn) (ha : a.length ≤ 1000000) (hb : ∀ b ∈ a, bok b) : ∀ r i n' s, a.drop i = r → r.length < n' → tget s.τ 0 = Bs a → tget s.τ 1 = .str x → tget s.τ 6 = I (i : Nat) →
    findR (findB x r) = v → (∀ s', v = findR none → P737 n v (X (M737 (hand []) n) (.exit 0) k s')) →
    P737 n v (L (M737 (hand []) n) (sub [1, 0, 1, 0, 0] c737) n' k s)
  | [], i, n' + 1, s, hi, hn, h0, h1, h6, hv, hx => by
    have hc := inlt (drop_nil' hi)
    rw [L_succ]
    simp only [vmr, vmw, vmp, vza, ↓reduceIte, Nat.reduceBEq, Nat.reduceLT, Nat.reduceAdd, Nat.reduceEqDiff, reduceCtorEq, vmt, vzb, vzc, vlen, vleaf, velems, oks, vst, vmd, ty, Nat.reduceLeDiff, Nat.reduceMul, Nat.reduceSub, c737, Tryz.f45, m737, h0, h1, h6, hc]
    exact hx _ hv.symm
  | b :: r, i, n' + 1, s, hi, hn, h0, h1, h6, hv, hx => by
    obtain ⟨g1, g2, g3⟩ := drop_cons hi
    have hcl := ilt g3
    have ga : (a.map Bn.v)[i]? = some (.agg [.str b.x, Ts b.e]) := by rw [List.getElem?_map, g1, Option.map_some, Bn.v]
    obtain ⟨b1, b2, b3⟩ := hb b (List.mem_of_getElem? g1)
    have w4 := wsuc g3 (by omega)
    have ih := fun s => l737 (n := n) (k := k) (v := v) (x := x) a ha hb r (i + 1) n' s g2 (by simp at hn; omega)
    simp only [sub, c737, Tryz.f45, gets] at ih
    rw [L_succ]
    cases hq : b.x == x with
    | false =>
      rw [findB, hq, if_neg (by simp)] at hv
      simp only [vmr, vmw, vmp, vza, ↓reduceIte, Nat.reduceBEq, Nat.reduceLT, Nat.reduceAdd, Nat.reduceEqDiff, reduceCtorEq, vmt, vzb, vzc, vlen, vleaf, velems, oks, vst, vmd, ty, Nat.reduceLeDiff, Nat.reduceMul, Nat.reduceSub, c737, Tryz.f45, m737, h0, h1, h6, hcl, ga, strOp, hq, w4]
      refine ih _ ?_ ?_ ?_ hv hx
      all_goals simp only [vmr, vmw, vmp, vza, ↓reduceIte, Nat.reduceBEq, Nat.reduceLT, Nat.reduceAdd, Nat.reduceEqDiff, reduceCtorEq, vmt, vzb, vzc, vlen, vleaf, velems, oks, vst, vmd, ty, Nat.reduceLeDiff, Nat.reduceMul, Nat.reduceSub, m737, h0, h1]
    | true =>
      rw [findB, hq, if_pos rfl] at hv
      rw [← hv]
      have hl := szs_len b.e
      have hr := @room35 b.e.length (by omega)
      have hr0 := @room35 0 (by omega)
      have hf := fits35s b.e
      simp only [vmr, vmw, vmp, vza, ↓reduceIte, Nat.reduceBEq, Nat.reduceLT, Nat.reduceAdd, Nat.reduceEqDiff, reduceCtorEq, vmt, vzb, vzc, vlen, vleaf, velems, oks, vst, vmd, ty, Nat.reduceLeDiff, Nat.reduceMul, Nat.reduceSub, c737, Tryz.f45, m737, h0, h1, h6, hcl, ga, strOp, hq, w4, hr, hr0, hf]
      unfold P737 findR
      simp only [vmr, vmw, vmp, vza, ↓reduceIte, Nat.reduceBEq, Nat.reduceLT, Nat.reduceAdd, Nat.reduceEqDiff, reduceCtorEq, vmt, vzb, vzc, vlen, vleaf, velems, oks, vst, vmd, ty, Nat.reduceLeDiff, Nat.reduceMul, Nat.reduceSub, vzr, m737, take_len]
def findI : Option (List Tm) → V
  | some e => .tup [Ts e, .bool true]
  | none => .tup [Ts [], .bool false]
theorem pureLT : ∀ l : List Tm, pureRL (l.map tv) = true
  | [] => rfl
  | .mk k s c :: r => by simp only [List.map_cons, pureRL, tv_mk, pureR, pureLT r, Bool.and_self]
theorem findR_pure (o : Option (List Tm)) : pureR (findR o) = true := by cases o <;> simp only [findR, pureR, pureRL, pureLT, Bool.and_self]
theorem w37 (a : List Bn) (x : List UInt8) (h : bnsOk a) : SoundPure Tryz.prog 45 [Bs a, .str x] (.ret (findR (findB x a))) := by
  refine s737 (H := []) sound_nil (a.length + 1) (by simp) (findR_pure _) ?_
  show P737 _ _ _
  have a1 := fun k s => @l737 (a.length + 1) k (findR (findB x a)) x a h.1 h.2 a 0 (a.length + 1) s rfl (by omega)
  simp only [c737, Tryz.f45, gets, sub] at a1 ⊢
  simp only [vmr, vmw, vmp, vza, ↓reduceIte, Nat.reduceBEq, Nat.reduceLT, Nat.reduceAdd, Nat.reduceEqDiff, reduceCtorEq, vmt, vzb, vzc, vlen, vleaf, velems, oks, vst, vmd, ty, Nat.reduceLeDiff, Nat.reduceMul, Nat.reduceSub, m737]
  refine a1 _ _ ?_ ?_ ?_ (by first | trivial | rfl) (fun s' e => ?_)
  case refine_4 =>
    rw [e]
    unfold findR
    simp only [vmr, vmw, vmp, vza, ↓reduceIte, Nat.reduceBEq, Nat.reduceLT, Nat.reduceAdd, Nat.reduceEqDiff, reduceCtorEq, vmt, vzb, vzc, vlen, vleaf, velems, oks, vst, vmd, ty, Nat.reduceLeDiff, Nat.reduceMul, Nat.reduceSub, m737]
    unfold P737
    simp only [vmr, vmw, vmp, vza, ↓reduceIte, Nat.reduceBEq, Nat.reduceLT, Nat.reduceAdd, Nat.reduceEqDiff, reduceCtorEq, vmt, vzb, vzc, vlen, vleaf, velems, oks, vst, vmd, ty, Nat.reduceLeDiff, Nat.reduceMul, Nat.reduceSub, vzr, m737]
  all_goals simp only [vmr, vmw, vmp, vza, ↓reduceIte, Nat.reduceBEq, Nat.reduceLT, Nat.reduceAdd, Nat.reduceEqDiff, reduceCtorEq, vmt, vzb, vzc, vlen, vleaf, velems, oks, vst, vmd, ty, Nat.reduceLeDiff, Nat.reduceMul, Nat.reduceSub, m737]
theorem imms_map {α : Type} {e : α → V} (he : ∀ a, imm (e a) = e a) : ∀ l : List α, immL (l.map e) = l.map e
  | [] => rfl
  | x :: r => by simp only [List.map_cons, immL, he x, imms_map he r]
theorem imm_tv (t : Tm) : imm (tv t) = tv t := by cases t; rw [tv_mk]; rfl
theorem find_imm (o : Option (List Tm)) : can (imm (findR o)) = findI o := by
  cases o with
  | none => rfl
  | some e =>
    show V.tup [can (imm (.own 3 (e.map tv))), .bool true] = _
    have : imm (V.own 3 (e.map tv)) = .lst (e.map tv) := by simp only [imm, imms_map imm_tv]
    rw [this, can_Ts]
    rfl
noncomputable def Ffind : List V → Option V := hF (α := List Bn × List UInt8) (fun p => [Bs p.1, .str p.2]) (fun p => bnsOk p.1) (fun p => findI (findB p.2 p.1))
theorem Ffind_eq {a : List Bn} {x : List UInt8} (h : bnsOk a) : Ffind [Bs a, .str x] = some (findI (findB x a)) := hF_eq (a := (a, x)) (two_inj (fun _ _ => Bs_inj) (fun _ _ => Str_inj)) (by simp only [cans, can_Bs, canStr]) h
theorem F37_sound : ∀ args v, Ffind args = some v → SoundPure Tryz.prog 45 args (.ret v) := hF_sound fun p hp => by
  have := sound_imm (w37 p.1 p.2 hp) (findR_pure _)
  rw [find_imm] at this
  exact this
theorem find_none (x : List UInt8) : ∀ l : List Bn, (findB x l).isSome = (l.map (·.x)).contains x
  | [] => rfl
  | b :: r => by
    simp only [findB, List.map_cons, List.contains_cons]
    cases h : b.x == x with
    | true =>
      have : b.x = x := by simpa using h
      simp [this]
    | false =>
      have : ¬ x = b.x := fun e => by rw [e] at h; simp at h
      have h2 : (x == b.x) = false := by simpa using this
      rw [h2, Bool.false_or, if_neg (by simp)]
      exact find_none x r
end Go.Vi
