/-
  Walks of package strings: prefixes, Trim at digits.
-/
import Derived.Test.YtpdeblfnbcponaaGreatDoorXA
import Derived.Test.YtpdeblfnbcponaaGreatDoorXB
set_option linter.unusedSimpArgs false
set_option linter.unusedVariables false
set_option maxRecDepth 100000
set_option maxHeartbeats 1000000
namespace Go.Vi
open Go Go.Proofs

theorem two_Str : ∀ a b : List UInt8 × List UInt8, ([.str a.1, .str a.2] : List V) = [.str b.1, .str b.2] → a = b := two_inj (fun _ _ => Str_inj) (fun _ _ => Str_inj)
/-! ### HasPrefix -/
def preB (s p : List UInt8) : Bool := decide (p.length ≤ s.length) && (s.take p.length == p)
theorem w105 (s p : List UInt8) : SoundPure Tryz.prog 79 [.str s, .str p] (.ret (.bool (preB s p))) := by
  refine s105 sound_nil 1 (by simp) rfl ?_
  simp only [c105, Tryz.f79, gets]
  unfold preB
  by_cases h : p.length ≤ s.length
  · have hc : ((s.length : Int) ≥ (p.length : Int)) = True := eq_true (by omega)
    have h' := eq_true h
    simp only [vmr, vmw, vmp, vza, ↓reduceIte, Nat.reduceBEq, Nat.reduceLT, Nat.reduceAdd, Nat.reduceEqDiff, reduceCtorEq, vmt, vzb, vzc, vlen, vleaf, velems, oks, vst, vmd, ty, Nat.reduceLeDiff, Nat.reduceMul, Nat.reduceSub, vzr, m105, hc, h', strOp, sliceA, sliceV, boundOf, onone, Nat.sub_zero]
  · have hc : ((s.length : Int) ≥ (p.length : Int)) = False := eq_false (by omega)
    have h' := eq_false h
    simp only [vmr, vmw, vmp, vza, ↓reduceIte, Nat.reduceBEq, Nat.reduceLT, Nat.reduceAdd, Nat.reduceEqDiff, reduceCtorEq, vmt, vzb, vzc, vlen, vleaf, velems, oks, vst, vmd, ty, Nat.reduceLeDiff, Nat.reduceMul, Nat.reduceSub, vzr, m105, hc, h']
noncomputable def F105 : List V → Option V := hF (α := List UInt8 × List UInt8) (fun a => [.str a.1, .str a.2]) (fun _ => True) (fun a => .bool (preB a.1 a.2))
theorem F105_eq (s p : List UInt8) : F105 [.str s, .str p] = some (.bool (preB s p)) := hF_eq (a := (s, p)) two_Str (by simp only [cans, canStr]) trivial
noncomputable abbrev T105 : List (FuncId × (List V → Option V)) := (79, F105) :: []
theorem hT105 : SoundHand Tryz.prog (hand T105) := sound_cons (hF_sound fun a _ => w105 a.1 a.2) sound_nil
/-! ### TrimPrefix, CutPrefix -/
def dropB (s p : List UInt8) : List UInt8 := if preB s p = true then s.drop p.length else s
theorem w90 (s p : List UInt8) : SoundPure Tryz.prog 62 [.str s, .str p] (.ret (.str (dropB s p))) := by
  refine s90 hT105 1 (by simp) rfl ?_
  simp only [c90, Tryz.f62, gets]
  unfold dropB
  have e := F105_eq s p
  cases h : preB s p with
  | true =>
    have hl : (p.length ≤ s.length) = True := eq_true (by unfold preB at h; simp at h; exact h.1)
    have ht : (s.drop p.length).take (s.length - p.length) = s.drop p.length := List.take_of_length_le (by simp)
    rw [h] at e
    simp only [vmr, vmw, vmp, vza, ↓reduceIte, Nat.reduceBEq, Nat.reduceLT, Nat.reduceAdd, Nat.reduceEqDiff, reduceCtorEq, vmt, vzb, vzc, vlen, vleaf, velems, oks, vst, vmd, ty, Nat.reduceLeDiff, Nat.reduceMul, Nat.reduceSub, vzr, m90, e, hl, sliceA, sliceV, boundOf, onone, ht]
  | false =>
    rw [h] at e
    simp only [vmr, vmw, vmp, vza, ↓reduceIte, Nat.reduceBEq, Nat.reduceLT, Nat.reduceAdd, Nat.reduceEqDiff, reduceCtorEq, vmt, vzb, vzc, vlen, vleaf, velems, oks, vst, vmd, ty, Nat.reduceLeDiff, Nat.reduceMul, Nat.reduceSub, vzr, m90, e]
theorem w103 (s p : List UInt8) : SoundPure Tryz.prog 70 [.str s, .str p] (.ret (.tup [.str (dropB s p), .bool (preB s p)])) := by
  refine s103 hT105 1 (by simp) rfl ?_
  simp only [c103, Tryz.f70, gets]
  unfold dropB
  have e := F105_eq s p
  cases h : preB s p with
  | true =>
    have hl : (p.length ≤ s.length) = True := eq_true (by unfold preB at h; simp at h; exact h.1)
    have ht : (s.drop p.length).take (s.length - p.length) = s.drop p.length := List.take_of_length_le (by simp)
    rw [h] at e
    simp only [vmr, vmw, vmp, vza, ↓reduceIte, Nat.reduceBEq, Nat.reduceLT, Nat.reduceAdd, Nat.reduceEqDiff, reduceCtorEq, vmt, vzb, vzc, vlen, vleaf, velems, oks, vst, vmd, ty, Nat.reduceLeDiff, Nat.reduceMul, Nat.reduceSub, vzr, m103, e, hl, sliceA, sliceV, boundOf, onone, ht]
  | false =>
    rw [h] at e
    simp only [vmr, vmw, vmp, vza, ↓reduceIte, Nat.reduceBEq, Nat.reduceLT, Nat.reduceAdd, Nat.reduceEqDiff, reduceCtorEq, vmt, vzb, vzc, vlen, vleaf, velems, oks, vst, vmd, ty, Nat.reduceLeDiff, Nat.reduceMul, Nat.reduceSub, vzr, m103, e]
noncomputable def F90 : List V → Option V := hF (α := List UInt8 × List UInt8) (fun a => [.str a.1, .str a.2]) (fun _ => True) (fun a => .str (dropB a.1 a.2))
theorem F90_eq (s p : List UInt8) : F90 [.str s, .str p] = some (.str (dropB s p)) := hF_eq (a := (s, p)) two_Str (by simp only [cans, canStr]) trivial
noncomputable def F103 : List V → Option V := hF (α := List UInt8 × List UInt8) (fun a => [.str a.1, .str a.2]) (fun _ => True) (fun a => .tup [.str (dropB a.1 a.2), .bool (preB a.1 a.2)])
theorem F103_eq (s p : List UInt8) : F103 [.str s, .str p] = some (.tup [.str (dropB s p), .bool (preB s p)]) := hF_eq (a := (s, p)) two_Str (by simp only [cans, canStr]) trivial
noncomputable abbrev T90 : List (FuncId × (List V → Option V)) := (62, F90) :: (70, F103) :: []
theorem hT90 : SoundHand Tryz.prog (hand T90) := sound_cons (hF_sound fun a _ => w90 a.1 a.2) (sound_cons (hF_sound fun a _ => w103 a.1 a.2) sound_nil)
theorem w71 (s p : List UInt8) : SoundPure Tryz.prog 47 [.str s, .str p] (.ret (.str (dropB s p))) := by
  refine s71 hT90 1 (by simp) rfl ?_
  have e := F90_eq s p
  simp only [c71, Tryz.f47, gets]
  simp only [vmr, vmw, vmp, vza, ↓reduceIte, Nat.reduceBEq, Nat.reduceLT, Nat.reduceAdd, Nat.reduceEqDiff, reduceCtorEq, vmt, vzb, vzc, vlen, vleaf, velems, oks, vst, vmd, ty, Nat.reduceLeDiff, Nat.reduceMul, Nat.reduceSub, vzr, m71, e]
theorem w83 (s p : List UInt8) : SoundPure Tryz.prog 49 [.str s, .str p] (.ret (.tup [.str (dropB s p), .bool (preB s p)])) := by
  refine s83 hT90 1 (by simp) rfl ?_
  have e := F103_eq s p
  simp only [c83, Tryz.f49, gets]
  simp only [vmr, vmw, vmp, vza, ↓reduceIte, Nat.reduceBEq, Nat.reduceLT, Nat.reduceAdd, Nat.reduceEqDiff, reduceCtorEq, vmt, vzb, vzc, vlen, vleaf, velems, oks, vst, vmd, ty, Nat.reduceLeDiff, Nat.reduceMul, Nat.reduceSub, vzr, m83, e]
noncomputable def F71 : List V → Option V := hF (α := List UInt8 × List UInt8) (fun a => [.str a.1, .str a.2]) (fun _ => True) (fun a => .str (dropB a.1 a.2))
theorem F71_eq (s p : List UInt8) : F71 [.str s, .str p] = some (.str (dropB s p)) := hF_eq (a := (s, p)) two_Str (by simp only [cans, canStr]) trivial
noncomputable def F83 : List V → Option V := hF (α := List UInt8 × List UInt8) (fun a => [.str a.1, .str a.2]) (fun _ => True) (fun a => .tup [.str (dropB a.1 a.2), .bool (preB a.1 a.2)])
theorem F83_eq (s p : List UInt8) : F83 [.str s, .str p] = some (.tup [.str (dropB s p), .bool (preB s p)]) := hF_eq (a := (s, p)) two_Str (by simp only [cans, canStr]) trivial
end Go.Vi
set_option maxRecDepth 100000
set_option maxHeartbeats 1000000
namespace Go.Vi
open Go Go.Proofs

def isDig (u : UInt8) : Bool := decide (48 ≤ u.toNat) && decide (u.toNat ≤ 57)
def digC : List Bool := (List.range 256).map fun i => decide (48 ≤ i) && decide (i ≤ 57)
abbrev digS : List UInt8 := [48, 49, 50, 51, 52, 53, 54, 55, 56, 57]
theorem digC_len : digC.length = 256 := by simp [digC]
theorem zB_len : zB.length = 256 := by simp [zB]
theorem digC_get (u : UInt8) : digC[u.toNat]? = some (isDig u) := by
  have : u.toNat < 256 := u.toNat_lt
  simp [digC, this, isDig]
def boolsV : List V → Option (List Bool)
  | [] => some []
  | .bool b :: r => (boolsV r).map (b :: ·)
  | _ :: _ => none
theorem boolsV_get : ∀ {cs : List V} {l : List Bool}, boolsV cs = some l → cs = l.map V.bool
  | [], l, h => by simp only [boolsV, Option.some.injEq] at h; subst h; rfl
  | v :: r, l, h => by
    unfold boolsV at h
    split at h
    · rename_i h0; cases h0
    · rename_i b r' heq
      injection heq with h1 h2
      subst h1; subst h2
      simp only [Option.map_eq_some_iff] at h
      obtain ⟨l', hb, rfl⟩ := h
      simp only [List.map_cons, ← boolsV_get hb]
    · cases h
def isSet : Option (COut × Nat × Heap) → Bool
  | some (.ret (.tup [.agg cs, .bool b]), _, _) => b && boolsV cs == some digC
  | _ => false
theorem isSet_some {r : Option (COut × Nat × Heap)} (h : isSet r = true) : ∃ c O, r = some (.ret (.tup [.agg (digC.map V.bool), .bool true]), c, O) := by
  unfold isSet at h
  split at h
  · rename_i cs b c O
    simp only [Bool.and_eq_true, beq_iff_eq] at h
    obtain ⟨rfl, h⟩ := h
    rw [boolsV_get h]
    exact ⟨_, _, rfl⟩
  · cases h
theorem pureLB (l : List Bool) : pureRL (l.map V.bool) = true := by
  induction l with
  | nil => rfl
  | cons b l ih => simp only [List.map_cons, pureRL, pureR, ih, Bool.and_self]
theorem run93 : isSet (evF (Cx (hand [])) 40 65 [.str digS] 0 0 noH) = true := by kernel_rfl
theorem w93 : SoundPure Tryz.prog 65 [.str digS] (.ret (.tup [.agg (digC.map V.bool), .bool true])) := by
  obtain ⟨c, O, h⟩ := isSet_some run93
  exact pure_of_call (evF_sound (C := Cx (hand [])) sound_nil good mixed 40) h (by simp only [pureR, pureRL, pureLB, Bool.and_self])
noncomputable def F93 : List V → Option V := hF (α := Unit) (fun _ => [.str digS]) (fun _ => True) (fun _ => .tup [.agg (digC.map V.bool), .bool true])
theorem F93_eq : F93 [.str digS] = some (.tup [.agg (digC.map V.bool), .bool true]) := hF_eq (a := ()) (fun _ _ _ => rfl) rfl trivial
abbrev setP : V := .iptr (digC.map V.bool)
theorem el104 : elemT Tryz.prog 92 = none := by kernel_rfl
theorem w106 (u : UInt8) : SoundPure Tryz.prog 80 [setP, .int .u8 u.toNat] (.ret (.bool (isDig u))) := by
  refine s106 sound_nil 1 (by simp) rfl ?_
  have h0 : u.toNat < 256 := u.toNat_lt
  have hc : ((u.toNat : Int) < 256) = True := eq_true (by omega)
  have hl : (u.toNat ≤ 256) = True := eq_true (by omega)
  have hd : ∃ r, (digC.map V.bool).drop u.toNat = V.bool (isDig u) :: r := by
    obtain ⟨h1, h2⟩ := List.getElem?_eq_some_iff.1 (digC_get u)
    refine ⟨(digC.map V.bool).drop (u.toNat + 1), ?_⟩
    rw [List.drop_eq_getElem_cons (by simpa using h1)]
    simp [h2]
  obtain ⟨r, hd⟩ := hd
  have z256 : ((256 : Nat) : Int) = 256 := rfl
  simp only [c106, Tryz.f80, gets]
  simp only [vmr, vmw, vmp, vza, ↓reduceIte, Nat.reduceBEq, Nat.reduceLT, Nat.reduceAdd, Nat.reduceEqDiff, reduceCtorEq, vmt, vzb, vzc, vlen, vleaf, velems, oks, vst, vmd, ty, Nat.reduceLeDiff, Nat.reduceMul, Nat.reduceSub, vzr, m106, idxA, hc, hl, hd, digC_len, z256, Nat.mul_one, el104]
theorem u8_inj {a b : UInt8} (h : V.int .u8 (a.toNat : Int) = V.int .u8 (b.toNat : Int)) : a = b := by
  injection h with _ h
  exact UInt8.toNat_inj.1 (by omega)
noncomputable def F106 : List V → Option V := hF (α := UInt8) (fun a => [setP, .int .u8 a.toNat]) (fun _ => True) (fun a => .bool (isDig a))
theorem F106_eq (u : UInt8) : F106 [setP, .int .u8 u.toNat] = some (.bool (isDig u)) := hF_eq (a := u) (fun a b h => by injection h with _ h; injection h with h _; exact u8_inj h) (by simp only [cans, can]) trivial
noncomputable abbrev T106 : List (FuncId × (List V → Option V)) := (80, F106) :: []
theorem hT106 : SoundHand Tryz.prog (hand T106) := sound_cons (hF_sound fun a _ => w106 a) sound_nil
theorem l94 {n k out} : ∀ (t : List UInt8) n' s, t.length < n' → tget s.τ 0 = .str t → tget s.τ 1 = setP → (∀ s', tget s'.τ 0 = .str (t.dropWhile isDig) → Fin (M94 (hand T106) n) [.tmp 4] (X (M94 (hand T106) n) (.exit 0) k s') = out) →
    Fin (M94 (hand T106) n) [.tmp 4] (L (M94 (hand T106) n) (sub [1, 0, 0, 0] c94) n' k s) = out
  | [], n' + 1, s, hn, h0, h1, hx => by
    have hc : ((0 : Int) > 0) = False := by decide
    rw [L_succ]
    simp only [vmr, vmw, vmp, vza, ↓reduceIte, Nat.reduceBEq, Nat.reduceLT, Nat.reduceAdd, Nat.reduceEqDiff, reduceCtorEq, vmt, vzb, vzc, vlen, vleaf, velems, oks, vst, vmd, ty, Nat.reduceLeDiff, Nat.reduceMul, Nat.reduceSub, c94, Tryz.f66, m94, h0, hc]
    refine hx _ ?_
    simp only [vmr, vmw, vmp, vza, ↓reduceIte, Nat.reduceBEq, Nat.reduceLT, Nat.reduceAdd, Nat.reduceEqDiff, reduceCtorEq, vmt, vzb, vzc, vlen, vleaf, velems, oks, vst, vmd, ty, Nat.reduceLeDiff, Nat.reduceMul, Nat.reduceSub, m94, h0, List.dropWhile_nil]
  | u :: t, n' + 1, s, hn, h0, h1, hx => by
    have hc : (((t.length + 1 : Nat) : Int) > 0) = True := eq_true (by omega)
    have e := F106_eq u
    have hle : (1 ≤ t.length + 1) = True := eq_true (by omega)
    have h10 : ((0:Int) ≤ 1) = True := by decide
    have ih := fun s => @l94 n k out t n' s (by simp at hn; omega)
    have ht : List.take t.length t = t := List.take_length
    have z1' : Int.toNat 1 = 1 := rfl
    simp only [sub, c94, Tryz.f66, gets] at ih
    rw [L_succ]
    cases hd : isDig u with
    | true =>
      rw [hd] at e
      rw [List.dropWhile_cons, if_pos hd] at hx
      simp only [vmr, vmw, vmp, vza, ↓reduceIte, Nat.reduceBEq, Nat.reduceLT, Nat.reduceAdd, Nat.reduceEqDiff, reduceCtorEq, vmt, vzb, vzc, vlen, vleaf, velems, oks, vst, vmd, ty, Nat.reduceLeDiff, Nat.reduceMul, Nat.reduceSub, c94, Tryz.f66, m94, h0, h1, hc, e, sliceA, sliceV, boundOf, onone, h10, z1', hle, pureLB]
      refine ih _ ?_ ?_ hx
      all_goals simp only [vmr, vmw, vmp, vza, ↓reduceIte, Nat.reduceBEq, Nat.reduceLT, Nat.reduceAdd, Nat.reduceEqDiff, reduceCtorEq, vmt, vzb, vzc, vlen, vleaf, velems, oks, vst, vmd, ty, Nat.reduceLeDiff, Nat.reduceMul, Nat.reduceSub, m94, h1, Nat.add_sub_cancel, ht]
    | false =>
      rw [hd] at e
      rw [List.dropWhile_cons, if_neg (by simp [hd])] at hx
      simp only [vmr, vmw, vmp, vza, ↓reduceIte, Nat.reduceBEq, Nat.reduceLT, Nat.reduceAdd, Nat.reduceEqDiff, reduceCtorEq, vmt, vzb, vzc, vlen, vleaf, velems, oks, vst, vmd, ty, Nat.reduceLeDiff, Nat.reduceMul, Nat.reduceSub, c94, Tryz.f66, m94, h0, h1, hc, e, pureLB]
      refine hx _ ?_
      simp only [vmr, vmw, vmp, vza, ↓reduceIte, Nat.reduceBEq, Nat.reduceLT, Nat.reduceAdd, Nat.reduceEqDiff, reduceCtorEq, vmt, vzb, vzc, vlen, vleaf, velems, oks, vst, vmd, ty, Nat.reduceLeDiff, Nat.reduceMul, Nat.reduceSub, m94, h0]
theorem w94 (t : List UInt8) : SoundPure Tryz.prog 66 [.str t, setP] (.ret (.str (t.dropWhile isDig))) := by
  refine s94 hT106 (t.length + 1) (by simp) rfl ?_
  have a1 := fun k out => @l94 (t.length + 1) k out t (t.length + 1)
  simp only [sub, c94, Tryz.f66, gets] at a1 ⊢
  simp only [vmr, vmw, vmp, vza, ↓reduceIte, Nat.reduceBEq, Nat.reduceLT, Nat.reduceAdd, Nat.reduceEqDiff, reduceCtorEq, vmt, vzb, vzc, vlen, vleaf, velems, oks, vst, vmd, ty, Nat.reduceLeDiff, Nat.reduceMul, Nat.reduceSub, m94]
  refine a1 _ _ _ (by omega) ?_ ?_ (fun s' h0 => ?_)
  case refine_3 => simp only [vmr, vmw, vmp, vza, ↓reduceIte, Nat.reduceBEq, Nat.reduceLT, Nat.reduceAdd, Nat.reduceEqDiff, reduceCtorEq, vmt, vzb, vzc, vlen, vleaf, velems, oks, vst, vmd, ty, Nat.reduceLeDiff, Nat.reduceMul, Nat.reduceSub, vzr, m94, h0]
  all_goals simp only [vmr, vmw, vmp, vza, ↓reduceIte, Nat.reduceBEq, Nat.reduceLT, Nat.reduceAdd, Nat.reduceEqDiff, reduceCtorEq, vmt, vzb, vzc, vlen, vleaf, velems, oks, vst, vmd, ty, Nat.reduceLeDiff, Nat.reduceMul, Nat.reduceSub, m94]
def trimR (t : List UInt8) : List UInt8 := (t.reverse.dropWhile isDig).reverse
theorem trimR_snoc (t : List UInt8) (u : UInt8) : trimR (t ++ [u]) = if isDig u = true then trimR t else t ++ [u] := by
  unfold trimR
  rw [List.reverse_append, List.reverse_singleton, List.singleton_append, List.dropWhile_cons]
  split <;> simp
theorem l95 {n k out} : ∀ (m : Nat) (t : List UInt8) n' s, t.length = m → m ≤ 1000000 → m < n' → tget s.τ 0 = .str t → tget s.τ 1 = setP → (∀ s', tget s'.τ 0 = .str (trimR t) → Fin (M95 (hand T106) n) [.tmp 4] (X (M95 (hand T106) n) (.exit 0) k s') = out) →
    Fin (M95 (hand T106) n) [.tmp 4] (L (M95 (hand T106) n) (sub [1, 0, 0, 0] c95) n' k s) = out
  | m, t, n' + 1, s, hm, hb, hn, h0, h1, hx => by
    rcases List.eq_nil_or_concat t with rfl | ⟨q, u, rfl⟩
    · have hc : ((0 : Int) > 0) = False := by decide
      rw [L_succ]
      simp only [vmr, vmw, vmp, vza, ↓reduceIte, Nat.reduceBEq, Nat.reduceLT, Nat.reduceAdd, Nat.reduceEqDiff, reduceCtorEq, vmt, vzb, vzc, vlen, vleaf, velems, oks, vst, vmd, ty, Nat.reduceLeDiff, Nat.reduceMul, Nat.reduceSub, c95, Tryz.f67, m95, h0, hc]
      refine hx _ ?_
      simp only [vmr, vmw, vmp, vza, ↓reduceIte, Nat.reduceBEq, Nat.reduceLT, Nat.reduceAdd, Nat.reduceEqDiff, reduceCtorEq, vmt, vzb, vzc, vlen, vleaf, velems, oks, vst, vmd, ty, Nat.reduceLeDiff, Nat.reduceMul, Nat.reduceSub, m95, h0]
      rfl
    · rw [List.concat_eq_append] at hm h0 hx
      have hl : (q ++ [u]).length = q.length + 1 := by simp
      have hg : (q ++ [u])[q.length]? = some u := by simp
      have ht : (q ++ [u]).take q.length = q := by simp
      have hc : (((q.length + 1 : Nat) : Int) > 0) = True := eq_true (by omega)
      have hq1 : q.length + 1 = m := by simpa using hm
      have hw : IntKind.i64.wrap (((q.length + 1 : Nat) : Int) - 1) = ((q.length : Nat) : Int) := by rw [wrap_id] <;> omega
      have hle : (q.length ≤ q.length + 1) = True := eq_true (by omega)
      have e := F106_eq u
      have ih := fun s => @l95 n k out q.length q n' s rfl (by omega) (by omega)
      simp only [sub, c95, Tryz.f67, gets] at ih
      rw [trimR_snoc] at hx
      generalize q ++ [u] = vl at h0 hl hg ht hx
      rw [L_succ]
      cases hd : isDig u with
      | true =>
        rw [hd] at e
        rw [if_pos hd] at hx
        simp only [vmr, vmw, vmp, vza, ↓reduceIte, Nat.reduceBEq, Nat.reduceLT, Nat.reduceAdd, Nat.reduceEqDiff, reduceCtorEq, vmt, vzb, vzc, vlen, vleaf, velems, oks, vst, vmd, ty, Nat.reduceLeDiff, Nat.reduceMul, Nat.reduceSub, c95, Tryz.f67, m95, h0, h1, hl, hg, ht, hc, hw, e, hle, sliceA, sliceV, boundOf, onone, Nat.sub_zero, pureLB]
        refine ih _ ?_ ?_ hx
        all_goals simp only [vmr, vmw, vmp, vza, ↓reduceIte, Nat.reduceBEq, Nat.reduceLT, Nat.reduceAdd, Nat.reduceEqDiff, reduceCtorEq, vmt, vzb, vzc, vlen, vleaf, velems, oks, vst, vmd, ty, Nat.reduceLeDiff, Nat.reduceMul, Nat.reduceSub, m95, h1]
      | false =>
        rw [hd] at e
        rw [if_neg (by simp [hd])] at hx
        simp only [vmr, vmw, vmp, vza, ↓reduceIte, Nat.reduceBEq, Nat.reduceLT, Nat.reduceAdd, Nat.reduceEqDiff, reduceCtorEq, vmt, vzb, vzc, vlen, vleaf, velems, oks, vst, vmd, ty, Nat.reduceLeDiff, Nat.reduceMul, Nat.reduceSub, c95, Tryz.f67, m95, h0, h1, hl, hg, ht, hc, hw, e, pureLB]
        refine hx _ ?_
        simp only [vmr, vmw, vmp, vza, ↓reduceIte, Nat.reduceBEq, Nat.reduceLT, Nat.reduceAdd, Nat.reduceEqDiff, reduceCtorEq, vmt, vzb, vzc, vlen, vleaf, velems, oks, vst, vmd, ty, Nat.reduceLeDiff, Nat.reduceMul, Nat.reduceSub, m95, h0]
theorem w95 (t : List UInt8) (hb : t.length ≤ 1000000) : SoundPure Tryz.prog 67 [.str t, setP] (.ret (.str (trimR t))) := by
  refine s95 hT106 (t.length + 1) (by simp) rfl ?_
  have a1 := fun k out => @l95 (t.length + 1) k out t.length t (t.length + 1)
  simp only [sub, c95, Tryz.f67, gets] at a1 ⊢
  simp only [vmr, vmw, vmp, vza, ↓reduceIte, Nat.reduceBEq, Nat.reduceLT, Nat.reduceAdd, Nat.reduceEqDiff, reduceCtorEq, vmt, vzb, vzc, vlen, vleaf, velems, oks, vst, vmd, ty, Nat.reduceLeDiff, Nat.reduceMul, Nat.reduceSub, m95]
  refine a1 _ _ _ trivial hb (by omega) ?_ ?_ (fun s' h0 => ?_)
  case refine_3 => simp only [vmr, vmw, vmp, vza, ↓reduceIte, Nat.reduceBEq, Nat.reduceLT, Nat.reduceAdd, Nat.reduceEqDiff, reduceCtorEq, vmt, vzb, vzc, vlen, vleaf, velems, oks, vst, vmd, ty, Nat.reduceLeDiff, Nat.reduceMul, Nat.reduceSub, vzr, m95, h0]
  all_goals simp only [vmr, vmw, vmp, vza, ↓reduceIte, Nat.reduceBEq, Nat.reduceLT, Nat.reduceAdd, Nat.reduceEqDiff, reduceCtorEq, vmt, vzb, vzc, vlen, vleaf, velems, oks, vst, vmd, ty, Nat.reduceLeDiff, Nat.reduceMul, Nat.reduceSub, m95]
end Go.Vi
set_option maxRecDepth 100000
set_option maxHeartbeats 1000000
namespace Go.Vi
open Go Go.Proofs

theorem shB : ∀ l : List Bool, sharesL (l.map V.bool) = false
  | [] => rfl
  | b :: l => by simp only [List.map_cons, sharesL, shares, shB l, Bool.or_self]
theorem import_B {E : Env} {d : Nat} : ∀ (l : List Bool) (j : Nat) (s : St), importL E d j (l.map V.bool) s = (l.map V.bool, s)
  | [], j, s => rfl
  | b :: l, j, s => by simp only [List.map_cons, importL, import1, import_B l]
theorem settle_B {E : Env} {lv sl : Nat} : ∀ (l : List Bool) (j : Nat) (s : St), settleL E lv sl j (l.map V.bool) s = (l.map V.bool, s)
  | [], j, s => rfl
  | b :: l, j, s => by simp only [List.map_cons, settleL, settle1, settle_B l]
theorem refsB : ∀ l : List Bool, refsL (l.map V.bool) = []
  | [] => rfl
  | b :: l => by simp only [List.map_cons, refsL, refs, refsB l, List.append_nil]
theorem allflatB (l : List Bool) : (l.map V.bool).all flatR = true := by simp [flatR]
theorem allleafB (l : List Bool) : (l.map V.bool).all leafV = true := by simp [leafV]
noncomputable def F94 : List V → Option V := hF (α := List UInt8) (fun a => [.str a, setP]) (fun _ => True) (fun a => .str (a.dropWhile isDig))
theorem F94_eq (t : List UInt8) : F94 [.str t, setP] = some (.str (t.dropWhile isDig)) := hF_eq (a := t) (fun a b h => by injection h with h _; exact Str_inj h) (by simp only [cans, can]) trivial
noncomputable def F95 : List V → Option V := hF (α := List UInt8) (fun a => [.str a, setP]) (fun a => a.length ≤ 1000000) (fun a => .str (trimR a))
theorem F95_eq {t : List UInt8} (h : t.length ≤ 1000000) : F95 [.str t, setP] = some (.str (trimR t)) := hF_eq (a := t) (fun a b h => by injection h with h _; exact Str_inj h) (by simp only [cans, can]) h
noncomputable abbrev T72 : List (FuncId × (List V → Option V)) := (65, F93) :: (66, F94) :: (67, F95) :: []
theorem hT72 : SoundHand Tryz.prog (hand T72) := sound_cons (hF_sound fun _ _ => w93) <| sound_cons (hF_sound fun a _ => w94 a) <| sound_cons (hF_sound fun a h => w95 a h) sound_nil
def trimD (s : List UInt8) : List UInt8 := (trimR s).dropWhile isDig
theorem w72 (s : List UInt8) (hb : s.length ≤ 1000000) : SoundPure Tryz.prog 48 [.str s, .str digS] (.ret (.str (trimD s))) := by
  refine s72 hT72 1 (by simp) rfl ?_
  have z1 : (digS == ([] : List UInt8)) = false := rfl
  have z2 : ((10 : Nat) : Int) = 10 := rfl
  have z3 : ((10 : Int) == 1) = false := rfl
  have e95 := F95_eq hb
  have e94 := F94_eq (trimR s)
  have hdl : List.drop 256 (zB.map V.bool) = [] := List.drop_eq_nil_of_le (by simp [zB_len])
  simp only [c72, Tryz.f48, gets]
  by_cases h : s = []
  · subst h
    have z : (([] : List UInt8) == []) = true := rfl
    simp only [vmr, vmw, vmp, vza, ↓reduceIte, Nat.reduceBEq, Nat.reduceLT, Nat.reduceAdd, Nat.reduceEqDiff, reduceCtorEq, vmt, vzb, vzc, vlen, vleaf, velems, oks, vst, vmd, ty, Nat.reduceLeDiff, Nat.reduceMul, Nat.reduceSub, vzr, m72, strOp, z]
    rfl
  · have z : (s == ([] : List UInt8)) = false := by simpa using h
    simp only [vmr, vmw, vmp, vza, ↓reduceIte, Nat.reduceBEq, Nat.reduceLT, Nat.reduceAdd, Nat.reduceEqDiff, reduceCtorEq, vmt, vzb, vzc, vlen, vleaf, velems, oks, vst, vmd, ty, Nat.reduceLeDiff, Nat.reduceMul, Nat.reduceSub, vzr, m72, strOp, z, z1, z2, z3, F93_eq, pureLB, shB, import_B, settle_B, refsB, allflatB, allleafB, digC_len, zB_len, hdl, e95, e94]
    rfl
theorem trimR_all (s : List UInt8) : (trimD s = []) ↔ s.all isDig = true := by
  have key : ∀ l : List UInt8, l.dropWhile isDig = [] ↔ l.all isDig = true := by
    intro l
    induction l with
    | nil => simp
    | cons u l ih =>
      rw [List.dropWhile_cons]
      by_cases h : isDig u = true
      · rw [if_pos h, ih]; simp [h]
      · rw [if_neg h]; simp [h]
  unfold trimD
  rw [key]
  unfold trimR
  constructor
  · intro h
    have h2 : (s.reverse.dropWhile isDig).all isDig = true := by simpa using h
    have h3 : s.reverse.dropWhile isDig = [] := by
      cases hq : s.reverse.dropWhile isDig with
      | nil => rfl
      | cons u l =>
        rw [hq] at h2
        have h4 : isDig u = true := by simp at h2; exact h2.1
        have h5 := List.head_dropWhile_not isDig (l := s.reverse) (by rw [hq]; simp)
        simp only [hq, List.head_cons] at h5
        rw [h4] at h5; cases h5
    have h6 := (key _).1 h3
    simpa using h6
  · intro h
    have h3 : s.reverse.dropWhile isDig = [] := (key _).2 (by simpa using h)
    rw [h3]
    rfl
noncomputable def F72 : List V → Option V := hF (α := List UInt8) (fun a => [.str a, .str digS]) (fun a => a.length ≤ 1000000) (fun a => .str (trimD a))
theorem F72_eq {t : List UInt8} (h : t.length ≤ 1000000) : F72 [.str t, .str digS] = some (.str (trimD t)) := hF_eq (a := t) (fun a b h => by injection h with h _; exact Str_inj h) (by simp only [cans, canStr]) h
noncomputable abbrev T30 : List (FuncId × (List V → Option V)) := (47, F71) :: (48, F72) :: []
theorem hT30 : SoundHand Tryz.prog (hand T30) := sound_cons (hF_sound fun a _ => w71 a.1 a.2) <| sound_cons (hF_sound fun a h => w72 a h) sound_nil
/-! ### Valid -/
def validT (t : List UInt8) : Bool := !(t == []) && !decide (t.length > 500) && !(t.head? == some 48) && t.all isDig
def validB (s : List UInt8) : Bool := s == [48] || validT (dropB s [45])
theorem dropB_len (s p : List UInt8) : (dropB s p).length ≤ s.length := by unfold dropB; split <;> simp
theorem w30 (s : List UInt8) : SoundPure Tryz.prog 19 [.str s] (.ret (.bool (validB s))) := by
  refine s30 hT30 1 (by simp) rfl ?_
  unfold validB
  simp only [c30, Tryz.f19, gets]
  cases h0 : s == [48] with
  | true =>
    simp only [vmr, vmw, vmp, vza, ↓reduceIte, Nat.reduceBEq, Nat.reduceLT, Nat.reduceAdd, Nat.reduceEqDiff, reduceCtorEq, vmt, vzb, vzc, vlen, vleaf, velems, oks, vst, vmd, ty, Nat.reduceLeDiff, Nat.reduceMul, Nat.reduceSub, vzr, m30, strOp, h0]
  | false =>
    have e71 := F71_eq s [45]
    have hl := dropB_len s [45]
    generalize dropB s [45] = t at *
    rw [Bool.false_or]
    unfold validT
    rcases t with _ | ⟨u, t⟩
    · have z : (([] : List UInt8) == []) = true := rfl
      simp only [vmr, vmw, vmp, vza, ↓reduceIte, Nat.reduceBEq, Nat.reduceLT, Nat.reduceAdd, Nat.reduceEqDiff, reduceCtorEq, vmt, vzb, vzc, vlen, vleaf, velems, oks, vst, vmd, ty, Nat.reduceLeDiff, Nat.reduceMul, Nat.reduceSub, vzr, m30, strOp, h0, e71, z]
    · have z : ((u :: t) == ([] : List UInt8)) = false := rfl
      by_cases h1 : t.length + 1 > 500
      · have q1 : (((t.length + 1 : Nat) : Int) > 500) = True := eq_true (by omega)
        have q1' := eq_true h1
        simp only [vmr, vmw, vmp, vza, ↓reduceIte, Nat.reduceBEq, Nat.reduceLT, Nat.reduceAdd, Nat.reduceEqDiff, reduceCtorEq, vmt, vzb, vzc, vlen, vleaf, velems, oks, vst, vmd, ty, Nat.reduceLeDiff, Nat.reduceMul, Nat.reduceSub, vzr, m30, strOp, h0, e71, z, q1, q1']
      · have q1 : (((t.length + 1 : Nat) : Int) > 500) = False := eq_false (by omega)
        have q1' := eq_false h1
        have e72 := F72_eq (t := u :: t) (by rw [List.length_cons]; omega)
        have hd : ((u.toNat : Int) == 48) = (u == 48) := by
          by_cases e : u = 48
          · subst e; rfl
          · have : ¬ (u.toNat : Int) = 48 := fun h => e (UInt8.toNat_inj.1 (by simpa using (show u.toNat = 48 by omega)))
            rw [beq_eq_false_iff_ne.2 this, beq_eq_false_iff_ne.2 e]
        have hh : (some u == some (48 : UInt8)) = (u == 48) := rfl
        cases h2 : u == 48 with
        | true =>
          rw [h2] at hd hh
          simp only [vmr, vmw, vmp, vza, ↓reduceIte, Nat.reduceBEq, Nat.reduceLT, Nat.reduceAdd, Nat.reduceEqDiff, reduceCtorEq, vmt, vzb, vzc, vlen, vleaf, velems, oks, vst, vmd, ty, Nat.reduceLeDiff, Nat.reduceMul, Nat.reduceSub, vzr, m30, strOp, h0, e71, z, q1, q1', hd, hh]
        | false =>
          rw [h2] at hd hh
          have ha : (trimD (u :: t) == []) = (u :: t).all isDig := by
            cases h3 : (u :: t).all isDig with
            | true => simpa using (trimR_all (u :: t)).2 h3
            | false => simpa using fun h => by have := (trimR_all (u :: t)).1 h; rw [h3] at this; cases this
          simp only [vmr, vmw, vmp, vza, ↓reduceIte, Nat.reduceBEq, Nat.reduceLT, Nat.reduceAdd, Nat.reduceEqDiff, reduceCtorEq, vmt, vzb, vzc, vlen, vleaf, velems, oks, vst, vmd, ty, Nat.reduceLeDiff, Nat.reduceMul, Nat.reduceSub, vzr, m30, strOp, h0, e71, z, q1, q1', hd, hh, e72, ha]
noncomputable def F30 : List V → Option V := hF (α := List UInt8) (fun a => [.str a]) (fun _ => True) (fun a => .bool (validB a))
theorem F30_eq (t : List UInt8) : F30 [.str t] = some (.bool (validB t)) := hF_eq (a := t) (one_inj' fun _ _ => Str_inj) (by simp only [cans, canStr]) trivial
end Go.Vi
set_option maxRecDepth 100000
set_option maxHeartbeats 1000000
namespace Go.Vi
open Go Go.Proofs

/-- A digit's value. -/
def dg (u : UInt8) : Nat := u.toNat - 48
/-- The value of decimal digits, the highest first. -/
def dacl : List UInt8 → Nat → Nat
  | [], a => a
  | u :: r, a => dacl r (10 * a + dg u)
abbrev dacc (a : Nat) (t : List UInt8) : Nat := dacl t a
abbrev dval (t : List UInt8) : Nat := dacc 0 t
theorem dacc_cons (a : Nat) (u : UInt8) (r : List UInt8) : dacc a (u :: r) = dacc (10 * a + dg u) r := rfl
theorem dacc_eq (t : List UInt8) : ∀ a : Nat, dacc a t = a * 10 ^ t.length + dval t := by
  induction t with
  | nil => intro a; simp [dacl]
  | cons u r ih =>
    intro a
    have h1 := ih (10 * a + dg u)
    have h2 := ih (10 * 0 + dg u)
    rw [dacc_cons, h1, show dval (u :: r) = dacc (10 * 0 + dg u) r from rfl, h2, List.length_cons, Nat.pow_succ]
    generalize 10 ^ r.length = P
    generalize dg u = d
    rw [Nat.mul_zero, Nat.zero_add, Nat.add_mul, Nat.mul_comm P 10, ← Nat.mul_assoc, Nat.mul_comm a 10]
    omega
theorem dval_append (a b : List UInt8) : dval (a ++ b) = dval a * 10 ^ b.length + dval b := by
  have key : ∀ (a : List UInt8) (n : Nat), dacc n (a ++ b) = dacc (dacc n a) b := by
    intro a
    induction a with
    | nil => intro n; rfl
    | cons u a ih => intro n; exact ih _
  show dacc 0 (a ++ b) = _
  rw [key, dacc_eq]
theorem dval_lt (t : List UInt8) : t.all isDig = true → dval t < 10 ^ t.length := by
  induction t with
  | nil => intro _; simp [dacl]
  | cons u r ih =>
    intro h
    simp only [List.all_cons, Bool.and_eq_true, isDig, decide_eq_true_eq] at h
    have ih := ih h.2
    have h2 := dacc_eq r (10 * 0 + dg u)
    rw [show dval (u :: r) = dacc (10 * 0 + dg u) r from rfl, h2, List.length_cons, Nat.pow_succ]
    have : (10 * 0 + dg u) * 10 ^ r.length ≤ 9 * 10 ^ r.length := Nat.mul_le_mul_right _ (by unfold dg; omega)
    generalize 10 ^ r.length = P at *
    omega
/-- What stands ahead of a place. -/
theorem dval_take {t : List UInt8} (h : t.all isDig = true) (k : Nat) : dval (t.take k) = dval t / 10 ^ (t.length - k) := by
  have e : t = t.take k ++ t.drop k := (List.take_append_drop k t).symm
  have hd : (t.drop k).all isDig = true := by
    rw [List.all_eq_true] at h ⊢
    exact fun x hx => h x (List.mem_of_mem_drop hx)
  have hl := dval_lt _ hd
  have e2 := dval_append (t.take k) (t.drop k)
  rw [← e] at e2
  rw [List.length_drop] at e2 hl
  rw [e2, Nat.mul_comm, Nat.mul_add_div (Nat.pow_pos (by omega)), Nat.div_eq_of_lt hl, Nat.add_zero]
theorem dval_chunk {t : List UInt8} (h : t.all isDig = true) (j : Nat) (hj : 4 * j < t.length) :
    dval ((t.drop (t.length - 4 * (j + 1))).take (t.length - 4 * j - (t.length - 4 * (j + 1)))) = dval t / 10000 ^ j % 10000 := by
  have hp : ∀ m, (10000 : Nat) ^ m = 10 ^ (4 * m) := fun m => by rw [Nat.pow_mul]
  generalize hb : t.length - 4 * (j + 1) = b
  generalize he : t.length - 4 * j = e
  have h1 : dval (t.take e) = dval t / 10000 ^ j := by rw [dval_take h, hp, show t.length - e = 4 * j by omega]
  have e2 : (t.drop b).take (e - b) = (t.take e).drop b := by rw [List.drop_take]
  rw [e2, ← h1]
  have h3 := dval_append ((t.take e).take b) ((t.take e).drop b)
  rw [List.take_append_drop] at h3
  have hd : ((t.take e).drop b).all isDig = true := by
    rw [List.all_eq_true] at h ⊢
    exact fun x hx => h x (List.mem_of_mem_take (List.mem_of_mem_drop hx))
  have hl := dval_lt _ hd
  have hlen : ((t.take e).drop b).length = e - b := by simp; omega
  rw [hlen] at h3 hl
  by_cases hb0 : b = 0
  · subst hb0
    simp only [List.take_zero, List.drop_zero] at h3 hl ⊢
    have : 10 ^ (e - 0) ≤ 10 ^ 4 := Nat.pow_le_pow_right (by omega) (by omega)
    rw [Nat.mod_eq_of_lt (by omega)]
  · have : e - b = 4 := by omega
    rw [this] at h3 hl
    rw [h3]
    omega
end Go.Vi
set_option maxRecDepth 100000
set_option maxHeartbeats 1000000
namespace Go.Vi
open Go Go.Proofs

noncomputable abbrev T50 : List (FuncId × (List V → Option V)) := (19, F30) :: (49, F83) :: (35, F63) :: []
theorem hT50 : SoundHand Tryz.prog (hand T50) := sound_cons (hF_sound fun a _ => w30 a) <| sound_cons (hF_sound fun a _ => w83 a.1 a.2) <| sound_cons (hF_sound fun a h => w63 a h) sound_nil
noncomputable abbrev K50 : List (FuncId × (List V → Option COut)) := (22, F51) :: []
theorem hK50 : SoundTab Tryz.prog (tabT K50) := tabs_cons (hO_sound fun a _ => w51 a.1 a.2) tabs_nil
structure P50 (s : St) (t : List UInt8) (neg : Bool) (v2 vr j D : Nat) (e : Int) : Prop where
  h2 : tget s.τ 2 = .ptr ⟨0, 2, 0⟩ v2 0 0
  h2' : lget s.L (2, 0) = some (v2, .var [.bool false, .nilS])
  h3 : tget s.τ 3 = .str t
  h4 : tget s.τ 4 = .bool neg
  h5 : tget s.τ 5 = .ref ⟨0, 5, 0⟩ vr 0 j
  h5' : lget s.L (5, 0) = some (vr, .arr (szi j) ((fx 10000 j D).map I))
  h6 : tget s.τ 6 = I e
theorem wrapN' {a : Nat} (h : a ≤ 100010000) : IntKind.i64.wrap ((a : Nat) : Int) = ((a : Nat) : Int) := by rw [wrap_id] <;> omega
theorem fits5 (n : Int) : fitsE Tryz.prog 5 (.int .u8 n) = true := by simp [fitsE, ty, leafV]
theorem l50b {n k out} {t neg v2 vr j D e} (c : List UInt8) (hcd : c.all isDig = true) (hcl : c.length ≤ 4) : ∀ r i limb n' s, c.drop i = r → r.length < n' → P50 s t neg v2 vr j D e → tget s.τ 30 = U8s c → tget s.τ 31 = I c.length → tget s.τ 32 = I (i : Nat) → tget s.τ 7 = I (limb : Nat) → limb < 10 ^ i →
    (∀ s', P50 s' t neg v2 vr j D e → tget s'.τ 7 = I (dacc limb r : Nat) → Fin (tm (tabT K50) (M50 (hand T50) n)) [.cell 2 45] (X (tm (tabT K50) (M50 (hand T50) n)) (.exit 2) k s') = out) →
    Fin (tm (tabT K50) (M50 (hand T50) n)) [.cell 2 45] (L (tm (tabT K50) (M50 (hand T50) n)) (sub [1, 1, 1, 1, 0, 1, 0, 0, 1, 0, 0, 1, 0, 1, 0, 0] c50) n' k s) = out := by
  intro r
  induction r with
  | nil =>
    intro i limb n' s hi hn hP h30 h31 h32 h7 hlt hx
    obtain ⟨n', rfl⟩ : ∃ m, n' = m + 1 := ⟨n' - 1, by omega⟩
    obtain ⟨h2, h2', h3, h4, h5, h5', h6⟩ := hP
    have hc := inlt (drop_nil' hi)
    rw [L_succ]
    simp only [vmr, vmw, vmp, vza, ↓reduceIte, Nat.reduceBEq, Nat.reduceLT, Nat.reduceAdd, Nat.reduceEqDiff, reduceCtorEq, vmt, vzb, vzc, vlen, vleaf, velems, oks, vst, vmd, ty, Nat.reduceLeDiff, Nat.reduceMul, Nat.reduceSub, c50, Tryz.f21, m50, h31, h32, hc]
    refine hx _ ⟨?_, ?_, ?_, ?_, ?_, ?_, ?_⟩ ?_
    all_goals simp only [vmr, vmw, vmp, vza, ↓reduceIte, Nat.reduceBEq, Nat.reduceLT, Nat.reduceAdd, Nat.reduceEqDiff, reduceCtorEq, vmt, vzb, vzc, vlen, vleaf, velems, oks, vst, vmd, ty, Nat.reduceLeDiff, Nat.reduceMul, Nat.reduceSub, m50, h2, h2', h3, h4, h5, h5', h6, h7, dacl]
  | cons u r ih =>
    intro i limb n' s hi hn hP h30 h31 h32 h7 hlt hx
    obtain ⟨n', rfl⟩ : ∃ m, n' = m + 1 := ⟨n' - 1, by omega⟩
    obtain ⟨h2, h2', h3, h4, h5, h5', h6⟩ := hP
    obtain ⟨hg, hd, hlt2⟩ := drop_cons hi
    have hc := ilt hlt2
    have hw := wsucc9' (i := i) (by omega)
    have hgm : (c.map fun u => V.int .u8 (u.toNat : Int))[i]? = some (.int .u8 u.toNat) := by simp [hg]
    have hu : isDig u = true := List.all_eq_true.1 hcd u (List.mem_of_getElem? hg)
    simp only [isDig, Bool.and_eq_true, decide_eq_true_eq] at hu
    have hdg : dg u ≤ 9 := by unfold dg; omega
    have hl9 : limb ≤ 9999 := by
      have : 10 ^ i ≤ 10 ^ 4 := Nat.pow_le_pow_right (by omega) (by omega)
      omega
    have w1 : IntKind.i64.wrap (10 * (limb : Int)) = ((10 * limb : Nat) : Int) := by rw [wrap_id] <;> omega
    have w2 : IntKind.u8.wrap ((u.toNat : Int) - 48) = ((dg u : Nat) : Int) := by
      unfold dg
      simp [IntKind.wrap, IntKind.signed, IntKind.bits]
      omega
    have ih := fun s => ih (i + 1) (10 * limb + dg u) n' s hd (by simp at hn; omega)
    have hlt' : 10 * limb + dg u < 10 ^ (i + 1) := by rw [Nat.pow_succ]; omega
    rw [show dacc limb (u :: r) = dacc (10 * limb + dg u) r from rfl] at hx
    generalize dg u = du at *
    have w3 : IntKind.i64.wrap ((du : Nat) : Int) = ((du : Nat) : Int) := wrapN' (by omega)
    have w4 : IntKind.i64.wrap (((10 * limb : Nat) : Int) + ((du : Nat) : Int)) = ((10 * limb + du : Nat) : Int) := by rw [wrap_id] <;> omega
    simp only [sub, c50, Tryz.f21, gets] at ih
    rw [L_succ]
    simp only [vmr, vmw, vmp, vza, ↓reduceIte, Nat.reduceBEq, Nat.reduceLT, Nat.reduceAdd, Nat.reduceEqDiff, reduceCtorEq, vmt, vzb, vzc, vlen, vleaf, velems, oks, vst, vmd, ty, Nat.reduceLeDiff, Nat.reduceMul, Nat.reduceSub, c50, Tryz.f21, m50, h7, h30, h31, h32, hc, hgm, fits5, hw, w1, w2, w3, w4]
    refine ih _ ⟨?_, ?_, ?_, ?_, ?_, ?_, ?_⟩ ?_ ?_ ?_ ?_ hlt' hx
    all_goals simp only [vmr, vmw, vmp, vza, ↓reduceIte, Nat.reduceBEq, Nat.reduceLT, Nat.reduceAdd, Nat.reduceEqDiff, reduceCtorEq, vmt, vzb, vzc, vlen, vleaf, velems, oks, vst, vmd, ty, Nat.reduceLeDiff, Nat.reduceMul, Nat.reduceSub, m50, h2, h2', h3, h4, h5, h5', h6, h30, h31]
theorem st100 : strT Tryz.prog 70 = false := by kernel_rfl
theorem u100 : u8T Tryz.prog 70 = true := by kernel_rfl
theorem l50 {n k out} {t : List UInt8} {neg v2} (ht : t.all isDig = true) (hb : t.length ≤ 100000) (hnn : 5 < n) : ∀ d j vr n' s, t.length ≤ 4 * (j + d) → j ≤ 30000 → d < n' → P50 s t neg v2 vr j (dval t) ((t.length : Int) - 4 * (j : Nat)) →
    (∀ s' vr j e, t.length ≤ 4 * j → j ≤ 30001 → P50 s' t neg v2 vr j (dval t) e → Fin (tm (tabT K50) (M50 (hand T50) n)) [.cell 2 45] (X (tm (tabT K50) (M50 (hand T50) n)) (.exit 0) k s') = out) →
    Fin (tm (tabT K50) (M50 (hand T50) n)) [.cell 2 45] (L (tm (tabT K50) (M50 (hand T50) n)) (sub [1, 1, 1, 1, 0, 1, 0, 0] c50) n' k s) = out := by
  intro d
  induction d with
  | zero =>
    intro j vr n' s hd hj hn hP hx
    obtain ⟨n', rfl⟩ : ∃ m, n' = m + 1 := ⟨n' - 1, by omega⟩
    obtain ⟨h2, h2', h3, h4, h5, h5', h6⟩ := hP
    have hc : ((t.length : Int) - 4 * (j : Nat) > 0) = False := eq_false (by omega)
    rw [L_succ]
    simp only [vmr, vmw, vmp, vza, ↓reduceIte, Nat.reduceBEq, Nat.reduceLT, Nat.reduceAdd, Nat.reduceEqDiff, reduceCtorEq, vmt, vzb, vzc, vlen, vleaf, velems, oks, vst, vmd, ty, Nat.reduceLeDiff, Nat.reduceMul, Nat.reduceSub, c50, Tryz.f21, m50, h6, hc]
    refine hx _ vr j ((t.length : Int) - 4 * (j : Nat)) (by omega) (by omega) ⟨?_, ?_, ?_, ?_, ?_, ?_, ?_⟩
    all_goals simp only [vmr, vmw, vmp, vza, ↓reduceIte, Nat.reduceBEq, Nat.reduceLT, Nat.reduceAdd, Nat.reduceEqDiff, reduceCtorEq, vmt, vzb, vzc, vlen, vleaf, velems, oks, vst, vmd, ty, Nat.reduceLeDiff, Nat.reduceMul, Nat.reduceSub, m50, h2, h2', h3, h4, h5, h5', h6]
  | succ d ih =>
    intro j vr n' s hd hj hn hP hx
    obtain ⟨n', rfl⟩ : ∃ m, n' = m + 1 := ⟨n' - 1, by omega⟩
    obtain ⟨h2, h2', h3, h4, h5, h5', h6⟩ := hP
    by_cases hex : t.length ≤ 4 * j
    · have hc : ((t.length : Int) - 4 * (j : Nat) > 0) = False := eq_false (by omega)
      rw [L_succ]
      simp only [vmr, vmw, vmp, vza, ↓reduceIte, Nat.reduceBEq, Nat.reduceLT, Nat.reduceAdd, Nat.reduceEqDiff, reduceCtorEq, vmt, vzb, vzc, vlen, vleaf, velems, oks, vst, vmd, ty, Nat.reduceLeDiff, Nat.reduceMul, Nat.reduceSub, c50, Tryz.f21, m50, h6, hc]
      refine hx _ vr j ((t.length : Int) - 4 * (j : Nat)) (by omega) (by omega) ⟨?_, ?_, ?_, ?_, ?_, ?_, ?_⟩
      all_goals simp only [vmr, vmw, vmp, vza, ↓reduceIte, Nat.reduceBEq, Nat.reduceLT, Nat.reduceAdd, Nat.reduceEqDiff, reduceCtorEq, vmt, vzb, vzc, vlen, vleaf, velems, oks, vst, vmd, ty, Nat.reduceLeDiff, Nat.reduceMul, Nat.reduceSub, m50, h2, h2', h3, h4, h5, h5', h6]
    · have hlt : 4 * j < t.length := by omega
      have hj2 : j ≤ 25000 := by omega
      have hch := dval_chunk ht j hlt
      have hsn := fx_snoc 10000 j (dval t)
      rw [← hch] at hsn
      have ee : (t.length : Int) - 4 * (j : Nat) = ((t.length - 4 * j : Nat) : Int) := by omega
      have hmax : (if (((t.length - 4 * j : Nat) : Int) - 4) > 0 then (((t.length - 4 * j : Nat) : Int) - 4) else 0) = ((t.length - 4 * (j + 1) : Nat) : Int) := by split <;> omega
      rw [ee] at h6
      have hc : (((t.length - 4 * j : Nat) : Int) > 0) = True := eq_true (by omega)
      have w1 : IntKind.i64.wrap (((t.length - 4 * j : Nat) : Int) - 4) = ((t.length - 4 * j : Nat) : Int) - 4 := by rw [wrap_id] <;> omega
      have e2 : ((t.length - 4 * j : Nat) : Int) - 4 = (t.length : Int) - 4 * ((j + 1 : Nat) : Int) := by omega
      have hle : (t.length - 4 * (j + 1) ≤ t.length - 4 * j ∧ t.length - 4 * j ≤ t.length) = True := eq_true ⟨by omega, by omega⟩
      have hall : ((t.drop (t.length - 4 * (j + 1))).take (t.length - 4 * j - (t.length - 4 * (j + 1)))).all isDig = true := by
        rw [List.all_eq_true] at ht ⊢
        exact fun x hx => ht x (List.mem_of_mem_drop (List.mem_of_mem_take hx))
      have hcl : ((t.drop (t.length - 4 * (j + 1))).take (t.length - 4 * j - (t.length - 4 * (j + 1)))).length ≤ 4 := by rw [List.length_take]; omega
      have hcl2 : (((t.drop (t.length - 4 * (j + 1))).take (t.length - 4 * j - (t.length - 4 * (j + 1)))).length ≤ 9223372036854775807) = True := eq_true (by omega)
      have hl9 := dval_lt _ hall
      have ih := fun vr s => ih (j + 1) vr n' s (by omega) (by omega) (by omega)
      rw [← e2] at ih
      have hr1 := @room3 1 (by omega)
      have hr2 := @room3 (j + 1) (by omega)
      generalize hlo : t.length - 4 * (j + 1) = lo at *
      generalize hhi : t.length - 4 * j = hi at *
      generalize hck : (t.drop lo).take (hi - lo) = ck at *
      have a1 := fun k out s => @l50b n k out t neg v2 vr j (dval t) (hi : Int) ck hall hcl ck 0 0 n s rfl (by omega)
      simp only [sub, c50, Tryz.f21, gets] at a1 ih
      rw [L_succ]
      simp only [vmr, vmw, vmp, vza, ↓reduceIte, Nat.reduceBEq, Nat.reduceLT, Nat.reduceAdd, Nat.reduceEqDiff, reduceCtorEq, vmt, vzb, vzc, vlen, vleaf, velems, oks, vst, vmd, ty, Nat.reduceLeDiff, Nat.reduceMul, Nat.reduceSub, c50, Tryz.f21, m50, h3, h6, hc, w1, maxL, hmax, sliceA, sliceV, boundOf, hle, hck, convB, st100, u100, hcl2]
      refine a1 _ _ _ ⟨?_, ?_, ?_, ?_, ?_, ?_, ?_⟩ ?_ ?_ ?_ ?_ (by simp) (fun s' ⟨h2, h2', h3, h4, h5, h5', h6⟩ h7 => ?_)
      case refine_12 =>
        cases j with
        | zero =>
          simp only [szi0, fx0, List.map_nil] at h5'
          simp only [z0, Nat.zero_add] at hr2 hsn
          simp only [vmr, vmw, vmp, vza, ↓reduceIte, Nat.reduceBEq, Nat.reduceLT, Nat.reduceAdd, Nat.reduceEqDiff, reduceCtorEq, vmt, vzb, vzc, vlen, vleaf, velems, oks, vst, vmd, ty, Nat.reduceLeDiff, Nat.reduceMul, Nat.reduceSub, m50, h2, h2', h3, h4, h5, h5', h6, h7, hr1, hr2, fitsI, List.map_cons, w1]
          refine ih (s'.c + 1 + 1) _ ⟨?_, ?_, ?_, ?_, ?_, ?_, ?_⟩ hx
          all_goals simp only [vmr, vmw, vmp, vza, ↓reduceIte, Nat.reduceBEq, Nat.reduceLT, Nat.reduceAdd, Nat.reduceEqDiff, reduceCtorEq, vmt, vzb, vzc, vlen, vleaf, velems, oks, vst, vmd, ty, Nat.reduceLeDiff, Nat.reduceMul, Nat.reduceSub, m50, h2, h2', h3, h4, szis, hsn, fx0, List.map_cons]
        | succ i =>
          rw [szis] at h5'
          simp only [vmr, vmw, vmp, vza, ↓reduceIte, Nat.reduceBEq, Nat.reduceLT, Nat.reduceAdd, Nat.reduceEqDiff, reduceCtorEq, vmt, vzb, vzc, vlen, vleaf, velems, oks, vst, vmd, ty, Nat.reduceLeDiff, Nat.reduceMul, Nat.reduceSub, m50, h2, h2', h3, h4, h5, h5', h6, h7, hr1, hr2, fitsI, fx_len, List.map_cons, w1]
          refine ih (s'.c + 1 + 1) _ ⟨?_, ?_, ?_, ?_, ?_, ?_, ?_⟩ hx
          all_goals simp only [vmr, vmw, vmp, vza, ↓reduceIte, Nat.reduceBEq, Nat.reduceLT, Nat.reduceAdd, Nat.reduceEqDiff, reduceCtorEq, vmt, vzb, vzc, vlen, vleaf, velems, oks, vst, vmd, ty, Nat.reduceLeDiff, Nat.reduceMul, Nat.reduceSub, m50, h2, h2', h3, h4, szis, hsn, List.map_append, List.map_cons, List.length_append, fx_len]
      all_goals simp only [vmr, vmw, vmp, vza, ↓reduceIte, Nat.reduceBEq, Nat.reduceLT, Nat.reduceAdd, Nat.reduceEqDiff, reduceCtorEq, vmt, vzb, vzc, vlen, vleaf, velems, oks, vst, vmd, ty, Nat.reduceLeDiff, Nat.reduceMul, Nat.reduceSub, m50, h2, h2', h3, h4, h5, h5', h6]
theorem valid_dig {s : List UInt8} (h : validB s = true) : (dropB s [45]).all isDig = true ∧ (dropB s [45]).length ≤ 500 := by
  unfold validB at h
  rw [Bool.or_eq_true] at h
  rcases h with h | h
  · have : s = [48] := by simpa using h
    subst this
    exact ⟨rfl, by decide⟩
  · unfold validT at h
    simp only [Bool.and_eq_true, Bool.not_eq_true', decide_eq_false_iff_not] at h
    exact ⟨h.2, by omega⟩
def outT (b : Bool) (v : V) (e : Int) : COut := if b = true then .ret v else .pan (fault e)
theorem w50 (s : List UInt8) : SoundPure Tryz.prog 21 [.str s] (outT (validB s) (Z (preB s [45]) (lm 10000 (dval (dropB s [45])))) 2) := by
  have e30 := F30_eq s
  have e83 := F83_eq s [45]
  have e51 := F51_eq (validB s) 2
  unfold outT
  refine sound_ofT (C := Cx (hand T50)) hT50 good mixed hK50 Tryz.func21 rfl (by simp) (n := s.length + 6) ?_ ?_
  · cases validB s
    · rfl
    · simp only [if_true, pureR, pureRL, pureLI, Bool.and_self]
  cases hv : validB s with
  | false =>
    rw [hv] at e30 e51
    simp only [Bool.false_eq_true, if_false] at e51 ⊢
    show Fin (tm (tabT K50) (M50 (hand T50) (s.length + 6))) [.cell 2 45] (R (tm (tabT K50) (M50 (hand T50) (s.length + 6))) c50 .top _) = _
    simp only [c50, Tryz.f21, gets]
    simp only [vmr, vmw, vmp, vza, ↓reduceIte, Nat.reduceBEq, Nat.reduceLT, Nat.reduceAdd, Nat.reduceEqDiff, reduceCtorEq, vmt, vzb, vzc, vlen, vleaf, velems, oks, vst, vmd, ty, Nat.reduceLeDiff, Nat.reduceMul, Nat.reduceSub, vzr, m50, e30, e51]
  | true =>
    rw [hv] at e30 e51
    simp only [if_true] at e51 ⊢
    obtain ⟨h1, h2⟩ := valid_dig hv
    have hl := dropB_len s [45]
    show Fin (tm (tabT K50) (M50 (hand T50) (s.length + 6))) [.cell 2 45] (R (tm (tabT K50) (M50 (hand T50) (s.length + 6))) c50 .top _) = _
    generalize dropB s [45] = t at *
    generalize preB s [45] = neg at *
    have a1 := fun v2 k out s1 => @l50 (s.length + 6) k out t neg v2 h1 (by omega) (by omega) t.length 0 1 (s.length + 6) s1 (by omega) (by omega) (by omega)
    simp only [sub, c50, Tryz.f21, gets] at a1 ⊢
    simp only [vmr, vmw, vmp, vza, ↓reduceIte, Nat.reduceBEq, Nat.reduceLT, Nat.reduceAdd, Nat.reduceEqDiff, reduceCtorEq, vmt, vzb, vzc, vlen, vleaf, velems, oks, vst, vmd, ty, Nat.reduceLeDiff, Nat.reduceMul, Nat.reduceSub, m50, e30, e51, e83]
    refine a1 0 _ _ _ ⟨?_, ?_, ?_, ?_, ?_, ?_, ?_⟩ (fun s' vr j e hle hj ⟨h2, h2', h3, h4, h5, h5', h6⟩ => ?_)
    case refine_8 =>
      have hlt : dval t < 10000 ^ j := by
        have := dval_lt t h1
        have h3 : (10 : Nat) ^ t.length ≤ 10 ^ (4 * j) := Nat.pow_le_pow_right (by omega) hle
        rw [Nat.pow_mul, show (10 : Nat) ^ 4 = 10000 from rfl] at h3
        omega
      have e63 := F63_fx (k := j) (n := dval t) (by omega) hlt
      have htk : List.take j ((fx 10000 j (dval t)).map I) = (fx 10000 j (dval t)).map I := take_of _ (fx_len ..)
      simp only [vmr, vmw, vmp, vza, ↓reduceIte, Nat.reduceBEq, Nat.reduceLT, Nat.reduceAdd, Nat.reduceEqDiff, reduceCtorEq, vmt, vzb, vzc, vlen, vleaf, velems, oks, vst, vmd, ty, Nat.reduceLeDiff, Nat.reduceMul, Nat.reduceSub, vzr, m50, h2, h2', h4, h5, h5', e63, fx_len, allflatI, pureLI, shI, htk]
    all_goals simp only [vmr, vmw, vmp, vza, ↓reduceIte, Nat.reduceBEq, Nat.reduceLT, Nat.reduceAdd, Nat.reduceEqDiff, reduceCtorEq, vmt, vzb, vzc, vlen, vleaf, velems, oks, vst, vmd, ty, Nat.reduceLeDiff, Nat.reduceMul, Nat.reduceSub, m50, szi0, fx0]
    exact congrArg I (show (t.length : Int) = (t.length : Int) - 4 * 0 by omega)
noncomputable def F50 : List V → Option COut := hO (α := List UInt8) (fun a => [.str a]) (fun _ => True) (fun s => outT (validB s) (Z (preB s [45]) (lm 10000 (dval (dropB s [45])))) 2)
theorem F50_eq (s : List UInt8) : F50 [.str s] = some (outT (validB s) (Z (preB s [45]) (lm 10000 (dval (dropB s [45])))) 2) := hO_eq (a := s) (one_inj' fun _ _ => Str_inj) (by simp only [cans, canStr]) trivial
end Go.Vi
