/-
  ApplyUses's comparison of two uses, and slices.EqualFunc by it.
-/
import Derived.Test.YtpibnnopnhmijaaGreatDoorS2
import Derived.Tactics
import Derived.Tactics2
import Derived.Laws.StructEq
import Derived.Test.YtpibnnopnhmijaaGreatDoorS1
import Derived.Lib.AtoiAll
set_option linter.unusedSimpArgs false
set_option linter.unusedVariables false
set_option maxRecDepth 100000
set_option maxHeartbeats 1000000
namespace Go.Vi
open Go Go.Proofs Go.RowKit
end Go.Vi
set_option maxRecDepth 100000
set_option maxHeartbeats 1000000
namespace Go.Vi
open Go Go.Proofs
def A29 (s : St) (d : Ns) : Prop := ∃ v9 sz, (sz = 1 ∨ sz = 0) ∧ tget s.τ 9 = .ref ⟨0, 9, 0⟩ v9 0 d.length ∧ lget s.L (9, 0) = some (v9, .arr sz (d.map .str))
theorem A29.of {s d} (h : tget s.τ 9 = .ref ⟨0, 9, 0⟩ (ver s (9, 0)) 0 d.length) (h' : lget s.L (9, 0) = some (ver s (9, 0), .arr 1 (d.map .str))) : A29 s d := ⟨_, 1, .inl rfl, h, h'⟩
theorem room9 {n : Nat} (h : n ≤ 2000000) : roomOk Tryz.prog 9 n = true := by simp [roomOk, ty, cellsV, leafV]; omega
theorem fits9 (s : List UInt8) : fitsE Tryz.prog 9 (.str s) = true := by simp [fitsE, ty, leafV]
end Go.Vi
set_option maxRecDepth 100000
set_option maxHeartbeats 1000000
namespace Go.Vi
open Go Go.Proofs
def nvL (w : Ns) (l : List Tm) : Ns := (visL varS w l).2
def adV (w : Ns) (x : List UInt8) : Ns := if x = [] ∨ w.contains x = true then w else w ++ [x]
theorem nvL_cons (w : Ns) (k : Int) (s : List UInt8) (c r : List Tm) : nvL w (.mk k s c :: r) = nvL (nvL (adV w (nameP k s)) c) r := by
  unfold nvL
  simp only [visL, visT, varS]
  have := var_L c (adV w (nameP k s))
  unfold adV at this ⊢
  generalize visL varS (if nameP k s = [] ∨ w.contains (nameP k s) = true then w else w ++ [nameP k s]) c = q at this ⊢
  obtain ⟨b, x⟩ := q
  dsimp only at this ⊢
  subst this
  rfl
theorem adV_len (w : Ns) (x) : (adV w x).length ≤ w.length + 1 := by unfold adV; split <;> simp
mutual
theorem nv_lenT : ∀ (t : Tm) (w : Ns), (visT varS w t).2.length ≤ w.length + szt t
  | .mk k s c, w => by
    rw [szt]
    have h1 := adV_len w (nameP k s)
    have h2 := nv_lenL c (adV w (nameP k s))
    simp only [visT, varS]
    unfold adV at h1 h2
    omega
theorem nv_lenL : ∀ (l : List Tm) (w : Ns), (visL varS w l).2.length ≤ w.length + szs l
  | [], w => Nat.le_refl _
  | t :: r, w => by
    have h1 := nv_lenT t w
    have h2 := var_T t w
    simp only [visL, szs]
    revert h1 h2
    generalize visT varS w t = q
    obtain ⟨b, x⟩ := q
    intro h1 h2
    dsimp only at h1 h2
    subst h2
    have := nv_lenL r x
    dsimp only
    omega
end
theorem nvL_len (w : Ns) (l : List Tm) : (nvL w l).length ≤ w.length + szs l := nv_lenL l w
noncomputable def F1065 (m : Nat) : List V → Option V := hF (α := List Tm × Ns) (fun p => [Ts p.1, Ss p.2]) (fun p => szs p.1 < m ∧ txs p.1 ∧ p.2.length + szs p.1 ≤ 1000000) (fun p => Ss (nvL p.2 p.1))
theorem F1065_eq {m : Nat} {a : List Tm} {w : Ns} (h : szs a < m) (ho : txs a) (hw : w.length + szs a ≤ 1000000) : F1065 m [Ts a, Ss w] = some (Ss (nvL w a)) := hF_eq (a := (a, w)) (two_inj (fun _ _ => Ts_inj) (fun _ _ => SsV_inj)) (by simp only [cans, can_Ts, can_Ss]) ⟨h, ho, hw⟩
noncomputable abbrev T1065 (m : Nat) : List (FuncId × (List V → Option V)) := [(65, F1065 m), (92, FnameP), (93, Fhas)]
def P1065 (m n : Nat) (v : V) (r : Option (Ex × St)) : Prop := Fin (M1065 (hand (T1065 m)) n) [.tmp 4] r = some (.ret v)
theorem l1065 {m n k v} (a : List Tm) (hm : szs a ≤ m) (hb : szs a ≤ 1000000) (ho : txs a) : ∀ r i w n' s, a.drop i = r → r.length < n' → w.length + szs r ≤ 1000000 → tget s.τ 0 = Ts a → tget s.τ 1 = Ss w → tget s.τ 5 = I (i : Nat) →
    Ss (nvL w r) = v → (∀ s', tget s'.τ 1 = v → P1065 m n v (X (M1065 (hand (T1065 m)) n) (.exit 0) k s')) →
    P1065 m n v (L (M1065 (hand (T1065 m)) n) (sub [1, 0, 1, 0, 0] c1065) n' k s)
  | [], i, w, n' + 1, s, hi, hn, hw, h0, h1, h5, hv, hx => by
    have hc := inlt (drop_nil' hi)
    rw [L_succ]
    simp only [vmr, vmw, vmp, vza, ↓reduceIte, Nat.reduceBEq, Nat.reduceLT, Nat.reduceAdd, Nat.reduceEqDiff, reduceCtorEq, vmt, vzb, vzc, vlen, vleaf, velems, oks, vst, vmd, ty, Nat.reduceLeDiff, Nat.reduceMul, Nat.reduceSub, c1065, Tryz.f65, m1065, h0, h5, hc]
    refine hx _ ?_
    simp only [vmr, vmw, vmp, vza, ↓reduceIte, Nat.reduceBEq, Nat.reduceLT, Nat.reduceAdd, Nat.reduceEqDiff, reduceCtorEq, vmt, vzb, vzc, vlen, vleaf, velems, oks, vst, vmd, ty, Nat.reduceLeDiff, Nat.reduceMul, Nat.reduceSub, m1065, h1]
    exact hv
  | .mk k1 s1 c1 :: r, i, w, n' + 1, s, hi, hn, hw, h0, h1, h5, hv, hx => by
    obtain ⟨g1, g2, g3⟩ := drop_cons hi
    have hcl := ilt g3
    have ga : (a.map tv)[i]? = some (.agg [I k1, .str s1, Ts c1]) := by rw [List.getElem?_map, g1, Option.map_some, tv_mk]
    have hsz := szs_mem (l := a) (List.mem_of_getElem? g1)
    have hlen := szs_len a
    have w4 := wsuc g3 (by omega)
    have ho1 := txs_mem ho (List.mem_of_getElem? g1)
    simp only [txt1] at ho1
    simp only [szs, szt] at hw
    have e1 := Ftm_eq (f := fun k s => .str (nameP k s)) k1 c1 ho1.1
    have e2 := Fhas_eq (a := w) (x := nameP k1 s1) (by omega)
    have ih := fun w s => l1065 (n := n) (k := k) (v := v) a hm hb ho r (i + 1) w n' s g2 (by simp at hn; omega)
    simp only [sub, c1065, Tryz.f65, gets] at ih
    rw [nvL_cons] at hv
    have hl1 := adV_len w (nameP k1 s1)
    have hl2 := nvL_len (adV w (nameP k1 s1)) c1
    have e3 := F1065_eq (m := m) (a := c1) (w := adV w (nameP k1 s1)) (by omega) ho1.2 (by omega)
    rw [L_succ]
    by_cases q1 : nameP k1 s1 = []
    · have q1' : (nameP k1 s1 != []) = false := by simp [q1]
      have hq : (nameP k1 s1 == []) = true := by simp [q1]
      have ha : adV w (nameP k1 s1) = w := by unfold adV; rw [if_pos (.inl q1)]
      rw [ha] at e3 hv hl2
      simp only [vmr, vmw, vmp, vza, ↓reduceIte, Nat.reduceBEq, Nat.reduceLT, Nat.reduceAdd, Nat.reduceEqDiff, reduceCtorEq, vmt, vzb, vzc, vlen, vleaf, velems, oks, vst, vmd, ty, Nat.reduceLeDiff, Nat.reduceMul, Nat.reduceSub, c1065, Tryz.f65, m1065, h0, h1, h5, hcl, ga, w4, e1, e2, e3, q1', hq, strOp, Bool.not_true, Bool.not_false]
      refine ih (nvL w c1) _ (by omega) ?_ ?_ ?_ hv hx
      all_goals simp only [vmr, vmw, vmp, vza, ↓reduceIte, Nat.reduceBEq, Nat.reduceLT, Nat.reduceAdd, Nat.reduceEqDiff, reduceCtorEq, vmt, vzb, vzc, vlen, vleaf, velems, oks, vst, vmd, ty, Nat.reduceLeDiff, Nat.reduceMul, Nat.reduceSub, m1065, h0]
    · have q1' : (nameP k1 s1 != []) = true := by simpa using q1
      have hq : (nameP k1 s1 == []) = false := by simpa using q1
      cases q2 : w.contains (nameP k1 s1) with
      | true =>
        rw [q2] at e2
        have ha : adV w (nameP k1 s1) = w := by unfold adV; rw [if_pos (.inr q2)]
        rw [ha] at e3 hv hl2
        simp only [vmr, vmw, vmp, vza, ↓reduceIte, Nat.reduceBEq, Nat.reduceLT, Nat.reduceAdd, Nat.reduceEqDiff, reduceCtorEq, vmt, vzb, vzc, vlen, vleaf, velems, oks, vst, vmd, ty, Nat.reduceLeDiff, Nat.reduceMul, Nat.reduceSub, c1065, Tryz.f65, m1065, h0, h1, h5, hcl, ga, w4, e1, e2, e3, q1', hq, strOp, Bool.not_true, Bool.not_false]
        refine ih (nvL w c1) _ (by omega) ?_ ?_ ?_ hv hx
        all_goals simp only [vmr, vmw, vmp, vza, ↓reduceIte, Nat.reduceBEq, Nat.reduceLT, Nat.reduceAdd, Nat.reduceEqDiff, reduceCtorEq, vmt, vzb, vzc, vlen, vleaf, velems, oks, vst, vmd, ty, Nat.reduceLeDiff, Nat.reduceMul, Nat.reduceSub, m1065, h0]
      | false =>
        rw [q2] at e2
        have ha : adV w (nameP k1 s1) = w ++ [nameP k1 s1] := by unfold adV; rw [if_neg (by rw [q2]; simp [q1])]
        rw [ha] at e3 hv hl2
        have r0 := @room9 0 (by omega)
        have r1 := @room9 1 (by omega)
        have r2 := @room9 w.length (by omega)
        have r3 := @room9 (w.length + 1) (by omega)
        have f1 := fits9 (nameP k1 s1)
        have f2 : ∀ w : Ns, (w.map V.str).all (fitsE Tryz.prog 9) = true := fun w => by rw [List.all_map]; exact List.all_eq_true.2 fun x _ => fits9 x
        have e3' : F1065 m [Ts c1, .lst (w.map V.str ++ [V.str (nameP k1 s1)])] = some (Ss (nvL (w ++ [nameP k1 s1]) c1)) := by rw [← e3]; show _ = F1065 m [Ts c1, .lst ((w ++ [nameP k1 s1]).map V.str)]; rw [List.map_append]; rfl
        simp only [vmr, vmw, vmp, vza, ↓reduceIte, Nat.reduceBEq, Nat.reduceLT, Nat.reduceAdd, Nat.reduceEqDiff, reduceCtorEq, vmt, vzb, vzc, vlen, vleaf, velems, oks, vst, vmd, ty, Nat.reduceLeDiff, Nat.reduceMul, Nat.reduceSub, c1065, Tryz.f65, m1065, h0, h1, h5, hcl, ga, w4, e1, e2, e3', q1', hq, strOp, Bool.not_true, Bool.not_false, r0, r1, r2, r3, f1, f2, take_len, List.map_cons, List.map_nil, List.nil_append, Nat.zero_add]
        refine ih (nvL (w ++ [nameP k1 s1]) c1) _ (by simp at hl1 hl2 hw ⊢; omega) ?_ ?_ ?_ hv hx
        all_goals simp only [vmr, vmw, vmp, vza, ↓reduceIte, Nat.reduceBEq, Nat.reduceLT, Nat.reduceAdd, Nat.reduceEqDiff, reduceCtorEq, vmt, vzb, vzc, vlen, vleaf, velems, oks, vst, vmd, ty, Nat.reduceLeDiff, Nat.reduceMul, Nat.reduceSub, m1065, h0]
theorem w1065 : ∀ (m : Nat) (a : List Tm) (w : Ns), szs a ≤ m → szs a ≤ 1000000 → txs a → w.length + szs a ≤ 1000000 → SoundPure Tryz.prog 65 [Ts a, Ss w] (.ret (Ss (nvL w a))) := by
  intro m
  induction m using Nat.strongRecOn with
  | ind m IH =>
  intro a w hm hb ho hw
  have hH : SoundHand Tryz.prog (hand (T1065 (szs a))) := sound_cons (hF_sound fun p hp => IH (szs p.1) (by omega) p.1 p.2 (Nat.le_refl _) (by omega) hp.2.1 hp.2.2) (sound_cons F1092_sound (sound_cons F1093_sound sound_nil))
  have hla := szs_len a
  refine s1065 hH (a.length + 1) (by simp) (by simp only [pureR, pureSs]) ?_
  show P1065 _ _ _ _
  have a1 := fun k s => @l1065 (szs a) (a.length + 1) k (Ss (nvL w a)) a (Nat.le_refl _) hb ho a 0 w (a.length + 1) s rfl (by omega) hw
  simp only [c1065, Tryz.f65, gets, sub] at a1 ⊢
  simp only [vmr, vmw, vmp, vza, ↓reduceIte, Nat.reduceBEq, Nat.reduceLT, Nat.reduceAdd, Nat.reduceEqDiff, reduceCtorEq, vmt, vzb, vzc, vlen, vleaf, velems, oks, vst, vmd, ty, Nat.reduceLeDiff, Nat.reduceMul, Nat.reduceSub, m1065]
  refine a1 _ _ ?_ ?_ ?_ trivial (fun s' h => ?_)
  case refine_4 =>
    simp only [vmr, vmw, vmp, vza, ↓reduceIte, Nat.reduceBEq, Nat.reduceLT, Nat.reduceAdd, Nat.reduceEqDiff, reduceCtorEq, vmt, vzb, vzc, vlen, vleaf, velems, oks, vst, vmd, ty, Nat.reduceLeDiff, Nat.reduceMul, Nat.reduceSub, m1065, h]
    unfold P1065
    simp only [vmr, vmw, vmp, vza, ↓reduceIte, Nat.reduceBEq, Nat.reduceLT, Nat.reduceAdd, Nat.reduceEqDiff, reduceCtorEq, vmt, vzb, vzc, vlen, vleaf, velems, oks, vst, vmd, ty, Nat.reduceLeDiff, Nat.reduceMul, Nat.reduceSub, vzr, m1065]
  all_goals simp only [vmr, vmw, vmp, vza, ↓reduceIte, Nat.reduceBEq, Nat.reduceLT, Nat.reduceAdd, Nat.reduceEqDiff, reduceCtorEq, vmt, vzb, vzc, vlen, vleaf, velems, oks, vst, vmd, ty, Nat.reduceLeDiff, Nat.reduceMul, Nat.reduceSub, m1065]
  all_goals rfl
noncomputable def F1035 : List V → Option V := hF (α := List Tm) (fun p => [Ts p]) (fun p => szs p ≤ 1000000 ∧ txs p) (fun p => Ss (varL p))
theorem F1035_eq {a : List Tm} (h : szs a ≤ 1000000) (ho : txs a) : F1035 [Ts a] = some (Ss (varL a)) := hF_eq (a := a) (one_inj' fun _ _ => Ts_inj) (by simp only [cans, can_Ts]) ⟨h, ho⟩
noncomputable def Fnames : List V → Option V := hF (α := List Tm × Ns) (fun p => [Ts p.1, Ss p.2]) (fun p => szs p.1 ≤ 1000000 ∧ txs p.1 ∧ p.2.length + szs p.1 ≤ 1000000) (fun p => Ss (nvL p.2 p.1))
theorem Fnames_eq {a : List Tm} (h : szs a ≤ 1000000) (ho : txs a) : Fnames [Ts a, .nilS] = some (Ss (nvL [] a)) := hF_eq (a := (a, [])) (two_inj (fun _ _ => Ts_inj) (fun _ _ => SsV_inj)) (by simp only [cans, can_Ts]; rfl) ⟨h, ho, by simpa using h⟩
theorem F1065_sound : ∀ args v, Fnames args = some v → SoundPure Tryz.prog 65 args (.ret v) := hF_sound fun p hp => w1065 _ p.1 p.2 (Nat.le_refl _) hp.1 hp.2.1 hp.2.2
theorem F1035_sound : ∀ args v, F1035 args = some v → SoundPure Tryz.prog 35 args (.ret v) := hF_sound fun p hp => by
  refine s1035 (H := [(65, Fnames)]) (sound_cons F1065_sound sound_nil) 1 (by simp) (by simp only [pureR, pureSs]) ?_
  simp only [c1035, Tryz.f35, gets, sub]
  have e := Fnames_eq hp.1 hp.2
  simp only [vmr, vmw, vmp, vza, ↓reduceIte, Nat.reduceBEq, Nat.reduceLT, Nat.reduceAdd, Nat.reduceEqDiff, reduceCtorEq, vmt, vzb, vzc, vlen, vleaf, velems, oks, vst, vmd, ty, Nat.reduceLeDiff, Nat.reduceMul, Nat.reduceSub, vzr, m1035, e]
  rfl
end Go.Vi
set_option maxRecDepth 100000
set_option maxHeartbeats 1000000
namespace Go.Vi
open Go Go.Proofs
end Go.Vi
set_option maxRecDepth 100000
set_option maxHeartbeats 1000000
namespace Go.Vi
open Go Go.Proofs
def A1009 (s : St) (d : Ns) : Prop := ∃ v8 sz, (sz = 1 ∨ sz = 0) ∧ tget s.τ 8 = .ref ⟨0, 8, 0⟩ v8 0 d.length ∧ lget s.L (8, 0) = some (v8, .arr sz (d.map .str))
theorem A1009.of {s d} (h : tget s.τ 8 = .ref ⟨0, 8, 0⟩ (ver s (8, 0)) 0 d.length) (h' : lget s.L (8, 0) = some (ver s (8, 0), .arr 1 (d.map .str))) : A1009 s d := ⟨_, 1, .inl rfl, h, h'⟩
end Go.Vi
namespace Go.Vi
open Go Go.Proofs
def digB (u : UInt8) : Bool := decide (48 ≤ u.toNat) && decide (u.toNat ≤ 57)
def dgN (u : UInt8) : Nat := u.toNat - 48
def dvN (acc : Nat) (s : List UInt8) : Nat := s.foldl (fun a u => 10 * a + dgN u) acc
theorem dvN_nil (acc : Nat) : dvN acc [] = acc := rfl
theorem dvN_cons (acc : Nat) (u : UInt8) (r : List UInt8) : dvN acc (u :: r) = dvN (10 * acc + dgN u) r := by unfold dvN; rw [List.foldl_cons]
def lim9 : Nat := 1000000000
open Classical in
noncomputable def numN (s : List UInt8) : Int := if s = [] ∨ s.length > 10 ∨ (s.head? = some 48 ∧ s.length > 1) then -1 else if s.all digB = true then (if dvN 0 s > lim9 then -1 else ((dvN 0 s : Nat) : Int)) else -1
theorem dvN_app : ∀ (a b : List UInt8) (acc : Nat), dvN acc (a ++ b) = dvN (dvN acc a) b
  | [], b, acc => rfl
  | u :: r, b, acc => by rw [List.cons_append, dvN_cons, dvN_cons, dvN_app r b]
theorem dig_ofNat {c : Nat} (hc : c < 10) : digB (UInt8.ofNat (48 + c)) = true ∧ dgN (UInt8.ofNat (48 + c)) = c := by
  have h2 : (UInt8.ofNat (48 + c)).toNat = 48 + c := by simp only [UInt8.toNat_ofNat']; omega
  unfold digB dgN
  rw [h2]
  simp; omega
theorem dec_dv (u : Nat) : dvN 0 (Lib.decDigits u) = u ∧ (Lib.decDigits u).all digB = true := by
  induction u using Nat.strongRecOn with
  | ind u ih =>
    by_cases hu : u < 10
    · rw [Lib.decDigits_one hu]
      obtain ⟨h1, h2⟩ := dig_ofNat hu
      exact ⟨by rw [dvN_cons, dvN_nil, h2]; omega, by rw [List.all_cons, h1]; rfl⟩
    · obtain ⟨i1, i2⟩ := ih (u / 10) (by omega)
      obtain ⟨h1, h2⟩ := dig_ofNat (Nat.mod_lt u (show 10 > 0 by omega))
      rw [Lib.decDigits, dif_neg hu]
      refine ⟨?_, by rw [List.all_append, i2, List.all_cons, h1]; rfl⟩
      rw [dvN_app, i1]
      rw [dvN_cons, dvN_nil, h2]
      omega
theorem dec_head (u : Nat) (hu : u ≠ 0) : (Lib.decDigits u).head? ≠ some 48 := by
  induction u using Nat.strongRecOn with
  | ind u ih =>
    by_cases h : u < 10
    · rw [Lib.decDigits_one h]
      intro e
      simp only [List.head?_cons, Option.some.injEq] at e
      have h2 : (UInt8.ofNat (48 + u)).toNat = 48 + u := by simp only [UInt8.toNat_ofNat']; omega
      rw [e] at h2
      have : (48 : UInt8).toNat = 48 := rfl
      omega
    · rw [Lib.decDigits, dif_neg h, List.head?_append]
      have := ih (u / 10) (by omega) (by omega)
      cases hh : (Lib.decDigits (u / 10)).head? with
      | none =>
        have h3 := List.head?_eq_none_iff.1 hh
        have := Lib.decDigits_length (u / 10)
        have := Lib.nDigits_pos (u / 10)
        rw [h3] at *
        simp at *
        omega
      | some y => rw [hh] at this; exact this
theorem dec_lenle {u : Nat} (h : u ≤ 1000000000) : (Lib.decDigits u).length ≤ 10 := by rw [Lib.decDigits_length]; exact nd_le 9 u (by omega)
theorem num_dec {u : Nat} (h : u ≤ 1000000000) : numN (Lib.decDigits u) = u := by
  obtain ⟨h1, h2⟩ := dec_dv u
  have hl := dec_lenle h
  have hp : 1 ≤ (Lib.decDigits u).length := by rw [Lib.decDigits_length]; exact Lib.nDigits_pos u
  unfold numN
  rw [if_neg, if_pos h2, if_neg (by unfold lim9; omega), h1]
  rintro (h3 | h3 | ⟨h3, h4⟩)
  · rw [h3] at hp; simp at hp
  · omega
  · by_cases h0 : u = 0
    · subst h0
      rw [Lib.decDigits_one (by omega)] at h4
      simp at h4
    · exact dec_head u h0 h3
theorem dv_inj : ∀ (a b : List UInt8) (x y : Nat), a.length = b.length → a.all digB = true → b.all digB = true → dvN x a = dvN y b → x = y ∧ a = b
  | [], [], x, y, _, _, _, h => ⟨h, rfl⟩
  | u :: r, v :: q, x, y, hl, ha, hb, h => by
    simp only [List.all_cons, Bool.and_eq_true] at ha hb
    rw [dvN_cons, dvN_cons] at h
    obtain ⟨h1, h2⟩ := dv_inj r q _ _ (by simpa using hl) ha.2 hb.2 h
    have hu := ha.1
    have hv := hb.1
    simp only [digB, Bool.and_eq_true, decide_eq_true_eq] at hu hv
    unfold dgN at h1
    refine ⟨by omega, ?_⟩
    rw [h2, show u = v from UInt8.toNat_inj.1 (by omega)]
theorem dvN_ge : ∀ (a : List UInt8) (x : Nat), x * 10 ^ a.length ≤ dvN x a
  | [], x => by simp [dvN_nil]
  | u :: r, x => by
    have := dvN_ge r (10 * x + dgN u)
    rw [dvN_cons, List.length_cons, Nat.pow_succ]
    refine Nat.le_trans ?_ this
    rw [show x * (10 ^ r.length * 10) = (10 * x) * 10 ^ r.length by rw [Nat.mul_comm (10 ^ r.length), ← Nat.mul_assoc, Nat.mul_comm x 10]]
    exact Nat.mul_le_mul_right _ (by omega)
theorem dvN_lt : ∀ (a : List UInt8) (x : Nat), a.all digB = true → dvN x a < (x + 1) * 10 ^ a.length
  | [], x, _ => by simp [dvN_nil]
  | u :: r, x, h => by
    simp only [List.all_cons, Bool.and_eq_true] at h
    have hu := h.1
    simp only [digB, Bool.and_eq_true, decide_eq_true_eq] at hu
    have := dvN_lt r (10 * x + dgN u) h.2
    rw [dvN_cons, List.length_cons, Nat.pow_succ]
    refine Nat.lt_of_lt_of_le this ?_
    rw [show (x + 1) * (10 ^ r.length * 10) = (10 * (x + 1)) * 10 ^ r.length by rw [Nat.mul_comm (10 ^ r.length), ← Nat.mul_assoc, Nat.mul_comm (x + 1) 10]]
    exact Nat.mul_le_mul_right _ (by unfold dgN; omega)
theorem dec_of {s : List UInt8} (hd : s.all digB = true) (hn : s ≠ []) (h0 : ¬ (s.head? = some 48 ∧ s.length > 1)) : Lib.decDigits (dvN 0 s) = s := by
  have key : (Lib.decDigits (dvN 0 s)).length = s.length := by
    rw [Lib.decDigits_length]
    match s, hn with
    | [u], _ =>
      have := dvN_lt [u] 0 hd
      exact Lib.nDigits_small (by simpa using this)
    | u :: v :: r, _ =>
      have h1 := dvN_lt (u :: v :: r) 0 hd
      simp only [List.all_cons, Bool.and_eq_true] at hd
      have hu := hd.1
      simp only [digB, Bool.and_eq_true, decide_eq_true_eq] at hu
      have hne : u ≠ 48 := fun e => h0 ⟨by rw [e]; rfl, by simp⟩
      have hu2 : 1 ≤ dgN u := by
        unfold dgN
        have : u.toNat ≠ 48 := fun e => hne (UInt8.toNat_inj.1 e)
        omega
      have h2 := dvN_ge (v :: r) (10 * 0 + dgN u)
      have h3 : 1 * 10 ^ (v :: r).length ≤ (10 * 0 + dgN u) * 10 ^ (v :: r).length := Nat.mul_le_mul_right _ (by omega)
      refine Lib.nDigits_unique (v :: r).length (dvN 0 (u :: v :: r)) ?_ ?_
      · rw [dvN_cons]; omega
      · simpa using h1
  exact (dv_inj _ _ 0 0 key (dec_dv _).2 hd (dec_dv _).1).2
theorem num_yes {s : List UInt8} (h : numN s ≠ -1) : ∃ u : Nat, numN s = u ∧ u ≤ 1000000000 ∧ s = Lib.decDigits u := by
  unfold numN at h ⊢
  split at h
  · exact absurd rfl h
  · rename_i q
    split at h
    · rename_i hd
      split at h
      · exact absurd rfl h
      · rename_i hb
        rw [if_neg q, if_pos hd, if_neg hb]
        exact ⟨dvN 0 s, rfl, by unfold lim9 at hb; omega, (dec_of hd (fun e => q (.inl e)) (fun e => q (.inr (.inr e)))).symm⟩
    · exact absurd rfl h
theorem parse_dec : ∀ (t : List UInt8) (acc : Nat), t.all digB = true → dvN acc t ≤ 1000000000 → Lib.parseUint10 acc t = .ok (dvN acc t)
  | [], acc, _, _ => rfl
  | c :: r, acc, hd, h => by
    simp only [List.all_cons, Bool.and_eq_true] at hd
    have hc := hd.1
    simp only [digB, Bool.and_eq_true, decide_eq_true_eq] at hc
    have hge := dvN_ge r (10 * acc + dgN c)
    have h1 : 10 * acc + dgN c ≤ dvN acc (c :: r) := by
      rw [dvN_cons]
      refine Nat.le_trans ?_ hge
      exact Nat.le_mul_of_pos_right _ (Nat.pow_pos (by omega))
    unfold Lib.parseUint10
    rw [if_pos hc, if_neg (by omega), if_neg (by unfold dgN at h1; omega), show acc * 10 + (c.toNat - 48) = 10 * acc + dgN c by unfold dgN; omega]
    rw [dvN_cons] at h ⊢
    exact parse_dec r _ hd.2 h
theorem atoi_dec {u : Nat} (h : u ≤ 1000000000) : Lib.atoiAll (Lib.decDigits u) = .ok (u : Int) := by
  obtain ⟨h1, h2⟩ := dec_dv u
  have hp := parse_dec _ 0 h2 (by omega)
  rw [h1] at hp
  have hl : 1 ≤ (Lib.decDigits u).length := by rw [Lib.decDigits_length]; exact Lib.nDigits_pos u
  cases hs : Lib.decDigits u with
  | nil => rw [hs] at hl; simp at hl
  | cons c r =>
    rw [hs] at hp h2
    simp only [List.all_cons, Bool.and_eq_true] at h2
    have hc := h2.1
    simp only [digB, Bool.and_eq_true, decide_eq_true_eq] at hc
    unfold Lib.atoiAll
    dsimp only
    rw [if_neg (show ¬ (c.toNat = 43 ∨ c.toNat = 45) by omega)]
    unfold Lib.parseMag
    rw [if_neg (by simp), hp]
    dsimp only
    rw [if_neg (by omega), if_neg (by omega), if_neg (by omega)]
theorem num_atoi {s : List UInt8} {v : Int} (h : Lib.atoiAll s = .ok v) (h0 : 0 ≤ v) (h1 : v ≤ 1000000000) (h2 : Lib.itoa v = s) : numN s = v := by
  obtain ⟨u, rfl⟩ : ∃ u : Nat, v = u := ⟨v.toNat, by omega⟩
  rw [← h2, show Lib.itoa (u : Int) = Lib.decDigits u by unfold Lib.itoa; rw [if_neg (by omega)]; rfl]
  exact num_dec (by omega)
end Go.Vi
set_option maxRecDepth 100000
set_option maxHeartbeats 1000000
namespace Go.Vi
open Go Go.Proofs
noncomputable def numF (acc : Nat) (r : List UInt8) : Int := if r.all digB = true then (if dvN acc r > lim9 then -1 else ((dvN acc r : Nat) : Int)) else -1
def P1060 (n : Nat) (v : V) (r : Option (Ex × St)) : Prop := Fin (M1060 (hand []) n) [.tmp 2] r = some (.ret v)
theorem l1060 {n k v} (a : List UInt8) (ha : a.length ≤ 10) : ∀ r i acc n' s, a.drop i = r → r.length < n' → acc < 10 ^ i → tget s.τ 0 = .str a → tget s.τ 3 = I (acc : Nat) → tget s.τ 4 = I (i : Nat) →
    I (numF acc r) = v → (∀ s' acc', tget s'.τ 3 = I (acc' : Nat) → I (numF acc' []) = v → P1060 n v (X (M1060 (hand []) n) (.exit 0) k s')) →
    P1060 n v (L (M1060 (hand []) n) (sub [1, 1, 1, 0, 1, 0, 0] c1060) n' k s)
  | [], i, acc, n' + 1, s, hi, hn, hacc, h0, h3, h4, hv, hx => by
    have hc := inlt (drop_nil' hi)
    rw [L_succ]
    simp only [vmr, vmw, vmp, vza, ↓reduceIte, Nat.reduceBEq, Nat.reduceLT, Nat.reduceAdd, Nat.reduceEqDiff, reduceCtorEq, vmt, vzb, vzc, vlen, vleaf, velems, oks, vst, vmd, ty, Nat.reduceLeDiff, Nat.reduceMul, Nat.reduceSub, c1060, Tryz.f60, m1060, h0, h4, hc]
    refine hx _ acc ?_ hv
    simp only [vmr, vmw, vmp, vza, ↓reduceIte, Nat.reduceBEq, Nat.reduceLT, Nat.reduceAdd, Nat.reduceEqDiff, reduceCtorEq, vmt, vzb, vzc, vlen, vleaf, velems, oks, vst, vmd, ty, Nat.reduceLeDiff, Nat.reduceMul, Nat.reduceSub, m1060, h3]
  | u :: r, i, acc, n' + 1, s, hi, hn, hacc, h0, h3, h4, hv, hx => by
    obtain ⟨g1, g2, g3⟩ := drop_cons hi
    have hcl := ilt g3
    have w4 := wsuc g3 (by omega)
    have hu := u.toNat_lt
    have hp : 10 ^ i ≤ 10 ^ 9 := Nat.pow_le_pow_right (by omega) (by omega)
    have hp9 : (10 : Nat) ^ 9 = 1000000000 := by decide
    have ih := fun acc s hacc => l1060 (n := n) (k := k) (v := v) a ha r (i + 1) acc n' s g2 (by simp at hn; omega) hacc
    simp only [sub, c1060, Tryz.f60, gets] at ih
    rw [L_succ]
    by_cases q1 : u.toNat < 48
    · have q1' : (((u.toNat : Nat) : Int) < 48) = True := eq_true (by omega)
      have hd : digB u = false := by unfold digB; simp; omega
      have hv' : I (-1) = v := by rw [← hv, numF, List.all_cons, hd, Bool.false_and, if_neg (by simp)]
      simp only [vmr, vmw, vmp, vza, ↓reduceIte, Nat.reduceBEq, Nat.reduceLT, Nat.reduceAdd, Nat.reduceEqDiff, reduceCtorEq, vmt, vzb, vzc, vlen, vleaf, velems, oks, vst, vmd, ty, Nat.reduceLeDiff, Nat.reduceMul, Nat.reduceSub, c1060, Tryz.f60, m1060, h0, h4, hcl, g1, q1']
      rw [← hv']
      unfold P1060
      simp only [vmr, vmw, vmp, vza, ↓reduceIte, Nat.reduceBEq, Nat.reduceLT, Nat.reduceAdd, Nat.reduceEqDiff, reduceCtorEq, vmt, vzb, vzc, vlen, vleaf, velems, oks, vst, vmd, ty, Nat.reduceLeDiff, Nat.reduceMul, Nat.reduceSub, vzr, m1060]
    · have q1' : (((u.toNat : Nat) : Int) < 48) = False := eq_false (by omega)
      by_cases q2 : u.toNat > 57
      · have q2' : (((u.toNat : Nat) : Int) > 57) = True := eq_true (by omega)
        have hd : digB u = false := by unfold digB; simp; omega
        have hv' : I (-1) = v := by rw [← hv, numF, List.all_cons, hd, Bool.false_and, if_neg (by simp)]
        simp only [vmr, vmw, vmp, vza, ↓reduceIte, Nat.reduceBEq, Nat.reduceLT, Nat.reduceAdd, Nat.reduceEqDiff, reduceCtorEq, vmt, vzb, vzc, vlen, vleaf, velems, oks, vst, vmd, ty, Nat.reduceLeDiff, Nat.reduceMul, Nat.reduceSub, c1060, Tryz.f60, m1060, h0, h4, hcl, g1, q1', q2']
        rw [← hv']
        unfold P1060
        simp only [vmr, vmw, vmp, vza, ↓reduceIte, Nat.reduceBEq, Nat.reduceLT, Nat.reduceAdd, Nat.reduceEqDiff, reduceCtorEq, vmt, vzb, vzc, vlen, vleaf, velems, oks, vst, vmd, ty, Nat.reduceLeDiff, Nat.reduceMul, Nat.reduceSub, vzr, m1060]
      · have q2' : (((u.toNat : Nat) : Int) > 57) = False := eq_false (by omega)
        have hd : digB u = true := by unfold digB; simp; omega
        have hv' : I (numF (10 * acc + dgN u) r) = v := by
          rw [← hv]
          unfold numF
          rw [List.all_cons, hd, Bool.true_and, dvN_cons]
        have hdg : dgN u = u.toNat - 48 := rfl
        have w1 : IntKind.i64.wrap (10 * ((acc : Nat) : Int)) = ((10 * acc : Nat) : Int) := by rw [wrap_id] <;> omega
        have w2 : IntKind.u8.wrap (((u.toNat : Nat) : Int) - 48) = ((dgN u : Nat) : Int) := by
          have z1 : (2 : Int) ^ IntKind.u8.bits = 256 := by decide
          have z2 : IntKind.u8.signed = false := rfl
          simp only [IntKind.wrap, z1, z2, Bool.false_and, Bool.false_eq_true, if_false]
          omega
        have w3 : IntKind.i64.wrap ((dgN u : Nat) : Int) = ((dgN u : Nat) : Int) := by rw [wrap_id] <;> omega
        have w5 : IntKind.i64.wrap (((10 * acc : Nat) : Int) + ((dgN u : Nat) : Int)) = ((10 * acc + dgN u : Nat) : Int) := by rw [wrap_id] <;> omega
        simp only [vmr, vmw, vmp, vza, ↓reduceIte, Nat.reduceBEq, Nat.reduceLT, Nat.reduceAdd, Nat.reduceEqDiff, reduceCtorEq, vmt, vzb, vzc, vlen, vleaf, velems, oks, vst, vmd, ty, Nat.reduceLeDiff, Nat.reduceMul, Nat.reduceSub, c1060, Tryz.f60, m1060, h0, h3, h4, hcl, g1, q1', q2', w1, w2, w3, w5, w4]
        refine ih (10 * acc + dgN u) _ (by rw [Nat.pow_succ]; omega) ?_ ?_ ?_ hv' hx
        all_goals simp only [vmr, vmw, vmp, vza, ↓reduceIte, Nat.reduceBEq, Nat.reduceLT, Nat.reduceAdd, Nat.reduceEqDiff, reduceCtorEq, vmt, vzb, vzc, vlen, vleaf, velems, oks, vst, vmd, ty, Nat.reduceLeDiff, Nat.reduceMul, Nat.reduceSub, m1060, h0]
theorem w60 (a : List UInt8) (ha : a.length ≤ 1000000000000000) : SoundPure Tryz.prog 60 [.str a] (.ret (I (numN a))) := by
  refine s1060 (H := []) sound_nil (a.length + 1) (by simp) rfl ?_
  show P1060 _ _ _
  unfold numN
  by_cases q1 : a = []
  · subst q1
    rw [if_pos (.inl rfl)]
    simp only [c1060, Tryz.f60, gets, sub]
    unfold P1060
    simp only [vmr, vmw, vmp, vza, ↓reduceIte, Nat.reduceBEq, Nat.reduceLT, Nat.reduceAdd, Nat.reduceEqDiff, reduceCtorEq, vmt, vzb, vzc, vlen, vleaf, velems, oks, vst, vmd, ty, Nat.reduceLeDiff, Nat.reduceMul, Nat.reduceSub, vzr, m1060]
  have hl1 : 1 ≤ a.length := List.length_pos_iff.2 q1
  obtain ⟨u, ga⟩ : ∃ u, a[0]? = some u := ⟨_, List.getElem?_eq_getElem (by omega)⟩
  have hh : a.head? = some u := by rw [List.head?_eq_getElem?, ga]
  have n1 : ((a.length : Int) == 0) = false := by simp; omega
  by_cases q2 : a.length > 10
  · rw [if_pos (.inr (.inl q2))]
    have q2' : ((a.length : Int) > 10) = True := eq_true (by omega)
    simp only [c1060, Tryz.f60, gets, sub]
    unfold P1060
    simp only [vmr, vmw, vmp, vza, ↓reduceIte, Nat.reduceBEq, Nat.reduceLT, Nat.reduceAdd, Nat.reduceEqDiff, reduceCtorEq, vmt, vzb, vzc, vlen, vleaf, velems, oks, vst, vmd, ty, Nat.reduceLeDiff, Nat.reduceMul, Nat.reduceSub, vzr, m1060, n1, q2']
  have q2' : ((a.length : Int) > 10) = False := eq_false (by omega)
  have hu := u.toNat_lt
  have e48 : (((u.toNat : Nat) : Int) == 48) = (u == 48) := by
    rw [Bool.eq_iff_iff, beq_iff_eq, beq_iff_eq]
    constructor
    · intro h; exact UInt8.toNat_inj.1 (by show u.toNat = 48; omega)
    · intro h; subst h; rfl
  by_cases q3 : u = 48 ∧ a.length > 1
  · rw [if_pos (.inr (.inr ⟨by rw [hh, q3.1], q3.2⟩))]
    have q3' : ((a.length : Int) > 1) = True := eq_true (by omega)
    have q4 : (u == 48) = true := by simpa using q3.1
    simp only [c1060, Tryz.f60, gets, sub]
    unfold P1060
    simp only [vmr, vmw, vmp, vza, ↓reduceIte, Nat.reduceBEq, Nat.reduceLT, Nat.reduceAdd, Nat.reduceEqDiff, reduceCtorEq, vmt, vzb, vzc, vlen, vleaf, velems, oks, vst, vmd, ty, Nat.reduceLeDiff, Nat.reduceMul, Nat.reduceSub, vzr, m1060, n1, q2', ga, e48, q4, q3']
  have hnum : ¬ (a = [] ∨ a.length > 10 ∨ a.head? = some 48 ∧ a.length > 1) := by
    rintro (h | h | ⟨h, h'⟩)
    · exact q1 h
    · exact q2 h
    · rw [hh] at h; injection h with h; exact q3 ⟨h, h'⟩
  rw [if_neg hnum]
  have a1 := fun k s => @l1060 (a.length + 1) k (I (numF 0 a)) a (by omega) a 0 0 (a.length + 1) s rfl (by omega) (by simp)
  show P1060 _ (I (numF 0 a)) _
  have fin : ∀ (s' : St) (acc' : Nat), tget s'.τ 3 = I (acc' : Nat) → I (numF acc' []) = I (numF 0 a) → P1060 (a.length + 1) (I (numF 0 a)) (X (M1060 (hand []) (a.length + 1)) (.exit 0) (K.blk 0 (K.seq (sub [1, 1, 1, 1] c1060) .top)) s') := fun s' acc' h3 hv => by
    rw [← hv]
    have e : numF acc' [] = if acc' > lim9 then -1 else ((acc' : Nat) : Int) := by unfold numF; rw [List.all_nil, if_pos rfl, dvN_nil]
    rw [e]
    by_cases q : acc' > lim9
    · rw [if_pos q]
      have q' : (((acc' : Nat) : Int) > 1000000000) = True := eq_true (by unfold lim9 at q; omega)
      simp only [vmr, vmw, vmp, vza, ↓reduceIte, Nat.reduceBEq, Nat.reduceLT, Nat.reduceAdd, Nat.reduceEqDiff, reduceCtorEq, vmt, vzb, vzc, vlen, vleaf, velems, oks, vst, vmd, ty, Nat.reduceLeDiff, Nat.reduceMul, Nat.reduceSub, c1060, Tryz.f60, m1060, h3, q']
      unfold P1060
      simp only [vmr, vmw, vmp, vza, ↓reduceIte, Nat.reduceBEq, Nat.reduceLT, Nat.reduceAdd, Nat.reduceEqDiff, reduceCtorEq, vmt, vzb, vzc, vlen, vleaf, velems, oks, vst, vmd, ty, Nat.reduceLeDiff, Nat.reduceMul, Nat.reduceSub, vzr, m1060]
    · rw [if_neg q]
      have q' : (((acc' : Nat) : Int) > 1000000000) = False := eq_false (by unfold lim9 at q; omega)
      simp only [vmr, vmw, vmp, vza, ↓reduceIte, Nat.reduceBEq, Nat.reduceLT, Nat.reduceAdd, Nat.reduceEqDiff, reduceCtorEq, vmt, vzb, vzc, vlen, vleaf, velems, oks, vst, vmd, ty, Nat.reduceLeDiff, Nat.reduceMul, Nat.reduceSub, c1060, Tryz.f60, m1060, h3, q']
      unfold P1060
      simp only [vmr, vmw, vmp, vza, ↓reduceIte, Nat.reduceBEq, Nat.reduceLT, Nat.reduceAdd, Nat.reduceEqDiff, reduceCtorEq, vmt, vzb, vzc, vlen, vleaf, velems, oks, vst, vmd, ty, Nat.reduceLeDiff, Nat.reduceMul, Nat.reduceSub, vzr, m1060, h3]
  simp only [c1060, Tryz.f60, gets, sub] at a1 fin ⊢
  by_cases q4 : u = 48
  · have q4' : (u == 48) = true := by simpa using q4
    have q3' : ((a.length : Int) > 1) = False := eq_false (fun h => q3 ⟨q4, by omega⟩)
    simp only [vmr, vmw, vmp, vza, ↓reduceIte, Nat.reduceBEq, Nat.reduceLT, Nat.reduceAdd, Nat.reduceEqDiff, reduceCtorEq, vmt, vzb, vzc, vlen, vleaf, velems, oks, vst, vmd, ty, Nat.reduceLeDiff, Nat.reduceMul, Nat.reduceSub, m1060, n1, q2', ga, e48, q4', q3']
    refine a1 _ _ ?_ ?_ ?_ trivial fin
    all_goals simp only [vmr, vmw, vmp, vza, ↓reduceIte, Nat.reduceBEq, Nat.reduceLT, Nat.reduceAdd, Nat.reduceEqDiff, reduceCtorEq, vmt, vzb, vzc, vlen, vleaf, velems, oks, vst, vmd, ty, Nat.reduceLeDiff, Nat.reduceMul, Nat.reduceSub, m1060]
    all_goals rfl
  · have q4' : (u == 48) = false := by simpa using q4
    simp only [vmr, vmw, vmp, vza, ↓reduceIte, Nat.reduceBEq, Nat.reduceLT, Nat.reduceAdd, Nat.reduceEqDiff, reduceCtorEq, vmt, vzb, vzc, vlen, vleaf, velems, oks, vst, vmd, ty, Nat.reduceLeDiff, Nat.reduceMul, Nat.reduceSub, m1060, n1, q2', ga, e48, q4']
    refine a1 _ _ ?_ ?_ ?_ trivial fin
    all_goals simp only [vmr, vmw, vmp, vza, ↓reduceIte, Nat.reduceBEq, Nat.reduceLT, Nat.reduceAdd, Nat.reduceEqDiff, reduceCtorEq, vmt, vzb, vzc, vlen, vleaf, velems, oks, vst, vmd, ty, Nat.reduceLeDiff, Nat.reduceMul, Nat.reduceSub, m1060]
    all_goals rfl
noncomputable def F60 : List V → Option V := hF (α := List UInt8) (fun a => [.str a]) (fun a => a.length ≤ 1000000000000000) (fun a => I (numN a))
theorem F60_eq {a : List UInt8} (h : a.length ≤ 1000000000000000) : F60 [.str a] = some (I (numN a)) := hF_eq (a := a) (one_inj' fun _ _ => Str_inj) (by simp only [cans, canStr]) h
theorem F60_sound : ∀ args v, F60 args = some v → SoundPure Tryz.prog 60 args (.ret v) := hF_sound fun p hp => w60 p hp
theorem numN_bd (s : List UInt8) : -1 ≤ numN s ∧ numN s ≤ 1000000000 := by
  by_cases h : numN s = -1
  · omega
  · obtain ⟨u, h1, h2, _⟩ := num_yes h
    omega
noncomputable def nxS (n : Int) (t : Tm) : Bool × Int := match t with | .mk _ s _ => (true, max n (numN s + 1))
noncomputable def nxL (n : Int) (l : List Tm) : Int := (visL (vS nxS) n l).2
mutual
theorem nx_T : ∀ (t : Tm) (n : Int), (visT (vS nxS) n t).1 = true
  | .mk k s c, n => by
    by_cases h : isV k = true
    · simp only [visT, vS, h, if_true, nxS]; exact nx_L c _
    · simp only [visT, vS, h, if_false]; simp only [Bool.false_eq_true, if_false]; exact nx_L c n
theorem nx_L : ∀ (l : List Tm) (n : Int), (visL (vS nxS) n l).1 = true
  | [], n => rfl
  | t :: r, n => by
    simp only [visL]
    have := nx_T t n
    revert this
    generalize visT (vS nxS) n t = q
    obtain ⟨b, x⟩ := q
    intro h
    dsimp only at h
    subst h
    exact nx_L r x
end
noncomputable def nx1 (n : Int) (k : Int) (s : List UInt8) : Int := if isV k = true then max n (numN s + 1) else n
theorem nxL_cons (n : Int) (k : Int) (s : List UInt8) (c r : List Tm) : nxL n (.mk k s c :: r) = nxL (nxL (nx1 n k s) c) r := by
  unfold nxL nx1
  simp only [visL, visT, vS]
  by_cases h : isV k = true
  · rw [if_pos h, if_pos h]
    simp only [nxS]
    have := nx_L c (max n (numN s + 1))
    generalize visL (vS nxS) (max n (numN s + 1)) c = q at this ⊢
    obtain ⟨b, x⟩ := q
    dsimp only at this ⊢
    subst this
    rfl
  · rw [if_neg h, if_neg h]
    dsimp only
    have := nx_L c n
    generalize visL (vS nxS) n c = q at this ⊢
    obtain ⟨b, x⟩ := q
    dsimp only at this ⊢
    subst this
    rfl
mutual
theorem nx_maxT : ∀ (t : Tm) (n m : Int), (visT (vS nxS) (max n m) t).2 = max n (visT (vS nxS) m t).2
  | .mk k s c, n, m => by
    have h1 := fun x y => nx_maxL c x y
    by_cases h : isV k = true
    · simp only [visT, vS, h, if_true, nxS]
      rw [show max (max n m) (numN s + 1) = max n (max m (numN s + 1)) by omega]
      exact h1 _ _
    · simp only [visT, vS, h, if_false]; simp only [Bool.false_eq_true, if_false]
      exact h1 _ _
theorem nx_maxL : ∀ (l : List Tm) (n m : Int), (visL (vS nxS) (max n m) l).2 = max n (visL (vS nxS) m l).2
  | [], n, m => rfl
  | t :: r, n, m => by
    have h1 := nx_maxT t n m
    have h2 := nx_T t (max n m)
    have h3 := nx_T t m
    simp only [visL]
    revert h1 h2 h3
    generalize visT (vS nxS) (max n m) t = p
    generalize visT (vS nxS) m t = q
    obtain ⟨b, x⟩ := p
    obtain ⟨b', y⟩ := q
    intro h1 h2 h3
    dsimp only at h1 h2 h3
    subst h1 h2 h3
    exact nx_maxL r n y
end
theorem nxL_max (n : Int) (l : List Tm) (h : 1 ≤ n) : nxL n l = max n (nxL 1 l) := by
  have := nx_maxL l n 1
  rw [show max n 1 = n by omega] at this
  exact this
end Go.Vi
