/-
  Walk of apply.under.
-/
import Derived.Test.YtpibnnopnhmijaaGreatDoorRD
set_option linter.unusedSimpArgs false
set_option linter.unusedVariables false
set_option maxRecDepth 100000
set_option maxHeartbeats 1000000
namespace Go.Vi
open Go Go.Proofs
mutual
def unT (l : List Bn) : Tm → List Tm
  | .mk k s c => match valB l k s with
    | some v => v
    | none => [.mk k s (unL l c)]
def unL (l : List Bn) : List Tm → List Tm
  | [] => []
  | t :: r => unT l t ++ unL l r
end
theorem szs_app : ∀ a b : List Tm, szs (a ++ b) = szs a + szs b
  | [], b => by simp [szs]
  | x :: r, b => by simp only [List.cons_append, szs, szs_app r b]; omega
theorem un_mem {l : List Bn} {k s c} (hv : valB l k s = none) : ∀ {a : List Tm}, Tm.mk k s c ∈ a → szs (unL l c) < szs (unL l a)
  | x :: r, h => by
    rw [unL, szs_app]
    rcases List.mem_cons.1 h with rfl | h
    · rw [unT, hv]; simp only [szs, szt]; omega
    · have := un_mem hv h; omega
noncomputable def F43 (m : Nat) : List V → Option V := hF (α := List Tm × List Bn) (fun p => [Ts p.1, vfn p.2]) (fun p => szs p.1 < m ∧ vok p.2 ∧ txs p.1 ∧ szs (unL p.2 p.1) ≤ 1000000) (fun p => Ts (unL p.2 p.1))
theorem F43_eq {m : Nat} {a : List Tm} {l : List Bn} (h : szs a < m) (hl : vok l) (ho : txs a) (hu : szs (unL l a) ≤ 1000000) : F43 m [Ts a, vfn l] = some (Ts (unL l a)) :=
  hF_eq (a := (a, l)) (two_inj (fun _ _ => Ts_inj) (fun _ _ => vfn_inj)) (by simp only [cans, can_Ts]; rfl) ⟨h, hl, ho, hu⟩
noncomputable abbrev T743 (m : Nat) : List (FuncId × (List V → Option V)) := [(52, F43 m), (42, Fcopy), (83, Fval)]
def P743 (m n : Nat) (v : V) (r : Option (Ex × St)) : Prop := Fin (M743 (hand (T743 m)) n) [.tmp 4] r = some (.ret v)
def A43 (s : St) (d : List Tm) : Prop := ∃ v5 sz, (sz = 3 ∨ sz = 0) ∧ tget s.τ 5 = .ref ⟨0, 5, 0⟩ v5 0 d.length ∧ lget s.L (5, 0) = some (v5, .arr sz (d.map tv))
def ver (s : St) (q : Nat × Nat) : Nat := ((lget s.L q).map (·.1)).getD 0
theorem A43.of {s d} (h : tget s.τ 5 = .ref ⟨0, 5, 0⟩ (ver s (5, 0)) 0 d.length) (h' : lget s.L (5, 0) = some (ver s (5, 0), .arr 3 (d.map tv))) : A43 s d := ⟨_, 3, .inl rfl, h, h'⟩
theorem l743 {m n k} {P : Option (Ex × St) → Prop} {l : List Bn} (a : List Tm) (hm : szs a ≤ m) (hb : szs a ≤ 1000000) (ho : txs a) (hvok : vok l) (hu : szs (unL l a) ≤ 1000000) : ∀ r i d n' s, a.drop i = r → r.length < n' → d.length + (unL l r).length ≤ 1000000 → A43 s d → tget s.τ 1 = vfn l → tget s.τ 10 = Ts a → tget s.τ 11 = I a.length → tget s.τ 12 = I (i : Nat) →
    (∀ s', A43 s' (d ++ unL l r) → P (X (M743 (hand (T743 m)) n) (.exit 0) k s')) →
    P (L (M743 (hand (T743 m)) n) (sub [1, 1, 0, 1, 0, 0] c743) n' k s)
  | [], i, d, n' + 1, s, hi, hn, hd, hA, h1, h10, h11, h12, hq => by
    have hc := inlt (drop_nil' hi)
    rw [L_succ]
    simp only [vmr, vmw, vmp, vza, ↓reduceIte, Nat.reduceBEq, Nat.reduceLT, Nat.reduceAdd, Nat.reduceEqDiff, reduceCtorEq, vmt, vzb, vzc, vlen, vleaf, velems, oks, vst, vmd, ty, Nat.reduceLeDiff, Nat.reduceMul, Nat.reduceSub, c743, Tryz.f52, m743, h10, h11, h12, hc]
    refine hq _ ?_
    rw [unL, List.append_nil]
    obtain ⟨v5, sz, hz, h5, h5'⟩ := hA
    exact ⟨v5, sz, hz, by simp only [vmr, vmw, vmp, vza, ↓reduceIte, Nat.reduceBEq, Nat.reduceLT, Nat.reduceAdd, Nat.reduceEqDiff, reduceCtorEq, vmt, vzb, vzc, vlen, vleaf, velems, oks, vst, vmd, ty, Nat.reduceLeDiff, Nat.reduceMul, Nat.reduceSub, m743, h5], by simp only [vmr, vmw, vmp, vza, ↓reduceIte, Nat.reduceBEq, Nat.reduceLT, Nat.reduceAdd, Nat.reduceEqDiff, reduceCtorEq, vmt, vzb, vzc, vlen, vleaf, velems, oks, vst, vmd, ty, Nat.reduceLeDiff, Nat.reduceMul, Nat.reduceSub, m743, h5']⟩
  | .mk k1 s1 c1 :: r, i, d, n' + 1, s, hi, hn, hd, hA, h1, h10, h11, h12, hq => by
    obtain ⟨g1, g2, g3⟩ := drop_cons hi
    have hcl := ilt g3
    have ga : (a.map tv)[i]? = some (.agg [I k1, .str s1, Ts c1]) := by rw [List.getElem?_map, g1, Option.map_some, tv_mk]
    obtain ⟨v5, sz, hz, h5, h5'⟩ := hA
    have hmem := List.mem_of_getElem? g1
    have hs := szs_mem (l := a) hmem
    have ht := txs_mem ho hmem
    simp only [txt1] at ht
    have hla := szs_len a
    have w4 := wsuc g3 (by omega)
    have e3 := Fval_eq (l := l) (k := k1) (c := c1) ht.1
    have hdw := @d743_8 (hand (T743 m)) n
    have ih := fun d s => l743 (m := m) (n := n) (k := k) (P := P) (l := l) a hm hb ho hvok hu r (i + 1) d n' s g2 (by simp at hn; omega)
    simp only [sub, c743, Tryz.f52, gets, opsAt] at ih hdw
    rw [unL, ← List.append_assoc] at hq
    rw [L_succ]
    cases hv : valB l k1 s1 with
    | some w =>
      have hw := valB_sz hvok hv
      have e5 := Fcopy_eq hw
      have hwl := szs_len w
      rw [hv] at e3
      simp only [findI] at e3
      rw [unT, hv] at hq
      rw [unL, unT, hv, List.length_append] at hd
      dsimp only at hq hd
      have hr0 := @room35 w.length (by omega)
      have hr1 := @room35 (d.length + w.length) (by omega)
      have hf := fits35s w
      have hz' := eq_true hz
      simp only [vmr, vmw, vmp, vza, ↓reduceIte, Nat.reduceBEq, Nat.reduceLT, Nat.reduceAdd, Nat.reduceEqDiff, reduceCtorEq, vmt, vzb, vzc, vlen, vleaf, velems, oks, vst, vmd, ty, Nat.reduceLeDiff, Nat.reduceMul, Nat.reduceSub, c743, Tryz.f52, m743, h1, h10, h11, h12, h5, h5', hcl, ga, w4, e3, e5, hr1, hf, hz']
      refine ih _ _ ?_ (A43.of ?_ ?_) ?_ ?_ ?_ ?_ hq
      case refine_1 => rw [List.length_append]; omega
      all_goals simp only [vmr, vmw, vmp, vza, ↓reduceIte, Nat.reduceBEq, Nat.reduceLT, Nat.reduceAdd, Nat.reduceEqDiff, reduceCtorEq, vmt, vzb, vzc, vlen, vleaf, velems, oks, vst, vmd, ty, Nat.reduceLeDiff, Nat.reduceMul, Nat.reduceSub, m743, ver, List.length_append, List.map_append, h1, h10, h11]
    | none =>
      rw [hv] at e3
      simp only [findI] at e3
      have hcu := un_mem hv hmem
      have e6 := F43_eq (m := m) (a := c1) (l := l) (by omega) hvok ht.2 (by omega)
      rw [unT, hv] at hq
      rw [unL, unT, hv, List.length_append] at hd
      dsimp only at hq hd
      have hr0 := @room35 1 (by omega)
      have hr1 := @room35 (d.length + 1) (by simp at hd; omega)
      have hf := fits35 (.mk k1 s1 (unL l c1))
      rw [tv_mk] at hf
      have hz' := eq_true hz
      simp only [vmr, vmw, vmp, vza, ↓reduceIte, Nat.reduceBEq, Nat.reduceLT, Nat.reduceAdd, Nat.reduceEqDiff, reduceCtorEq, vmt, vzb, vzc, vlen, vleaf, velems, oks, vst, vmd, ty, Nat.reduceLeDiff, Nat.reduceMul, Nat.reduceSub, c743, Tryz.f52, m743, h1, h10, h11, h12, h5, h5', hcl, ga, w4, e3, e6, hr0, hr1, hf, hz', hdw, List.map_cons, List.map_nil]
      refine ih (d ++ [.mk k1 s1 (unL l c1)]) _ ?_ (A43.of ?_ ?_) ?_ ?_ ?_ ?_ hq
      case refine_1 => simp at hd ⊢; omega
      all_goals simp only [vmr, vmw, vmp, vza, ↓reduceIte, Nat.reduceBEq, Nat.reduceLT, Nat.reduceAdd, Nat.reduceEqDiff, reduceCtorEq, vmt, vzb, vzc, vlen, vleaf, velems, oks, vst, vmd, ty, Nat.reduceLeDiff, Nat.reduceMul, Nat.reduceSub, m743, ver, List.length_append, List.map_append, h1, h10, h11, List.map_cons, tv_mk]
theorem own_imm (sz : Nat) (d : List Tm) : can (imm (.own sz (d.map tv))) = Ts d := by
  rw [show imm (.own sz (d.map tv)) = V.lst (d.map tv) by simp only [imm, imms_map imm_tv], can_Ts]
theorem own_pure (sz : Nat) (d : List Tm) : pureR (.own sz (d.map tv)) = true := by simp only [pureR, pureLT]
theorem w43 : ∀ (m : Nat) (a : List Tm) (l : List Bn), szs a ≤ m → szs a ≤ 1000000 → vok l → txs a → szs (unL l a) ≤ 1000000 → SoundPure Tryz.prog 52 [Ts a, vfn l] (.ret (Ts (unL l a))) := by
  intro m
  induction m using Nat.strongRecOn with
  | ind m IH =>
  intro a l hm hb hl ho hu
  have hH : SoundHand Tryz.prog (hand (T743 (szs a))) := sound_cons (hF_sound fun p hp => IH (szs p.1) (by omega) p.1 p.2 (Nat.le_refl _) (by omega) hp.2.1 hp.2.2.1 hp.2.2.2) (sound_cons F48_sound (sound_cons F70_sound sound_nil))
  have hul := szs_len (unL l a)
  let Po : Option (Ex × St) → Prop := fun r => ∃ sz : Nat, P743 (szs a) (a.length + 1) (.own sz ((unL l a).map tv)) r
  have key : Po (R (M743 (hand (T743 (szs a))) (a.length + 1)) c743 .top ⟨params 0 [Ts a, vfn l], [], fun _ => none, 0⟩) := by
    have a1 := fun k s => @l743 (szs a) (a.length + 1) k Po l a (Nat.le_refl _) hb ho hl hu a 0 [] (a.length + 1) s rfl (by omega) (by simp; omega)
    simp only [c743, Tryz.f52, gets, sub] at a1 ⊢
    simp only [vmr, vmw, vmp, vza, ↓reduceIte, Nat.reduceBEq, Nat.reduceLT, Nat.reduceAdd, Nat.reduceEqDiff, reduceCtorEq, vmt, vzb, vzc, vlen, vleaf, velems, oks, vst, vmd, ty, Nat.reduceLeDiff, Nat.reduceMul, Nat.reduceSub, m743]
    refine a1 _ _ ⟨0, 0, .inr rfl, ?_, ?_⟩ ?_ ?_ ?_ ?_ (fun s' hA => ?_)
    case refine_7 =>
      rw [List.nil_append] at hA
      obtain ⟨v5, sz, hz, h5, h5'⟩ := hA
      refine ⟨sz, ?_⟩
      simp only [vmr, vmw, vmp, vza, ↓reduceIte, Nat.reduceBEq, Nat.reduceLT, Nat.reduceAdd, Nat.reduceEqDiff, reduceCtorEq, vmt, vzb, vzc, vlen, vleaf, velems, oks, vst, vmd, ty, Nat.reduceLeDiff, Nat.reduceMul, Nat.reduceSub, m743, h5, h5']
      unfold P743
      simp only [vmr, vmw, vmp, vza, ↓reduceIte, Nat.reduceBEq, Nat.reduceLT, Nat.reduceAdd, Nat.reduceEqDiff, reduceCtorEq, vmt, vzb, vzc, vlen, vleaf, velems, oks, vst, vmd, ty, Nat.reduceLeDiff, Nat.reduceMul, Nat.reduceSub, vzr, m743, h5', take_len]
    all_goals simp only [vmr, vmw, vmp, vza, ↓reduceIte, Nat.reduceBEq, Nat.reduceLT, Nat.reduceAdd, Nat.reduceEqDiff, reduceCtorEq, vmt, vzb, vzc, vlen, vleaf, velems, oks, vst, vmd, ty, Nat.reduceLeDiff, Nat.reduceMul, Nat.reduceSub, m743]
    all_goals rfl
  obtain ⟨sz, hk⟩ := key
  have := sound_imm (s743 hH (a.length + 1) (by simp) (own_pure sz _) hk) (own_pure _ _)
  rw [own_imm] at this
  exact this
noncomputable def Fun : List V → Option V := hF (α := List Tm × List Bn) (fun p => [Ts p.1, vfn p.2]) (fun p => szs p.1 ≤ 1000000 ∧ vok p.2 ∧ txs p.1 ∧ szs (unL p.2 p.1) ≤ 1000000) (fun p => Ts (unL p.2 p.1))
theorem Fun_eq {a : List Tm} {l : List Bn} (h : szs a ≤ 1000000) (hl : vok l) (ho : txs a) (hu : szs (unL l a) ≤ 1000000) : Fun [Ts a, vfn l] = some (Ts (unL l a)) :=
  hF_eq (a := (a, l)) (two_inj (fun _ _ => Ts_inj) (fun _ _ => vfn_inj)) (by simp only [cans, can_Ts]; rfl) ⟨h, hl, ho, hu⟩
theorem F43_sound : ∀ args v, Fun args = some v → SoundPure Tryz.prog 52 args (.ret v) := hF_sound fun p hp => w43 _ p.1 p.2 (Nat.le_refl _) hp.1 hp.2.1 hp.2.2.1 hp.2.2.2
end Go.Vi
set_option maxRecDepth 100000
set_option maxHeartbeats 1000000
namespace Go.Vi
open Go Go.Proofs
mutual
def unRT (l : List Bn) : Tm → List Tm
  | .mk k s c => match valB l k s with
    | some v => v
    | none => if isV k = true then [.mk k s []] else [.mk k s (unRL l c)]
def unRL (l : List Bn) : List Tm → List Tm
  | [] => []
  | t :: r => unRT l t ++ unRL l r
end
theorem unR_mem {l : List Bn} {k s c} (hv : valB l k s = none) (hk : isV k = false) : ∀ {a : List Tm}, Tm.mk k s c ∈ a → szs (unRL l c) < szs (unRL l a)
  | x :: r, h => by
    rw [unRL, szs_app]
    rcases List.mem_cons.1 h with rfl | h
    · rw [unRT, hv, hk]; simp only [Bool.false_eq_true, if_false, szs, szt]; omega
    · have := unR_mem hv hk h; omega
def okE (es : List V) (d : List Tm) : Prop := cans es = d.map tv ∧ immL es = es ∧ pureRL es = true ∧ es.length = d.length
theorem cans_app : ∀ a b : List V, cans (a ++ b) = cans a ++ cans b
  | [], _ => rfl
  | x :: r, b => by simp only [List.cons_append, cans, cans_app r b]
theorem imms_app : ∀ a b : List V, immL (a ++ b) = immL a ++ immL b
  | [], _ => rfl
  | x :: r, b => by simp only [List.cons_append, immL, imms_app r b]
theorem pures_app : ∀ a b : List V, pureRL (a ++ b) = (pureRL a && pureRL b)
  | [], _ => rfl
  | x :: r, b => by simp only [List.cons_append, pureRL, pures_app r b, Bool.and_assoc]
theorem okE_app {a b : List V} {d e : List Tm} (h : okE a d) (k : okE b e) : okE (a ++ b) (d ++ e) := by
  obtain ⟨h1, h2, h3, h4⟩ := h
  obtain ⟨k1, k2, k3, k4⟩ := k
  exact ⟨by rw [cans_app, h1, k1, List.map_append], by rw [imms_app, h2, k2], by rw [pures_app, h3, k3]; rfl, by simp [h4, k4]⟩
theorem okE_tv (d : List Tm) : okE (d.map tv) d := ⟨by rw [← tvs_map, cans_tvs], imms_map imm_tv d, pureLT d, by simp⟩
theorem okE_imm {sz : Nat} {es : List V} {d : List Tm} (h : okE es d) : can (imm (.own sz es)) = Ts d := by
  rw [show imm (.own sz es) = V.lst es by simp only [imm, h.2.1]]
  show V.lst (cans es) = _
  rw [h.1]
noncomputable def F59 (m : Nat) : List V → Option V := hF (α := List Tm × List Bn) (fun p => [Ts p.1, Bs p.2]) (fun p => szs p.1 < m ∧ bnsOk p.2 ∧ txs p.1 ∧ szs (unRL p.2 p.1) ≤ 1000000) (fun p => Ts (unRL p.2 p.1))
theorem F59_eq {m : Nat} {a : List Tm} {l : List Bn} (h : szs a < m) (hl : bnsOk l) (ho : txs a) (hu : szs (unRL l a) ≤ 1000000) : F59 m [Ts a, Bs l] = some (Ts (unRL l a)) :=
  hF_eq (a := (a, l)) (two_inj (fun _ _ => Ts_inj) (fun _ _ => Bs_inj)) (by simp only [cans, can_Ts, can_Bs]) ⟨h, hl, ho, hu⟩
noncomputable abbrev T759 (m : Nat) : List (FuncId × (List V → Option V)) := [(45, Ffind), (56, F59 m), (59, FisV), (68, FnameV)]
def P759 (m n : Nat) (v : V) (r : Option (Ex × St)) : Prop := Fin (M759 (hand (T759 m)) n) [.tmp 4] r = some (.ret v)
def A59 (s : St) (d : List Tm) : Prop := ∃ v5 sz es, (sz = 3 ∨ sz = 0) ∧ okE es d ∧ tget s.τ 5 = .ref ⟨0, 5, 0⟩ v5 0 es.length ∧ lget s.L (5, 0) = some (v5, .arr sz es)
theorem A59.of {s d es} (ho : okE es d) (h : tget s.τ 5 = .ref ⟨0, 5, 0⟩ (ver s (5, 0)) 0 es.length) (h' : lget s.L (5, 0) = some (ver s (5, 0), .arr 3 es)) : A59 s d := ⟨_, 3, es, .inl rfl, ho, h, h'⟩
theorem l759 {m n k} {P : Option (Ex × St) → Prop} {l : List Bn} (a : List Tm) (hm : szs a ≤ m) (hb : szs a ≤ 1000000) (ho : txs a) (hl : bnsOk l) (hu : szs (unRL l a) ≤ 1000000) : ∀ r i d n' s, a.drop i = r → r.length < n' → d.length + (unRL l r).length ≤ 1000000 → A59 s d → tget s.τ 0 = Ts a → tget s.τ 1 = Bs l → tget s.τ 6 = I (i : Nat) →
    (∀ s', A59 s' (d ++ unRL l r) → P (X (M759 (hand (T759 m)) n) (.exit 0) k s')) →
    P (L (M759 (hand (T759 m)) n) (sub [1, 1, 0, 1, 0, 0] c759) n' k s)
  | [], i, d, n' + 1, s, hi, hn, hd, hA, h0, h1, h6, hq => by
    have hc := inlt (drop_nil' hi)
    rw [L_succ]
    simp only [vmr, vmw, vmp, vza, ↓reduceIte, Nat.reduceBEq, Nat.reduceLT, Nat.reduceAdd, Nat.reduceEqDiff, reduceCtorEq, vmt, vzb, vzc, vlen, vleaf, velems, oks, vst, vmd, ty, Nat.reduceLeDiff, Nat.reduceMul, Nat.reduceSub, c759, Tryz.f56, m759, h0, h6, hc]
    refine hq _ ?_
    rw [unRL, List.append_nil]
    obtain ⟨v5, sz, es, hz, hoe, h5, h5'⟩ := hA
    exact ⟨v5, sz, es, hz, hoe, by simp only [vmr, vmw, vmp, vza, ↓reduceIte, Nat.reduceBEq, Nat.reduceLT, Nat.reduceAdd, Nat.reduceEqDiff, reduceCtorEq, vmt, vzb, vzc, vlen, vleaf, velems, oks, vst, vmd, ty, Nat.reduceLeDiff, Nat.reduceMul, Nat.reduceSub, m759, h5], by simp only [vmr, vmw, vmp, vza, ↓reduceIte, Nat.reduceBEq, Nat.reduceLT, Nat.reduceAdd, Nat.reduceEqDiff, reduceCtorEq, vmt, vzb, vzc, vlen, vleaf, velems, oks, vst, vmd, ty, Nat.reduceLeDiff, Nat.reduceMul, Nat.reduceSub, m759, h5']⟩
  | .mk k1 s1 c1 :: r, i, d, n' + 1, s, hi, hn, hd, hA, h0, h1, h6, hq => by
    obtain ⟨g1, g2, g3⟩ := drop_cons hi
    have hcl := ilt g3
    have ga : (a.map tv)[i]? = some (.agg [I k1, .str s1, Ts c1]) := by rw [List.getElem?_map, g1, Option.map_some, tv_mk]
    obtain ⟨v5, sz, es, hz, hoe, h5, h5'⟩ := hA
    have hmem := List.mem_of_getElem? g1
    have hs := szs_mem (l := a) hmem
    have ht := txs_mem ho hmem
    simp only [txt1] at ht
    have hla := szs_len a
    have hel := hoe.2.2.2
    have w4 := wsuc g3 (by omega)
    have e1 := Ftm_eq (f := fun k _ => .bool (isV k)) k1 c1 ht.1
    have e2 := Ftm_eq (f := fun k s => .str (nameV k s)) k1 c1 ht.1
    have e3 := Ffind_eq (x := nameV k1 s1) hl
    have hdw := @d759_11 (hand (T759 m)) n
    have hz' := eq_true hz
    have ih := fun d s => l759 (m := m) (n := n) (k := k) (P := P) (l := l) a hm hb ho hl hu r (i + 1) d n' s g2 (by simp at hn; omega)
    simp only [sub, c759, Tryz.f56, gets, opsAt] at ih hdw
    rw [unRL, ← List.append_assoc] at hq
    rw [unRL, List.length_append] at hd
    rw [L_succ]
    cases hiv : isV k1 with
    | true =>
      rw [hiv] at e1
      cases hv : findB (nameV k1 s1) l with
      | some w =>
        have hvb : valB l k1 s1 = some w := by unfold valB; rw [if_pos hiv, hv]
        have hw := valB_sz (fun b hb => (hl.2 b hb).2.1) hvb
        have hwl := szs_len w
        rw [hv] at e3
        simp only [findI] at e3
        rw [unRT, hvb] at hq hd
        dsimp only at hq hd
        have hr1 := @room35 (es.length + w.length) (by omega)
        have hf := fits35s w
        simp only [vmr, vmw, vmp, vza, ↓reduceIte, Nat.reduceBEq, Nat.reduceLT, Nat.reduceAdd, Nat.reduceEqDiff, reduceCtorEq, vmt, vzb, vzc, vlen, vleaf, velems, oks, vst, vmd, ty, Nat.reduceLeDiff, Nat.reduceMul, Nat.reduceSub, c759, Tryz.f56, m759, h0, h1, h6, h5, h5', hcl, ga, w4, e1, e2, e3, hr1, hf, hz']
        refine ih _ _ ?_ (A59.of (okE_app hoe (okE_tv w)) ?_ ?_) ?_ ?_ ?_ hq
        case refine_1 => rw [List.length_append]; omega
        all_goals simp only [vmr, vmw, vmp, vza, ↓reduceIte, Nat.reduceBEq, Nat.reduceLT, Nat.reduceAdd, Nat.reduceEqDiff, reduceCtorEq, vmt, vzb, vzc, vlen, vleaf, velems, oks, vst, vmd, ty, Nat.reduceLeDiff, Nat.reduceMul, Nat.reduceSub, m759, ver, List.length_append, h0, h1]
      | none =>
        have hvb : valB l k1 s1 = none := by unfold valB; rw [if_pos hiv, hv]
        rw [hv] at e3
        simp only [findI] at e3
        rw [unRT, hvb] at hq hd
        simp only [hiv, if_true] at hq hd
        have hr1 := @room35 (es.length + 1) (by simp at hd; omega)
        have hf : fitsE Tryz.prog 52 (.agg [I k1, .str s1, .nilS]) = true := by simp [fitsE, ty, leafV]
        have hr0 := @room35 1 (by omega)
        simp only [vmr, vmw, vmp, vza, ↓reduceIte, Nat.reduceBEq, Nat.reduceLT, Nat.reduceAdd, Nat.reduceEqDiff, reduceCtorEq, vmt, vzb, vzc, vlen, vleaf, velems, oks, vst, vmd, ty, Nat.reduceLeDiff, Nat.reduceMul, Nat.reduceSub, c759, Tryz.f56, m759, h0, h1, h6, h5, h5', hcl, ga, w4, e1, e2, e3, hr0, hr1, hf, hz', List.map_cons]
        refine ih _ _ ?_ (A59.of (es := es ++ [.agg [I k1, .str s1, .nilS]]) (okE_app hoe (e := [.mk k1 s1 []]) ⟨by simp [cans, can, tv_mk], rfl, rfl, rfl⟩) ?_ ?_) ?_ ?_ ?_ hq
        case refine_1 => simp at hd ⊢; omega
        all_goals simp only [vmr, vmw, vmp, vza, ↓reduceIte, Nat.reduceBEq, Nat.reduceLT, Nat.reduceAdd, Nat.reduceEqDiff, reduceCtorEq, vmt, vzb, vzc, vlen, vleaf, velems, oks, vst, vmd, ty, Nat.reduceLeDiff, Nat.reduceMul, Nat.reduceSub, m759, ver, List.length_append, h0, h1]
    | false =>
      have hvb : valB l k1 s1 = none := by unfold valB; rw [if_neg (by simp [hiv])]
      rw [hiv] at e1
      have hcu := unR_mem hvb hiv hmem
      have e6 := F59_eq (m := m) (a := c1) (l := l) (by omega) hl ht.2 (by omega)
      rw [unRT, hvb] at hq hd
      simp only [hiv, Bool.false_eq_true, if_false] at hq hd
      have hr1 := @room35 (es.length + 1) (by simp at hd; omega)
      have hf := fits35 (.mk k1 s1 (unRL l c1))
      rw [tv_mk] at hf
      have hr0 := @room35 1 (by omega)
      simp only [vmr, vmw, vmp, vza, ↓reduceIte, Nat.reduceBEq, Nat.reduceLT, Nat.reduceAdd, Nat.reduceEqDiff, reduceCtorEq, vmt, vzb, vzc, vlen, vleaf, velems, oks, vst, vmd, ty, Nat.reduceLeDiff, Nat.reduceMul, Nat.reduceSub, c759, Tryz.f56, m759, h0, h1, h6, h5, h5', hcl, ga, w4, e1, e6, hr0, hr1, hf, hz', hdw, List.map_cons]
      refine ih _ _ ?_ (A59.of (okE_app hoe (okE_tv [.mk k1 s1 (unRL l c1)])) ?_ ?_) ?_ ?_ ?_ hq
      case refine_1 => simp at hd ⊢; omega
      all_goals simp only [vmr, vmw, vmp, vza, ↓reduceIte, Nat.reduceBEq, Nat.reduceLT, Nat.reduceAdd, Nat.reduceEqDiff, reduceCtorEq, vmt, vzb, vzc, vlen, vleaf, velems, oks, vst, vmd, ty, Nat.reduceLeDiff, Nat.reduceMul, Nat.reduceSub, m759, ver, List.length_append, h0, h1, List.map_cons, tv_mk]
theorem w59 : ∀ (m : Nat) (a : List Tm) (l : List Bn), szs a ≤ m → szs a ≤ 1000000 → bnsOk l → txs a → szs (unRL l a) ≤ 1000000 → SoundPure Tryz.prog 56 [Ts a, Bs l] (.ret (Ts (unRL l a))) := by
  intro m
  induction m using Nat.strongRecOn with
  | ind m IH =>
  intro a l hm hb hl ho hu
  have hH : SoundHand Tryz.prog (hand (T759 (szs a))) := sound_cons F37_sound (sound_cons (hF_sound fun p hp => IH (szs p.1) (by omega) p.1 p.2 (Nat.le_refl _) (by omega) hp.2.1 hp.2.2.1 hp.2.2.2) (sound_cons F88_sound (sound_cons F89_sound sound_nil)))
  have hul := szs_len (unRL l a)
  let Po : Option (Ex × St) → Prop := fun r => ∃ (sz : Nat) (es : List V), okE es (unRL l a) ∧ P759 (szs a) (a.length + 1) (.own sz es) r
  have key : Po (R (M759 (hand (T759 (szs a))) (a.length + 1)) c759 .top ⟨params 0 [Ts a, Bs l], [], fun _ => none, 0⟩) := by
    have a1 := fun k s => @l759 (szs a) (a.length + 1) k Po l a (Nat.le_refl _) hb ho hl hu a 0 [] (a.length + 1) s rfl (by omega) (by simp; omega)
    have hr0 := @room35 0 (by omega)
    simp only [c759, Tryz.f56, gets, sub] at a1 ⊢
    simp only [vmr, vmw, vmp, vza, ↓reduceIte, Nat.reduceBEq, Nat.reduceLT, Nat.reduceAdd, Nat.reduceEqDiff, reduceCtorEq, vmt, vzb, vzc, vlen, vleaf, velems, oks, vst, vmd, ty, Nat.reduceLeDiff, Nat.reduceMul, Nat.reduceSub, m759, hr0]
    refine a1 _ _ ⟨1, 3, [], .inl rfl, ⟨rfl, rfl, rfl, rfl⟩, ?_, ?_⟩ ?_ ?_ ?_ (fun s' hA => ?_)
    case refine_6 =>
      rw [List.nil_append] at hA
      obtain ⟨v5, sz, es, hz, hoe, h5, h5'⟩ := hA
      refine ⟨sz, es, hoe, ?_⟩
      simp only [vmr, vmw, vmp, vza, ↓reduceIte, Nat.reduceBEq, Nat.reduceLT, Nat.reduceAdd, Nat.reduceEqDiff, reduceCtorEq, vmt, vzb, vzc, vlen, vleaf, velems, oks, vst, vmd, ty, Nat.reduceLeDiff, Nat.reduceMul, Nat.reduceSub, m759, h5, h5']
      unfold P759
      simp only [vmr, vmw, vmp, vza, ↓reduceIte, Nat.reduceBEq, Nat.reduceLT, Nat.reduceAdd, Nat.reduceEqDiff, reduceCtorEq, vmt, vzb, vzc, vlen, vleaf, velems, oks, vst, vmd, ty, Nat.reduceLeDiff, Nat.reduceMul, Nat.reduceSub, vzr, m759, h5']
    all_goals simp only [vmr, vmw, vmp, vza, ↓reduceIte, Nat.reduceBEq, Nat.reduceLT, Nat.reduceAdd, Nat.reduceEqDiff, reduceCtorEq, vmt, vzb, vzc, vlen, vleaf, velems, oks, vst, vmd, ty, Nat.reduceLeDiff, Nat.reduceMul, Nat.reduceSub, m759]
    all_goals rfl
  obtain ⟨sz, es, hoe, hk⟩ := key
  have hp : pureR (.own sz es) = true := by simp only [pureR, hoe.2.2.1]
  have := sound_imm (s759 hH (a.length + 1) (by simp) hp hk) hp
  rw [okE_imm hoe] at this
  exact this
noncomputable def FunR : List V → Option V := hF (α := List Tm × List Bn) (fun p => [Ts p.1, Bs p.2]) (fun p => szs p.1 ≤ 1000000 ∧ bnsOk p.2 ∧ txs p.1 ∧ szs (unRL p.2 p.1) ≤ 1000000) (fun p => Ts (unRL p.2 p.1))
theorem F59_sound : ∀ args v, FunR args = some v → SoundPure Tryz.prog 56 args (.ret v) := hF_sound fun p hp => w59 _ p.1 p.2 (Nat.le_refl _) hp.1 hp.2.1 hp.2.2.1 hp.2.2.2
end Go.Vi
set_option maxRecDepth 100000
set_option maxHeartbeats 1000000
namespace Go.Vi
open Go Go.Proofs
theorem chk_nds : ∀ (l : List Bn) (W : List (List UInt8)), chkL W l = 0 → (∀ b ∈ l, W.contains b.x = false) ∧ nds l
  | [], W, _ => ⟨fun b h => (by cases h), List.nodup_nil⟩
  | b :: r, W, h => by
    unfold chkL at h
    split at h
    · cases h
    · split at h
      · cases h
      · rename_i hW
        split at h
        · rename_i he; exact absurd h he
        · split at h
          · obtain ⟨h1, h2⟩ := chk_nds r (W ++ [b.x]) h
            have hW' : W.contains b.x = false := by simpa using hW
            refine ⟨fun c hc => ?_, ?_⟩
            · rcases List.mem_cons.1 hc with rfl | hc
              · exact hW'
              · have := h1 c hc
                simp only [List.contains_eq_mem, List.mem_append, decide_eq_false_iff_not] at this ⊢
                exact fun h => this (.inl h)
            · unfold nds
              rw [List.map_cons, List.nodup_cons]
              refine ⟨fun hm => ?_, h2⟩
              obtain ⟨c, hc, he⟩ := List.mem_map.1 hm
              have := h1 c hc
              simp [he] at this
          · cases h
theorem chkB_nds {l : List Bn} (h : chkB l = 0) : nds l := by
  unfold chkB at h
  split at h
  · cases h
  · exact (chk_nds l [] h).2
mutual
theorem nd_szT {l : List Bn} {most : Nat} : ∀ t, (ndT l most t).1 ≤ most + 1 → (ndT l most t).1 = szs (unT l t)
  | .mk k s c, h => by
    rw [ndT_eq] at h ⊢
    rw [unT]
    cases hv : valB l k s with
    | some v => rfl
    | none =>
      rw [hv] at h
      dsimp only at h ⊢
      have h1 : (ndF l most c).1 ≤ most := by omega
      have h2 : (ndL l most 0 0 c).1 ≤ most := by unfold ndF at h1; dsimp only at h1; omega
      have := nd_szL c 0 0 h2
      have h3 : (ndF l most c).1 = (ndL l most 0 0 c).1 := by unfold ndF; dsimp only; omega
      rw [h3, this]
      simp only [szs, szt]
      omega
theorem nd_szL {l : List Bn} {most : Nat} : ∀ (e : List Tm) (n d : Nat), (ndL l most n d e).1 ≤ most → (ndL l most n d e).1 = n + szs (unL l e)
  | [], n, d, h => rfl
  | t :: r, n, d, h => by
    rw [ndL] at h ⊢
    by_cases q : n > most
    · rw [if_pos q] at h; dsimp only at h; omega
    · rw [if_neg q] at h ⊢
      have h1 := nd_szL r _ _ h
      have h2 : (ndT l most t).1 ≤ most + 1 := by omega
      rw [h1, nd_szT t h2, unL, szs_app]
      omega
end
theorem nd_sz {l : List Bn} {most : Nat} {e : List Tm} (h : (ndF l most e).1 ≤ most) : szs (unL l e) ≤ most := by
  have h2 : (ndL l most 0 0 e).1 ≤ most := by unfold ndF at h; dsimp only at h; omega
  have := nd_szL e 0 0 h2
  omega
def toL (e : List Tm) (l : List Bn) : List Tm × Int := if (ndF l 4000 e).1 > 4000 ∨ (ndF l 4000 e).2 > 100 then ([], 7) else (unL l e, 0)
def toB (e : List Tm) (l : List Bn) : List Tm × Int := if errB 8 e ≠ 0 then ([], errB 8 e) else if chkB l ≠ 0 then ([], chkB l) else toL e l
abbrev toV (p : List Tm × Int) : V := .tup [Ts p.1, I p.2]
noncomputable abbrev T730 : List (FuncId × (List V → Option V)) := [(52, Fun), (53, F44), (70, Fnv)]
theorem h730 : SoundHand Tryz.prog (hand T730) := sound_cons F43_sound (sound_cons F44_sound (sound_cons F56_sound sound_nil))
theorem vok_of {l : List Bn} (h : bnsOk l) : vok l := fun b hb => (h.2 b hb).2.1
theorem w30 (e : List Tm) (l : List Bn) (he : szs e ≤ 1000000) (ho : txs e) (hl : bnsOk l) (hd : nds l) : SoundPure Tryz.prog 40 [Ts e, Bs l] (.ret (toV (toL e l))) := by
  have e1 := F44_eq hl.1 hd
  have e2 := Fnv_eq (k := 4000) he (vok_of hl) ho (by omega)
  have n4 : (((4000 : Nat) : Int)) = 4000 := rfl
  rw [n4] at e2
  by_cases q1 : (ndF l 4000 e).1 > 4000
  · have q1' : (((ndF l 4000 e).1 : Int) > 4000) = True := eq_true (by omega)
    have : SoundPure Tryz.prog 40 [Ts e, Bs l] (.ret (.tup [.nilS, I 7])) := by
      refine s730 h730 1 (by simp) rfl ?_
      simp only [c730, Tryz.f40, gets, sub]
      simp only [vmr, vmw, vmp, vza, ↓reduceIte, Nat.reduceBEq, Nat.reduceLT, Nat.reduceAdd, Nat.reduceEqDiff, reduceCtorEq, vmt, vzb, vzc, vlen, vleaf, velems, oks, vst, vmd, ty, Nat.reduceLeDiff, Nat.reduceMul, Nat.reduceSub, vzr, m730, e1, e2, q1']
    have := sound_imm this rfl
    unfold toL
    rw [if_pos (.inl q1)]
    exact this
  · have q1' : (((ndF l 4000 e).1 : Int) > 4000) = False := eq_false (by omega)
    by_cases q2 : (ndF l 4000 e).2 > 100
    · have q2' : (((ndF l 4000 e).2 : Int) > 100) = True := eq_true (by omega)
      have : SoundPure Tryz.prog 40 [Ts e, Bs l] (.ret (.tup [.nilS, I 7])) := by
        refine s730 h730 1 (by simp) rfl ?_
        simp only [c730, Tryz.f40, gets, sub]
        simp only [vmr, vmw, vmp, vza, ↓reduceIte, Nat.reduceBEq, Nat.reduceLT, Nat.reduceAdd, Nat.reduceEqDiff, reduceCtorEq, vmt, vzb, vzc, vlen, vleaf, velems, oks, vst, vmd, ty, Nat.reduceLeDiff, Nat.reduceMul, Nat.reduceSub, vzr, m730, e1, e2, q1', q2']
      have := sound_imm this rfl
      unfold toL
      rw [if_pos (.inr q2)]
      exact this
    · have q2' : (((ndF l 4000 e).2 : Int) > 100) = False := eq_false (by omega)
      have hs := nd_sz (l := l) (most := 4000) (e := e) (by omega)
      have e3 := Fun_eq he (vok_of hl) ho (by omega)
      unfold toL
      rw [if_neg (by omega)]
      refine s730 h730 1 (by simp) rfl ?_
      simp only [c730, Tryz.f40, gets, sub]
      simp only [vmr, vmw, vmp, vza, ↓reduceIte, Nat.reduceBEq, Nat.reduceLT, Nat.reduceAdd, Nat.reduceEqDiff, reduceCtorEq, vmt, vzb, vzc, vlen, vleaf, velems, oks, vst, vmd, ty, Nat.reduceLeDiff, Nat.reduceMul, Nat.reduceSub, vzr, m730, e1, e2, q1', q2', e3]
noncomputable def Fto0 : List V → Option V := hF (α := List Tm × List Bn) (fun p => [Ts p.1, Bs p.2]) (fun p => szs p.1 ≤ 1000000 ∧ txs p.1 ∧ bnsOk p.2 ∧ nds p.2) (fun p => toV (toL p.1 p.2))
theorem Fto0_eq {e : List Tm} {l : List Bn} (he : szs e ≤ 1000000) (ho : txs e) (hl : bnsOk l) (hd : nds l) : Fto0 [Ts e, Bs l] = some (toV (toL e l)) :=
  hF_eq (a := (e, l)) (two_inj (fun _ _ => Ts_inj) (fun _ _ => Bs_inj)) (by simp only [cans, can_Ts, can_Bs]) ⟨he, ho, hl, hd⟩
theorem F30_sound : ∀ args v, Fto0 args = some v → SoundPure Tryz.prog 40 args (.ret v) := hF_sound fun p hp => w30 p.1 p.2 hp.1 hp.2.1 hp.2.2.1 hp.2.2.2
noncomputable abbrev T711 : List (FuncId × (List V → Option V)) := [(39, Fchk), (29, Fres), (40, Fto0)]
theorem h711 : SoundHand Tryz.prog (hand T711) := sound_cons F14_sound (sound_cons F17_sound (sound_cons F30_sound sound_nil))
theorem w11 (e : List Tm) (l : List Bn) (he : szs e ≤ 1000000) (ho : txs e) (hl : bnsOk l) : SoundPure Tryz.prog 27 [Ts e, Bs l] (.ret (toV (toB e l))) := by
  have e1 := Fres_eq he ho
  have e2 := Fchk_eq hl
  have n0 : ((0 : Int) != 0) = false := rfl
  unfold toB
  by_cases q1 : errB 8 e = 0
  · rw [if_neg (by simp [q1])]
    rw [q1] at e1
    by_cases q2 : chkB l = 0
    · rw [if_neg (by simp [q2])]
      rw [q2] at e2
      have e3 := Fto0_eq he ho hl (chkB_nds q2)
      refine s711 h711 1 (by simp) rfl ?_
      simp only [c711, Tryz.f27, gets, sub]
      simp only [vmr, vmw, vmp, vza, ↓reduceIte, Nat.reduceBEq, Nat.reduceLT, Nat.reduceAdd, Nat.reduceEqDiff, reduceCtorEq, vmt, vzb, vzc, vlen, vleaf, velems, oks, vst, vmd, ty, Nat.reduceLeDiff, Nat.reduceMul, Nat.reduceSub, vzr, m711, e1, e2, e3, n0]
    · have q2' : (chkB l != 0) = true := by simpa using q2
      rw [if_pos q2]
      have : SoundPure Tryz.prog 27 [Ts e, Bs l] (.ret (.tup [.nilS, I (chkB l)])) := by
        refine s711 h711 1 (by simp) rfl ?_
        simp only [c711, Tryz.f27, gets, sub]
        simp only [vmr, vmw, vmp, vza, ↓reduceIte, Nat.reduceBEq, Nat.reduceLT, Nat.reduceAdd, Nat.reduceEqDiff, reduceCtorEq, vmt, vzb, vzc, vlen, vleaf, velems, oks, vst, vmd, ty, Nat.reduceLeDiff, Nat.reduceMul, Nat.reduceSub, vzr, m711, e1, e2, n0, q2']
      exact sound_imm this rfl
  · have q1' : (errB 8 e != 0) = true := by simpa using q1
    rw [if_pos q1]
    have : SoundPure Tryz.prog 27 [Ts e, Bs l] (.ret (.tup [.nilS, I (errB 8 e)])) := by
      refine s711 h711 1 (by simp) rfl ?_
      simp only [c711, Tryz.f27, gets, sub]
      simp only [vmr, vmw, vmp, vza, ↓reduceIte, Nat.reduceBEq, Nat.reduceLT, Nat.reduceAdd, Nat.reduceEqDiff, reduceCtorEq, vmt, vzb, vzc, vlen, vleaf, velems, oks, vst, vmd, ty, Nat.reduceLeDiff, Nat.reduceMul, Nat.reduceSub, vzr, m711, e1, q1']
    exact sound_imm this rfl
mutual
theorem unR_T {l : List Bn} {most : Int} : ∀ t, fmt most t = true → unRT l t = unT l t
  | .mk k s c, h => by
    simp only [fmt, Bool.and_eq_true] at h
    rw [unRT, unT]
    cases hv : valB l k s with
    | some v => rfl
    | none =>
      dsimp only
      cases hk : isV k with
      | true =>
        have hc : c = [] := by
          have h1 := h.1.1
          unfold rightB at h1
          have : k ≠ 4 ∧ k ≠ 8 := by simp [isV] at hk; omega
          rw [if_neg this.1, if_neg this.2] at h1
          split at h1
          · cases h1
          · rename_i hc; simpa using hc
        subst hc
        rfl
      | false => rw [if_neg (by simp), unR_L c h.2]
theorem unR_L {l : List Bn} {most : Int} : ∀ e, fms most e = true → unRL l e = unL l e
  | [], _ => rfl
  | t :: r, h => by
    simp only [fms, Bool.and_eq_true] at h
    rw [unRL, unL, unR_T t h.1, unR_L r h.2]
end
noncomputable def Fto : List V → Option V := hF (α := List Tm × List Bn) (fun p => [Ts p.1, Bs p.2]) (fun p => szs p.1 ≤ 1000000 ∧ txs p.1 ∧ bnsOk p.2) (fun p => toV (toB p.1 p.2))
theorem F11_sound : ∀ args v, Fto args = some v → SoundPure Tryz.prog 27 args (.ret v) := hF_sound fun p hp => w11 p.1 p.2 hp.1 hp.2.1 hp.2.2
end Go.Vi
set_option maxRecDepth 100000
set_option maxHeartbeats 1000000
namespace Go.Vi
open Go Go.Proofs
def F61k : List V → Option V
  | [.str s, .str [c]] => if s = steS then some (.bool (decide (0 ≤ idx3 c))) else none
  | _ => none
def F62k : List V → Option V
  | [.str s, .str [c]] => if s = steS then some (I (idx3 c)) else none
  | _ => none
theorem F61k_sound : ∀ args v, F61k args = some v → SoundPure Tryz.prog 79 args (.ret v) := fun args v h => by
  unfold F61k at h
  split at h
  · split at h
    · rename_i s c hs
      injection h with h
      rw [← h, hs]
      exact w61 c
    · cases h
  · cases h
theorem F62k_sound : ∀ args v, F62k args = some v → SoundPure Tryz.prog 80 args (.ret v) := fun args v h => by
  unfold F62k at h
  split at h
  · split at h
    · rename_i s c hs
      injection h with h
      rw [← h, hs]
      exact w62 c
    · cases h
  · cases h
mutual
def chk : V → V → Bool
  | .int k n, .int k' n' => decide (k = k') && decide (n = n')
  | .bool a, .bool b => a == b
  | .str a, .str b => decide (a = b)
  | .agg a, .agg b => chks a b
  | .lst a, .lst b => chks a b
  | .lst [], .nilS => true
  | _, _ => false
def chks : List V → List V → Bool
  | [], [] => true
  | x :: r, y :: q => chk x y && chks r q
  | _, _ => false
end
mutual
theorem chk_ok : ∀ b a, chk a b = true → can b = a ∧ imm b = b ∧ pureR b = true
  | .int k n, a, h => by cases a <;> simp_all [chk, can, imm, pureR]
  | .bool b, a, h => by cases a <;> simp_all [chk, can, imm, pureR]
  | .str b, a, h => by cases a <;> simp_all [chk, can, imm, pureR]
  | .agg b, a, h => by
    cases a <;> simp only [chk, Bool.false_eq_true] at h
    obtain ⟨h1, h2, h3⟩ := chks_ok _ _ h
    simp only [can, imm, pureR, h1, h2, h3, and_self]
  | .lst b, a, h => by
    cases a <;> simp only [chk, Bool.false_eq_true] at h
    obtain ⟨h1, h2, h3⟩ := chks_ok _ _ h
    simp only [can, imm, pureR, h1, and_self]
  | .nilS, a, h => by
    cases a with
    | lst es =>
      cases es with
      | nil => exact ⟨rfl, rfl, rfl⟩
      | cons _ _ => simp [chk] at h
    | _ => simp [chk] at h
  | .tup .., a, h => by cases a <;> simp [chk] at h
  | .iptr .., a, h => by cases a <;> simp [chk] at h
  | .lmap .., a, h => by cases a <;> simp [chk] at h
  | .nilP, a, h => by cases a <;> simp [chk] at h
  | .nilI, a, h => by cases a <;> simp [chk] at h
  | .nilF, a, h => by cases a <;> simp [chk] at h
  | .nilM, a, h => by cases a <;> simp [chk] at h
  | .iface .., a, h => by cases a <;> simp [chk] at h
  | .fn .., a, h => by cases a <;> simp [chk] at h
  | .ref .., a, h => by cases a <;> simp [chk] at h
  | .ptr .., a, h => by cases a <;> simp [chk] at h
  | .mref .., a, h => by cases a <;> simp [chk] at h
  | .own .., a, h => by cases a <;> simp [chk] at h
  | .junk, a, h => by cases a <;> simp [chk] at h
theorem chks_ok : ∀ b a, chks a b = true → cans b = a ∧ immL b = b ∧ pureRL b = true
  | [], [], _ => ⟨rfl, rfl, rfl⟩
  | [], _ :: _, h => by simp [chks] at h
  | _ :: _, [], h => by simp [chks] at h
  | y :: q, x :: r, h => by
    simp only [chks, Bool.and_eq_true] at h
    obtain ⟨h1, h2, h3⟩ := chk_ok y x h.1
    obtain ⟨k1, k2, k3⟩ := chks_ok q r h.2
    simp only [cans, immL, pureRL, h1, h2, h3, k1, k2, k3, Bool.and_self, and_self]
end
def chkO : V → V → Bool
  | .lst a, .own _ b => chks a b
  | a, b => chk a b
theorem chkO_ok {a b : V} (h : chkO a b = true) : can (imm b) = a ∧ pureR b = true := by
  unfold chkO at h
  split at h
  · obtain ⟨h1, h2, h3⟩ := chks_ok _ _ h
    simp only [imm, can, pureR, h1, h3, and_self]
  · obtain ⟨h1, h2, h3⟩ := chk_ok _ _ h
    rw [h2]
    exact ⟨h1, h3⟩
def chkOs : List V → List V → Bool
  | [], [] => true
  | x :: r, y :: q => chkO x y && chkOs r q
  | _, _ => false
theorem chkOs_ok : ∀ {a b : List V}, chkOs a b = true → cans (immL b) = a ∧ pureRL b = true
  | [], [], _ => ⟨rfl, rfl⟩
  | [], _ :: _, h => by simp [chkOs] at h
  | _ :: _, [], h => by simp [chkOs] at h
  | x :: r, y :: q, h => by
    simp only [chkOs, Bool.and_eq_true] at h
    obtain ⟨h1, h2⟩ := chkO_ok h.1
    obtain ⟨k1, k2⟩ := chkOs_ok h.2
    simp only [cans, immL, pureRL, h1, h2, k1, k2, Bool.and_self, and_self]
def isC : V → Option (COut × Nat × Heap) → Bool
  | .tup a, some (.ret (.tup b), _, _) => chkOs a b
  | a, some (.ret b, _, _) => chkO a b
  | _, _ => false
theorem isC_ok {x : V} {r : Option (COut × Nat × Heap)} (h : isC x r = true) : ∃ v c O, r = some (.ret v, c, O) ∧ can (imm v) = x ∧ pureR v = true := by
  unfold isC at h
  split at h
  · obtain ⟨h1, h2⟩ := chkOs_ok h
    refine ⟨_, _, _, rfl, ?_, ?_⟩
    · simp only [imm, can, h1]
    · simp only [pureR, h2]
  · obtain ⟨h1, h2⟩ := chkO_ok h
    exact ⟨_, _, _, rfl, h1, h2⟩
  · cases h
noncomputable abbrev Hk : FuncId → Option (List V → Option V) := hand [(79, F61k), (80, F62k)]
theorem sound_run {x : V} {g : FuncId} {args : List V} {n : Nat} (h : isC x (evF (Cx Hk) n g args 0 0 noH) = true) : SoundPure Tryz.prog g args (.ret x) := by
  obtain ⟨v, c, O, hr, h1, h2⟩ := isC_ok h
  have := pure_of_call (evF_sound (C := Cx Hk) (sound_cons F61k_sound (sound_cons F62k_sound sound_nil)) good mixed n) hr h2
  have := sound_imm this h2
  rw [h1] at this
  exact this
def kx : Tm := .mk 7 [120] []
def ky : Tm := .mk 5 [121] []
def k5 : Tm := .mk 7 [53] []
def k6 : Tm := .mk 5 [54] []
theorem to11 : toB [kx, ky] [⟨[101, 46, 120], [ky, ky]⟩] = ([ky, ky, ky], 0) := by kernel_rfl
theorem w28 (k : Int) (s : List UInt8) : SoundPure Tryz.prog 26 [I k, .str s] (.ret (.agg [I k, .str s, .nilS])) := by
  refine s728 (H := []) sound_nil 1 (by simp) rfl ?_
  simp only [c728, Tryz.f26, gets, sub]
  simp only [vmr, vmw, vmp, vza, ↓reduceIte, Nat.reduceBEq, Nat.reduceLT, Nat.reduceAdd, Nat.reduceEqDiff, reduceCtorEq, vmt, vzb, vzc, vlen, vleaf, velems, oks, vst, vmd, ty, Nat.reduceLeDiff, Nat.reduceMul, Nat.reduceSub, vzr, m728]
noncomputable def Fone (args : List V) (v : V) : List V → Option V := hF (α := Unit) (fun _ => args) (fun _ => True) (fun _ => v)
theorem Fone_eq {args bs : List V} {v : V} (h : cans bs = args) : Fone args v bs = some v := hF_eq (a := ()) (fun _ _ _ => rfl) h trivial
theorem Fone_sound {args : List V} {v : V} {g : FuncId} (h : SoundPure Tryz.prog g args (.ret v)) : ∀ bs u, Fone args v bs = some u → SoundPure Tryz.prog g bs (.ret u) := hF_sound fun _ _ => h
noncomputable def F28 : List V → Option V := hF (α := Int × List UInt8) (fun p => [I p.1, .str p.2]) (fun _ => True) (fun p => .agg [I p.1, .str p.2, .nilS])
theorem F28_eq (k : Int) (s : List UInt8) : F28 [I k, .str s] = some (.agg [I k, .str s, .nilS]) := hF_eq (a := (k, s)) (two_inj (fun _ _ => I_inj) (fun _ _ => Str_inj)) rfl trivial
end Go.Vi
set_option maxRecDepth 100000
set_option maxHeartbeats 1000000
namespace Go.Vi
open Go Go.Proofs
theorem run19 : isC (.tup [Ts [k5, k6, k5], Bs [⟨[101, 46, 120], [k5]⟩, ⟨[115, 46, 121], [k6]⟩], I 0]) (evF (Cx Hk) 60 21 [Ts [kx, ky, kx], I 5] 0 0 noH) = true := by kernel_rfl
theorem run29 : isC (.tup [.lst [.str [101, 46, 120]], I 0]) (evF (Cx Hk) 60 8 [Ts [ky, kx], Ts [kx, ky, kx]] 0 0 noH) = true := by kernel_rfl
theorem run26 : isC (.bool true) (evF (Cx Hk) 60 14 [.lst [.str [101, 46, 120]], .lst [.str [101, 46, 120]]] 0 0 noH) = true := by kernel_rfl
end Go.Vi
set_option maxRecDepth 100000
set_option maxHeartbeats 1000000
namespace Go.Vi
open Go Go.Proofs
theorem k26 : SoundPure Tryz.prog 14 [.lst [.str [101, 46, 120]], .lst [.str [101, 46, 120]]] (.ret (.bool true)) := by
  have h := @sound_run _ _ _ _ run26
  exact h
theorem k19 : SoundPure Tryz.prog 21 [Ts [kx, ky, kx], I 5] (.ret (.tup [Ts [k5, k6, k5], Bs [⟨[101, 46, 120], [k5]⟩, ⟨[115, 46, 121], [k6]⟩], I 0])) := by
  have h := @sound_run _ _ _ _ run19
  exact h
theorem k29 : SoundPure Tryz.prog 8 [Ts [ky, kx], Ts [kx, ky, kx]] (.ret (.tup [.lst [.str [101, 46, 120]], I 0])) := by
  have h := @sound_run _ _ _ _ run29
  exact h
abbrev ar19 : List V := [Ts [kx, ky, kx], I 5]
abbrev rs19 : V := .tup [Ts [k5, k6, k5], Bs [⟨[101, 46, 120], [k5]⟩, ⟨[115, 46, 121], [k6]⟩], I 0]
abbrev ar29 : List V := [Ts [ky, kx], Ts [kx, ky, kx]]
abbrev rs29 : V := .tup [.lst [.str [101, 46, 120]], I 0]
abbrev ar26 : List V := [.lst [.str [101, 46, 120]], .lst [.str [101, 46, 120]]]
noncomputable abbrev T710 : List (FuncId × (List V → Option V)) := [(27, Fto), (23, F312), (21, Fone ar19 rs19), (14, Fone ar26 (.bool true)), (26, F28), (8, Fone ar29 rs29)]
theorem h710 : SoundHand Tryz.prog (hand T710) := sound_cons F11_sound <| sound_cons F312_sound <| sound_cons (Fone_sound k19) <| sound_cons (Fone_sound k26) <| sound_cons (hF_sound fun p _ => w28 p.1 p.2) <| sound_cons (Fone_sound k29) sound_nil
abbrev bnk : List Bn := [⟨[101, 46, 120], [ky, ky]⟩]
theorem ok1 : szs [kx, ky] ≤ 1000000 := by simp [szs, szt, kx, ky]
theorem ok2 : txs [kx, ky] := by simp [txs, txt1, kx, ky]
theorem ok3 : bnsOk bnk := ⟨by simp, fun b hb => by
  simp only [List.mem_singleton] at hb
  subst hb
  exact ⟨by simp, by simp [szs, szt, ky], by simp [txs, txt1, ky]⟩⟩
theorem e11k : Fto [.lst [.agg [I 7, .str [120], .nilS], .agg [I 5, .str [121], .nilS]], .lst [.agg [.str [101, 46, 120], .lst [.agg [I 5, .str [121], .nilS], .agg [I 5, .str [121], .nilS]]]]] = some (.tup [Ts [ky, ky, ky], I 0]) := by
  have h : Fto _ = some (toV (toB [kx, ky] bnk)) := hF_eq (a := ([kx, ky], bnk)) (two_inj (fun _ _ => Ts_inj) (fun _ _ => Bs_inj)) (args := [.lst [.agg [I 7, .str [120], .nilS], .agg [I 5, .str [121], .nilS]], .lst [.agg [.str [101, 46, 120], .lst [.agg [I 5, .str [121], .nilS], .agg [I 5, .str [121], .nilS]]]]]) (by simp only [cans, can, kx, ky, Ts, Bs, Bn.v, List.map_cons, List.map_nil, tv_mk]) ⟨ok1, ok2, ok3⟩
  rw [to11] at h
  exact h
theorem w10 : SoundPure Tryz.prog 7 [] (.ret (.bool true)) := by
  refine s710 h710 1 (by simp) rfl ?_
  have e1 := F28_eq 7 [120]
  have e2 := F28_eq 5 [121]
  have e3 := F28_eq 7 [53]
  have e4 := F28_eq 5 [54]
  have vX : V.agg [I 7, .str [120], .nilS] = .agg [I 7, .str [120], .nilS] := rfl
  have e5 : Fone ar19 rs19 [.lst [.agg [I 7, .str [120], .nilS], .agg [I 5, .str [121], .nilS], .agg [I 7, .str [120], .nilS]], I 5] = some rs19 := Fone_eq (by simp only [cans, can, ar19, kx, ky, Ts, List.map_cons, List.map_nil, tv_mk])
  have e6 : Fone ar29 rs29 [.lst [.agg [I 5, .str [121], .nilS], .agg [I 7, .str [120], .nilS]], .lst [.agg [I 7, .str [120], .nilS], .agg [I 5, .str [121], .nilS], .agg [I 7, .str [120], .nilS]]] = some rs29 := Fone_eq (by simp only [cans, can, ar29, kx, ky, Ts, List.map_cons, List.map_nil, tv_mk])
  have e7 : Fone ar26 (.bool true) ar26 = some (.bool true) := Fone_eq rfl
  have e8 := e11k
  simp only [c710, Tryz.f7, gets, sub]
  have r0 := @room35 3 (by omega)
  have r1 := @room35 2 (by omega)
  have f1 : ∀ (k : Int) (s : List UInt8), fitsE Tryz.prog 52 (.agg [I k, .str s, .nilS]) = true := fun k s => by simp [fitsE, ty, leafV]
  have r2 : roomOk Tryz.prog 57 1 = true := by simp [roomOk, ty, cellsV, leafV]
  have r3 : roomOk Tryz.prog 9 1 = true := by simp [roomOk, ty, cellsV, leafV]
  have f2 : ∀ (s : List UInt8) (e : List V), fitsE Tryz.prog 57 (.agg [.str s, .lst e]) = true := fun s e => by simp [fitsE, ty, leafV]
  have f3 : ∀ (s : List UInt8), fitsE Tryz.prog 9 (.str s) = true := fun s => by simp [fitsE, ty, leafV]
  have i1 : F312 [Ts [k5, k6, k5], .lst [.agg [I 7, .str [53], .nilS], .agg [I 5, .str [54], .nilS], .agg [I 7, .str [53], .nilS]]] = some (.bool true) := by
    have : F312 _ = some (V.bool (eqB [k5, k6, k5] [k5, k6, k5])) := hF_eq (a := ([k5, k6, k5], [k5, k6, k5])) (args := [Ts [k5, k6, k5], .lst [.agg [I 7, .str [53], .nilS], .agg [I 5, .str [54], .nilS], .agg [I 7, .str [53], .nilS]]]) (two_inj (fun _ _ => Ts_inj) (fun _ _ => Ts_inj)) (by simp only [cans, can, can_Ts, k5, k6, Ts, List.map_cons, List.map_nil, tv_mk]) (by simp [szs, szt, k5, k6])
    rw [eqB_self] at this
    exact this
  have i2 : F312 [Ts [ky, ky, ky], .lst [.agg [I 5, .str [121], .nilS], .agg [I 5, .str [121], .nilS], .agg [I 5, .str [121], .nilS]]] = some (.bool true) := by
    have : F312 _ = some (V.bool (eqB [ky, ky, ky] [ky, ky, ky])) := hF_eq (a := ([ky, ky, ky], [ky, ky, ky])) (args := [Ts [ky, ky, ky], .lst [.agg [I 5, .str [121], .nilS], .agg [I 5, .str [121], .nilS], .agg [I 5, .str [121], .nilS]]]) (two_inj (fun _ _ => Ts_inj) (fun _ _ => Ts_inj)) (by simp only [cans, can, can_Ts, ky, Ts, List.map_cons, List.map_nil, tv_mk]) (by simp [szs, szt, ky])
    rw [eqB_self] at this
    exact this
  simp only [vmr, vmw, vmp, vza, ↓reduceIte, Nat.reduceBEq, Nat.reduceLT, Nat.reduceAdd, Nat.reduceEqDiff, reduceCtorEq, vmt, vzb, vzc, vlen, vleaf, velems, oks, vst, vmd, ty, Nat.reduceLeDiff, Nat.reduceMul, Nat.reduceSub, vzr, m710, e1, e2, e3, e4, e5, e6, e7, e8, r0, r1, r2, r3, f1, f2, f3, i1, i2, maxL, show ((0 : Int) < 0) = False from eq_false (by decide), if_false, List.map_cons, List.map_nil, show (((2 : Nat) : Int) == 2) = true from rfl]
noncomputable def F10 : List V → Option V := hF (α := Unit) (fun _ => []) (fun _ => True) (fun _ => .bool true)
theorem F10_eq : F10 [] = some (.bool true) := hF_eq (a := ()) (fun _ _ _ => rfl) rfl trivial
theorem F10_sound : ∀ args v, F10 args = some v → SoundPure Tryz.prog 7 args (.ret v) := hF_sound fun _ _ => w10
end Go.Vi
