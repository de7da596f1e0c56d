/-
  Plain laws of renamings: Renaming.
-/
import Derived.Test.YtpibnnopnhmijaaGreatDoorS1
import Derived.Test.YtpibnnopnhmijaaGreatDoorRD
set_option linter.unusedSimpArgs false
set_option linter.unusedVariables false
namespace Go.Vi
open Go Go.Proofs
structure Rp where
  x : List UInt8
  k : Int
  s : List UInt8
abbrev Rp.nm (p : Rp) : List UInt8 := nameV p.k p.s
def Rp.b (p : Rp) : Bn := ⟨p.x, [.mk p.k p.s []]⟩
def lkT (w : List Rp) (x : List UInt8) : Option Rp := match w with
  | [] => none
  | p :: r => if p.x == x then some p else lkT r x
def lkF (w : List Rp) (x : List UInt8) : Option Rp := match w with
  | [] => none
  | p :: r => if p.nm == x then some p else lkF r x
def reV (w : List Rp) (a : List UInt8) (k : Int) (s : List UInt8) : Option (List Rp) := match lkT w a, lkF w (nameV k s) with
  | none, none => some (w ++ [⟨a, k, s⟩])
  | some p, some q => if p.nm = nameV k s ∧ q.x = a then some w else none
  | _, _ => none
mutual
def reT (w : List Rp) : Tm → Tm → Option (List Rp)
  | .mk k s c, .mk k' s' c' => if k = k' then (if isV k = true then reV w (nameV k s) k s' else if s = s' then reL w c c' else none) else none
def reL (w : List Rp) : List Tm → List Tm → Option (List Rp)
  | [], [] => some w
  | t :: r, t' :: r' => match reT w t t' with
    | some w' => reL w' r r'
    | none => none
  | _, _ => none
end
theorem lkT_ix : ∀ (w : List Rp) (x), lkT w x = w[ixW x (w.map (·.x))]?
  | [], x => rfl
  | p :: r, x => by
    simp only [lkT, List.map_cons, ixW]
    by_cases q : p.x = x
    · simp [q]
    · rw [if_neg (by simpa using q), if_neg q, lkT_ix r x]; simp
theorem lkF_ix : ∀ (w : List Rp) (x), lkF w x = w[ixW x (w.map Rp.nm)]?
  | [], x => rfl
  | p :: r, x => by
    simp only [lkF, List.map_cons, ixW]
    by_cases q : p.nm = x
    · simp [q]
    · rw [if_neg (by simpa using q), if_neg q, lkF_ix r x]; simp
def bij (w : List Rp) : Prop := (w.map (·.x)).Nodup ∧ (w.map Rp.nm).Nodup
theorem reV_cn {w : List Rp} (hb : bij w) (a : List UInt8) (k : Int) (s : List UInt8) :
    match reV w a k s with
    | some w' => ixW a (w.map (·.x)) = ixW (nameV k s) (w.map Rp.nm) ∧ w'.map (·.x) = addN (w.map (·.x)) a ∧ w'.map Rp.nm = addN (w.map Rp.nm) (nameV k s)
    | none => ixW a (w.map (·.x)) ≠ ixW (nameV k s) (w.map Rp.nm) := by
  unfold reV
  rw [lkT_ix, lkF_ix]
  have lA := ix_le a (w.map (·.x))
  have lB := ix_le (nameV k s) (w.map Rp.nm)
  rw [List.length_map] at lA lB
  by_cases ha : a ∈ w.map (·.x)
  · obtain ⟨i1, i2⟩ := ix_mem ha
    rw [List.length_map] at i1
    by_cases hn : nameV k s ∈ w.map Rp.nm
    · obtain ⟨j1, j2⟩ := ix_mem hn
      rw [List.length_map] at j1
      obtain ⟨p, hp⟩ : ∃ p, w[ixW a (w.map (·.x))]? = some p := ⟨_, List.getElem?_eq_getElem i1⟩
      obtain ⟨q, hq⟩ : ∃ q, w[ixW (nameV k s) (w.map Rp.nm)]? = some q := ⟨_, List.getElem?_eq_getElem j1⟩
      have i2' := i2
      have j2' := j2
      rw [List.getElem?_map, hp, Option.map_some] at i2'
      rw [List.getElem?_map, hq, Option.map_some] at j2'
      injection i2' with i2'
      injection j2' with j2'
      rw [hp, hq]
      dsimp only
      by_cases c : p.nm = nameV k s ∧ q.x = a
      · rw [if_pos c]
        dsimp only
        have : (w.map Rp.nm)[ixW a (w.map (·.x))]? = some (nameV k s) := by rw [List.getElem?_map, hp, Option.map_some, c.1]
        have := ix_of hb.2 this
        refine ⟨this.symm, ?_, ?_⟩
        · unfold addN; rw [if_pos ha]
        · unfold addN; rw [if_pos hn]
      · rw [if_neg c]
        dsimp only
        intro e
        refine c ⟨?_, ?_⟩
        · rw [e, hq] at hp
          injection hp with hp
          rw [← hp]; exact j2'
        · rw [← e, hp] at hq
          injection hq with hq
          rw [← hq]; exact i2'
    · have j := ix_not hn
      rw [List.length_map] at j
      obtain ⟨p, hp⟩ : ∃ p, w[ixW a (w.map (·.x))]? = some p := ⟨_, List.getElem?_eq_getElem i1⟩
      rw [hp, j, List.getElem?_eq_none (Nat.le_refl _)]
      dsimp only
      omega
  · have i := ix_not ha
    rw [List.length_map] at i
    by_cases hn : nameV k s ∈ w.map Rp.nm
    · obtain ⟨j1, j2⟩ := ix_mem hn
      rw [List.length_map] at j1
      obtain ⟨q, hq⟩ : ∃ q, w[ixW (nameV k s) (w.map Rp.nm)]? = some q := ⟨_, List.getElem?_eq_getElem j1⟩
      rw [hq, i, List.getElem?_eq_none (Nat.le_refl _)]
      dsimp only
      omega
    · have j := ix_not hn
      rw [List.length_map] at j
      rw [i, j, List.getElem?_eq_none (Nat.le_refl _)]
      dsimp only
      refine ⟨rfl, ?_, ?_⟩
      · unfold addN; rw [if_neg ha, List.map_append]; rfl
      · unfold addN; rw [if_neg hn, List.map_append]; rfl
mutual
theorem reT_cn (n : Nat) : ∀ (w : List Rp) (t t' : Tm), bij w → fmt 8 t = true → fmt 8 t' = true →
    match reT w t t' with
    | some w' => (cnT n (w.map (·.x)) t).1 = (cnT n (w.map Rp.nm) t').1 ∧ w'.map (·.x) = (cnT n (w.map (·.x)) t).2 ∧ w'.map Rp.nm = (cnT n (w.map Rp.nm) t').2
    | none => (cnT n (w.map (·.x)) t).1 ≠ (cnT n (w.map Rp.nm) t').1
  | w, .mk k s c, .mk k' s' c', hb, hf, hf' => by
    rw [reT, cnT, cnT]
    by_cases e : k = k'
    · subst e
      rw [if_pos rfl]
      by_cases hk : isV k = true
      · rw [if_pos hk, if_pos hk, if_pos hk]
        have := reV_cn hb (nameV k s) k s'
        revert this
        cases reV w (nameV k s) k s' with
        | some w' =>
          intro ⟨h1, h2, h3⟩
          exact ⟨by rw [h1], h2, h3⟩
        | none =>
          intro h
          dsimp only
          intro e
          injection e with _ e
          exact h (by have := itoa_inj e; omega)
      · rw [if_neg hk, if_neg hk, if_neg hk]
        by_cases e : s = s'
        · subst e
          rw [if_pos rfl]
          have := reL_cn n w c c' hb (fmt_no hf) (fmt_no hf')
          revert this
          cases reL w c c' with
          | some w' =>
            intro ⟨h1, h2, h3⟩
            exact ⟨by rw [h1], h2, h3⟩
          | none =>
            intro h
            dsimp only
            intro e
            injection e with _ _ e
            exact h e
        · rw [if_neg e]
          dsimp only
          intro e'
          injection e' with _ e'
          exact e e'
    · rw [if_neg e]
      dsimp only
      intro e'
      apply e
      split at e' <;> split at e' <;> (injection e')
theorem reL_cn (n : Nat) : ∀ (w : List Rp) (l l' : List Tm), bij w → fms 8 l = true → fms 8 l' = true →
    match reL w l l' with
    | some w' => (cnL n (w.map (·.x)) l).1 = (cnL n (w.map Rp.nm) l').1 ∧ w'.map (·.x) = (cnL n (w.map (·.x)) l).2 ∧ w'.map Rp.nm = (cnL n (w.map Rp.nm) l').2
    | none => (cnL n (w.map (·.x)) l).1 ≠ (cnL n (w.map Rp.nm) l').1
  | w, [], [], hb, hf, hf' => by
    rw [reL]
    exact ⟨rfl, rfl, rfl⟩
  | w, t :: r, t' :: r', hb, hf, hf' => by
    simp only [fms, Bool.and_eq_true] at hf hf'
    rw [reL, cnL, cnL]
    have h := reT_cn n w t t' hb hf.1 hf'.1
    revert h
    cases reT w t t' with
    | none =>
      intro h
      dsimp only
      intro e
      injection e with e
      exact h e
    | some w' =>
      intro ⟨h1, h2, h3⟩
      dsimp only
      have hb' : bij w' := ⟨by rw [h2]; exact cnT_nd n _ hb.1 t, by rw [h3]; exact cnT_nd n _ hb.2 t'⟩
      have g := reL_cn n w' r r' hb' hf.2 hf'.2
      rw [h2, h3] at g
      revert g
      cases reL w' r r' with
      | none =>
        intro g
        dsimp only
        intro e
        injection e with _ e
        exact g e
      | some w2 =>
        intro ⟨g1, g2, g3⟩
        exact ⟨by rw [h1, g1], g2, g3⟩
  | w, [], t' :: r', hb, hf, hf' => by
    rw [reL, cnL, cnL]
    · dsimp only
      intro e
      cases e
    · intro _ h; cases h
    · intro _ _ _ _ h; cases h
  | w, t :: r, [], hb, hf, hf' => by
    rw [reL, cnL, cnL]
    · dsimp only
      intro e
      cases e
    · intro h; cases h
    · intro _ _ _ _ _ h; cases h
end
theorem bij_nil : bij [] := ⟨List.nodup_nil, List.nodup_nil⟩
def rnOk (p : Rp) : Prop := isV p.k = true ∧ (∃ s0, rightB p.k s0 [] = true ∧ p.x = nameV p.k s0) ∧ rightB p.k p.s [] = true
theorem lkT_mem {x : List UInt8} : ∀ {w : List Rp} {p}, lkT w x = some p → p ∈ w
  | q :: r, p, h => by
    simp only [lkT] at h
    split at h
    · injection h with h; subst h; simp
    · exact List.mem_cons_of_mem _ (lkT_mem h)
theorem findB_re (x : List UInt8) : ∀ w : List Rp, findB x (w.map Rp.b) = (lkT w x).map fun p => [.mk p.k p.s []]
  | [] => rfl
  | p :: r => by
    simp only [List.map_cons, findB, lkT, Rp.b]
    split
    · rfl
    · exact findB_re x r
theorem reV_app {w w' : List Rp} {a k s} (h : reV w a k s = some w') : ∃ r, w' = w ++ r ∧ ∀ p ∈ r, p = ⟨a, k, s⟩ := by
  unfold reV at h
  split at h
  · injection h with h; exact ⟨_, h.symm, fun p hp => by simpa using hp⟩
  · split at h
    · injection h with h; exact ⟨[], by simp [h], fun p hp => by cases hp⟩
    · cases h
  · cases h
mutual
theorem reT_app : ∀ (w : List Rp) (t t' : Tm) {w'}, fmt 8 t = true → fmt 8 t' = true → reT w t t' = some w' → ∃ r, w' = w ++ r ∧ ∀ p ∈ r, rnOk p
  | w, .mk k s c, .mk k' s' c', w', hf, hf', h => by
    rw [reT] at h
    split at h
    · rename_i e
      subst e
      split at h
      · rename_i hk
        obtain ⟨r, h1, h2⟩ := reV_app h
        exact ⟨r, h1, fun p hp => by rw [h2 p hp]; exact ⟨hk, ⟨s, (fmt_var hk hf).1, rfl⟩, (fmt_var hk hf').1⟩⟩
      · split at h
        · exact reL_app w c c' (fmt_no hf) (fmt_no hf') h
        · cases h
    · cases h
theorem reL_app : ∀ (w : List Rp) (l l' : List Tm) {w'}, fms 8 l = true → fms 8 l' = true → reL w l l' = some w' → ∃ r, w' = w ++ r ∧ ∀ p ∈ r, rnOk p
  | w, [], [], w', hf, hf', h => by
    rw [reL] at h
    injection h with h
    exact ⟨[], by simp [h], fun p hp => by cases hp⟩
  | w, t :: r, t' :: r', w', hf, hf', h => by
    simp only [fms, Bool.and_eq_true] at hf hf'
    rw [reL] at h
    split at h
    · rename_i w1 h1
      obtain ⟨p, e1, o1⟩ := reT_app w t t' hf.1 hf'.1 h1
      obtain ⟨q, e2, o2⟩ := reL_app w1 r r' hf.2 hf'.2 h
      exact ⟨p ++ q, by rw [e2, e1, List.append_assoc], fun x hx => (List.mem_append.1 hx).elim (o1 x) (o2 x)⟩
    · cases h
  | w, [], t' :: r', w', hf, hf', h => by
    rw [reL] at h
    · cases h
    · intro _ h; cases h
    · intro _ _ _ _ h; cases h
  | w, t :: r, [], w', hf, hf', h => by
    rw [reL] at h
    · cases h
    · intro h; cases h
    · intro _ _ _ _ _ h; cases h
end
end Go.Vi
set_option maxRecDepth 100000
set_option maxHeartbeats 1000000
namespace Go.Vi
open Go Go.Proofs
noncomputable abbrev A44 (n : Nat) : Mc := mcAt (Cx (hand T719)) 53 Tryz.f53 1 n
theorem a44 (n) : (A44 n).E.keep = [0, 2, 3, 5, 7, 8, 9, 10] ∧ (A44 n).E.cnd = [10] ∧ (A44 n).E.frz = [] ∧ (A44 n).E.pro = [] ∧ (A44 n).E.imp = [] ∧ (A44 n).E.n = 20 ∧ (A44 n).E.lvl = 1 ∧ (A44 n).E.P = Tryz.prog ∧ (A44 n).fuel = n ∧ (A44 n).C = hand T719 ∧ (A44 n).E.ok = okL := ⟨rfl, rfl, rfl, rfl, rfl, rfl, rfl, rfl, rfl, rfl, rfl⟩
def Q44 (a : List Bn) (O : Heap) (n : Nat) (r : Option (Ex × St)) : Prop := ∃ s', r = some (.ret, s') ∧ exports (A44 n).E s' [tget s'.τ 2] = some [vfn a] ∧ s'.O = O
theorem l44i {n k v3 vm v8 sz} {O : Heap} (a : List Bn) (ha : a.length ≤ 1000000) (hd : nds a) (hz : a ≠ [] → sz = 2) (hO : O ⟨0, 8, 0⟩ = some (v8, .arr sz (a.map Bn.v))) : ∀ r i n' s, a.drop i = r → r.length < n' → tget s.τ 7 = .ref ⟨0, 8, 0⟩ v8 0 a.length → tget s.τ 8 = I a.length → tget s.τ 9 = I (i : Nat) → tget s.τ 3 = .ptr ⟨1, 3, 0⟩ v3 0 0 → lget s.L (3, 0) = some (v3, .var [.mref ⟨1, 3, 1⟩ vm]) → lget s.L (3, 1) = some (vm, .map (kvE (a.take i))) → s.O = O →
    (∀ s', tget s'.τ 3 = .ptr ⟨1, 3, 0⟩ v3 0 0 → lget s'.L (3, 0) = some (v3, .var [.mref ⟨1, 3, 1⟩ vm]) → lget s'.L (3, 1) = some (vm, .map (kvE a)) → s'.O = O → Q44 a O n (X (A44 n) (.exit 0) k s')) →
    Q44 a O n (L (A44 n) (sub [1, 1, 0, 1, 0, 0] c744) n' k s)
  | [], i, n' + 1, s, hi, hn, h7, h8, h9, h3, h3', hm, hS, hx => by
    have hc := inlt (drop_nil' hi)
    rw [List.take_of_length_le (drop_nil' hi)] at hm
    rw [L_succ]
    simp only [vmr, vmw, vmp, vza, ↓reduceIte, Nat.reduceBEq, Nat.reduceLT, Nat.reduceAdd, Nat.reduceEqDiff, reduceCtorEq, vmt, vzb, vzc, vlen, vleaf, velems, oks, vst, vmd, ty, Nat.reduceLeDiff, Nat.reduceMul, Nat.reduceSub, c744, Tryz.f53, a44, h7, h8, h9, hc]
    refine hx _ ?_ ?_ ?_ ?_
    all_goals simp only [vmr, vmw, vmp, vza, ↓reduceIte, Nat.reduceBEq, Nat.reduceLT, Nat.reduceAdd, Nat.reduceEqDiff, reduceCtorEq, vmt, vzb, vzc, vlen, vleaf, velems, oks, vst, vmd, ty, Nat.reduceLeDiff, Nat.reduceMul, Nat.reduceSub, a44, h3, h3', hm, hS]
  | b :: r, i, n' + 1, s, hi, hn, h7, h8, h9, h3, h3', hm, hS, hx => by
    obtain ⟨g1, g2, g3⟩ := drop_cons hi
    have hcl := ilt g3
    have ga : (a.map Bn.v)[i]? = some (.agg [.str b.x, Ts b.e]) := by rw [List.getElem?_map, g1, Option.map_some, Bn.v]
    have w4 := wsuc g3 (by omega)
    have kok : keyOk Tryz.prog 9 (.str b.x) = true := by kernel_rfl
    have hf : mfind (.str b.x) (kvE (a.take i)) 0 = some none := by
      rcases kv_find b.x (a.take i) 0 with ⟨e, j, h, _⟩ | ⟨_, h⟩
      · rw [nds_take hd g1] at h; cases h
      · exact h
    have htk : kvE (a.take (i + 1)) = kvE (a.take i) ++ [(.str b.x, Ts b.e)] := by
      unfold kvE
      rw [List.take_add_one, g1, List.map_append]; rfl
    have hp : mput (.str b.x) (Ts b.e) (kvE (a.take i)) = some (kvE (a.take (i + 1))) := by
      unfold mput
      rw [hf, htk]
    have hz' := eq_true (hz (by rintro rfl; simp at g1))
    have o8 : s.O ⟨0, 8, 0⟩ = _ := (congrFun hS _).trans hO
    have ih := fun s => l44i (n := n) (k := k) (v3 := v3) (vm := vm) a ha hd hz hO r (i + 1) n' s g2 (by simp at hn; omega)
    simp only [sub, c744, Tryz.f53, gets] at ih
    rw [L_succ]
    simp only [vmr, vmw, vmp, vza, ↓reduceIte, Nat.reduceBEq, Nat.reduceLT, Nat.reduceAdd, Nat.reduceEqDiff, reduceCtorEq, vmt, vzb, vzc, vlen, vleaf, velems, oks, vst, vmd, ty, Nat.reduceLeDiff, Nat.reduceMul, Nat.reduceSub, c744, Tryz.f53, a44, h7, h8, h9, h3, h3', hm, hcl, ga, w4, kok, hp, mapPut, obj_lo, o8, hz']
    refine ih _ ?_ ?_ ?_ ?_ ?_ ?_ ?_ hx
    all_goals simp only [vmr, vmw, vmp, vza, ↓reduceIte, Nat.reduceBEq, Nat.reduceLT, Nat.reduceAdd, Nat.reduceEqDiff, reduceCtorEq, vmt, vzb, vzc, vlen, vleaf, velems, oks, vst, vmd, ty, Nat.reduceLeDiff, Nat.reduceMul, Nat.reduceSub, a44, h7, h8, h3, h3', hm, hS]
theorem w44i {n c v8 sz : Nat} {O : Heap} (a : List Bn) (ha : a.length ≤ 1000000) (hn : a.length < n) (hd : nds a) (hz : a ≠ [] → sz = 2) (hO : O ⟨0, 8, 0⟩ = some (v8, .arr sz (a.map Bn.v))) :
    ∃ c', (evF (Cx (hand T719)) (n + 1)).fn 53 [.ref ⟨0, 8, 0⟩ v8 0 a.length] 1 c O = some (.ret (vfn a), c', lower 1 O) := by
  have key : Q44 a O n (R (A44 n) (Tryz.f53.body.getD .skip) .top ⟨params 0 [.ref ⟨0, 8, 0⟩ v8 0 a.length], [], O, c⟩) := by
    have a1 := fun v3 vm k s => @l44i n k v3 vm v8 sz O a ha hd hz hO a 0 n s rfl hn
    simp only [c744, Tryz.f53, gets, sub] at a1
    simp only [vmr, vmw, vmp, vza, ↓reduceIte, Nat.reduceBEq, Nat.reduceLT, Nat.reduceAdd, Nat.reduceEqDiff, reduceCtorEq, vmt, vzb, vzc, vlen, vleaf, velems, oks, vst, vmd, ty, Nat.reduceLeDiff, Nat.reduceMul, Nat.reduceSub, Tryz.f53, a44, newMap]
    refine a1 (c + 1) (c + 2) _ _ ?_ ?_ ?_ ?_ ?_ ?_ ?_ (fun s' h3 h3' hm hS => ?_)
    case refine_8 =>
      simp only [vmr, vmw, vmp, vza, ↓reduceIte, Nat.reduceBEq, Nat.reduceLT, Nat.reduceAdd, Nat.reduceEqDiff, reduceCtorEq, vmt, vzb, vzc, vlen, vleaf, velems, oks, vst, vmd, ty, Nat.reduceLeDiff, Nat.reduceMul, Nat.reduceSub, a44, h3]
      refine ⟨_, rfl, ?_, ?_⟩
      · simp only [vmr, vmw, vmp, vza, ↓reduceIte, Nat.reduceBEq, Nat.reduceLT, Nat.reduceAdd, Nat.reduceEqDiff, reduceCtorEq, vmt, vzb, vzc, vlen, vleaf, velems, oks, vst, vmd, ty, Nat.reduceLeDiff, Nat.reduceMul, Nat.reduceSub, vzr, a44, h3, h3', hm, seal1, unpairs_kv]
      · simp only [vmr, vmw, vmp, vza, ↓reduceIte, Nat.reduceBEq, Nat.reduceLT, Nat.reduceAdd, Nat.reduceEqDiff, reduceCtorEq, vmt, vzb, vzc, vlen, vleaf, velems, oks, vst, vmd, ty, Nat.reduceLeDiff, Nat.reduceMul, Nat.reduceSub, a44, hS]
    all_goals simp only [vmr, vmw, vmp, vza, ↓reduceIte, Nat.reduceBEq, Nat.reduceLT, Nat.reduceAdd, Nat.reduceEqDiff, reduceCtorEq, vmt, vzb, vzc, vlen, vleaf, velems, oks, vst, vmd, ty, Nat.reduceLeDiff, Nat.reduceMul, Nat.reduceSub, a44]
    all_goals rfl
  obtain ⟨s', hr, he, ho⟩ := key
  have h := evF_at1 (C := Cx (hand T719)) (n := n) (args := [.ref ⟨0, 8, 0⟩ v8 0 a.length]) (fn := Tryz.f53) (b := Tryz.f53.body.getD .skip) (s' := s') (r := 2) (v := vfn a) (lvl := 1) (c := c) (O := O) Tryz.func53 rfl (show 1 ≤ 20 by omega) rfl (.inr hr) he
  exact ⟨_, by rw [h, ho]⟩
end Go.Vi
set_option maxRecDepth 100000
set_option maxHeartbeats 1000000
namespace Go.Vi
open Go Go.Proofs
theorem fn_at {M : Mc} {k : K} {s : St} {ops : Array Oper} {d : Nat} {r : List Oper} {args : List V} {g lvl c : Nat} {O O' : Heap} {g2 : Fn} {caps : List V} {P : Option (Ex × St) → Prop} (hd : d < M.E.n)
    (hr : ∃ c', M.call.fn g args lvl c O = some (.ret (.fn g2 [] caps), c', O')) (h : ∀ L' c', (∀ sl off x, lget s.L (sl, off) = some x → O' ⟨M.E.lvl, sl, off⟩ = some x → lget L' (sl, off) = some x) → P (RO M ops r k ⟨tset s.τ d (.fn g2 [] caps), L', O', c'⟩)) :
    P (RV M ops (some d) r k (CI M.E d s (M.call.fn g args lvl c O))) := by
  obtain ⟨c', h1⟩ := hr
  rw [h1]
  have : CI M.E d s (some (.ret (.fn g2 [] caps), c', O')) = some (.val (.fn g2 [] caps) (back M.E s c' O')) := rfl
  rw [this, RV_val hd]
  exact h _ _ fun sl off x hx hO => back_get hx hO
theorem fr_names {e : List Tm} (h : errB 8 e = 0) : (∀ x ∈ varL e, x.length ≤ 1000 ∧ (varB x).isSome = true) ∧ (varL e).length ≤ szs e ∧ (varL e).Nodup := by
  obtain ⟨h1, h2, h3⟩ := errB_iff.1 h
  rw [varL_cn 0 h3]
  refine ⟨fun x hx => ?_, by have := cnL_len 0 [] e; simpa using this, cnL_nd 0 _ List.nodup_nil e⟩
  obtain ⟨k, s, hk, hr, rfl⟩ := cnL_ok 0 [] (fun x hx => by cases hx) e h3 x hx
  refine ⟨?_, by rw [varB_of hk hr]; rfl⟩
  have hs : s.length ≤ 40 := by
    unfold rightB at hr
    rcases isV_iff.1 hk with rfl | rfl | rfl <;> simp at hr <;> omega
  have : (nameV k s).length = 2 + s.length := by unfold nameV; rcases isV_iff.1 hk with rfl | rfl | rfl <;> simp <;> omega
  omega
theorem frL_x : ∀ (W : List (List UInt8)) (n : Int), (frL W n).map (·.x) = W
  | [], n => rfl
  | x :: r, n => by rw [frL, List.map_cons, frL_x r]; rfl
theorem frL_len (W : List (List UInt8)) (n : Int) : (frL W n).length = W.length := by rw [← List.length_map (f := (·.x)), frL_x]
theorem frL_e : ∀ (W : List (List UInt8)) (n : Int), ∀ b ∈ frL W n, ∃ k m, b.e = [.mk k (Lib.itoa m) []]
  | x :: r, n, b, hb => by
    rw [frL] at hb
    rcases List.mem_cons.1 hb with rfl | hb
    · exact ⟨_, _, rfl⟩
    · exact frL_e r _ b hb
def frV19 (e : List Tm) (n : Nat) : V := if errB 8 e = 0 then .tup [Ts (frE e n), Bs (frL (varL e) n), I 0] else .tup [Ts [], Bs [], I (errB 8 e)]
theorem h719 : SoundHand Tryz.prog (hand T719) := sound_cons F17_sound <| sound_cons F27_sound <| sound_cons F34c_sound <| sound_cons F42_sound <| sound_cons F43_sound sound_nil
def Fi19 (n : Nat) (v : V) (r : Option (Ex × St)) : Prop := Fin (M719 (hand T719) n) [.tmp 4, .tmp 5, .tmp 6] r = some (.ret v)
theorem w19 (e : List Tm) (n : Nat) (hn : n ≤ 1000000000) (hs : szs e ≤ 1000000) (ho : txs e) : SoundPure Tryz.prog 21 [Ts e, I n] (.ret (frV19 e n)) := by
  have e1 := Fres_eq hs ho
  have n0 : ((0 : Int) != 0) = false := rfl
  unfold frV19
  by_cases q1 : errB 8 e = 0
  case neg =>
    have q1' : (errB 8 e != 0) = true := by simpa using q1
    rw [if_neg q1]
    have : SoundPure Tryz.prog 21 [Ts e, I n] (.ret (.tup [.nilS, .nilS, I (errB 8 e)])) := by
      refine s719 h719 1 (by simp) rfl ?_
      simp only [c719, Tryz.f21, gets, sub]
      simp only [vmr, vmw, vmp, vza, ↓reduceIte, Nat.reduceBEq, Nat.reduceLT, Nat.reduceAdd, Nat.reduceEqDiff, reduceCtorEq, vmt, vzb, vzc, vlen, vleaf, velems, oks, vst, vmd, ty, Nat.reduceLeDiff, Nat.reduceMul, Nat.reduceSub, vzr, callV_s2, m719, e1, q1']
    exact sound_imm this rfl
  rw [if_pos q1]
  rw [q1] at e1
  have q2 : ((n : Int) < 0) = False := eq_false (by omega)
  have q3 : ((n : Int) > 1000000000) = False := eq_false (by omega)
  obtain ⟨g1, g2, g3⟩ := fr_names q1
  obtain ⟨f1, f2, f3⟩ := errB_iff.1 q1
  have e2 := F27_eq hs ho
  have e3 : Fun [Ts e, vfn (frL (varL e) n)] = some (Ts (frE e n)) := Fun_eq hs (fun b hb => by obtain ⟨k, m, h⟩ := frL_e _ _ b hb; rw [h]; simp [szs, szt]) ho (by have := (frE_right hn q1).2; unfold frE at this; omega)
  have hln := frL_len (varL e) n
  let Po : Option (Ex × St) → Prop := fun r => ∃ sz, Fi19 (szs e + 4) (.tup [Ts (frE e n), .own sz ((frL (varL e) n).map Bn.v), I 0]) r
  have key : Po (R (M719 (hand T719) (szs e + 4)) c719 .top ⟨params 0 [Ts e, I n], [], fun _ => none, 0⟩) := by
    have a1 := fun k s => @l719 (szs e + 4) k Po n hn e (varL e) (by omega) (fun x hx => ⟨by have := (g1 x hx).1; omega, (g1 x hx).2⟩) (varL e) 0 [] (szs e + 4) s rfl (by omega) (by simp; omega)
    simp only [c719, Tryz.f21, gets, sub] at a1 ⊢
    simp only [vmr, vmw, vmp, vza, ↓reduceIte, Nat.reduceBEq, Nat.reduceLT, Nat.reduceAdd, Nat.reduceEqDiff, reduceCtorEq, vmt, vzb, vzc, vlen, vleaf, velems, oks, vst, vmd, ty, Nat.reduceLeDiff, Nat.reduceMul, Nat.reduceSub, callV_s2, m719, e1, e2, n0, q2, q3]
    refine a1 _ _ ⟨0, 0, ⟨.inr rfl, fun h => absurd rfl h⟩, ?_, ?_⟩ ?_ ?_ ?_ ?_ ?_ (fun s' hA h0 => ?_)
    case refine_8 =>
      rw [List.nil_append] at hA
      obtain ⟨v8, sz, ⟨hz, hz2⟩, h8, h8'⟩ := hA
      refine ⟨sz, ?_⟩
      have hl : (frVL (varL e) ((n + (0 : Nat) : Nat) : Int)) = (frL (varL e) n).map Bn.v := rfl
      rw [hl] at h8 h8' hz2
      rw [List.length_map] at h8
      simp only [vmr, vmw, vmp, vza, ↓reduceIte, Nat.reduceBEq, Nat.reduceLT, Nat.reduceAdd, Nat.reduceEqDiff, reduceCtorEq, vmt, vzb, vzc, vlen, vleaf, velems, oks, vst, vmd, ty, Nat.reduceLeDiff, Nat.reduceMul, Nat.reduceSub, m719, h0, h8, h8']
      rw [callV_i (show okL.contains 53 = true by decide) (.inl rfl)]
      have hds : nds (frL (varL e) (n : Int)) := by unfold nds; rw [frL_x]; exact g3
      refine fn_at (show 52 < 55 by omega) (w44i (n := szs e + 3) (v8 := v8) (sz := sz) (frL (varL e) n) (by omega) (by omega) hds (fun h => hz2 (fun h2 => h (List.map_eq_nil_iff.1 h2))) ((heap_ow (l := 0) rfl).trans h8')) fun L' c' hL => ?_
      have g8 := hL 8 0 _ h8' ((if_pos (show 0 < 1 by omega)).trans ((heap_ow (l := 0) rfl).trans h8'))
      clear hL
      simp only [vmr, vmw, vmp, vza, ↓reduceIte, Nat.reduceBEq, Nat.reduceLT, Nat.reduceAdd, Nat.reduceEqDiff, reduceCtorEq, vmt, vzb, vzc, vlen, vleaf, velems, oks, vst, vmd, ty, Nat.reduceLeDiff, Nat.reduceMul, Nat.reduceSub, callV_s2, m719, h0, h8, g8, e3]
      unfold Fi19
      simp only [vmr, vmw, vmp, vza, ↓reduceIte, Nat.reduceBEq, Nat.reduceLT, Nat.reduceAdd, Nat.reduceEqDiff, reduceCtorEq, vmt, vzb, vzc, vlen, vleaf, velems, oks, vst, vmd, ty, Nat.reduceLeDiff, Nat.reduceMul, Nat.reduceSub, vzr, m719, h0, h8, g8, e3, take_len]
    all_goals simp only [vmr, vmw, vmp, vza, ↓reduceIte, Nat.reduceBEq, Nat.reduceLT, Nat.reduceAdd, Nat.reduceEqDiff, reduceCtorEq, vmt, vzb, vzc, vlen, vleaf, velems, oks, vst, vmd, ty, Nat.reduceLeDiff, Nat.reduceMul, Nat.reduceSub, m719]
    all_goals rfl
  obtain ⟨sz, hk⟩ := key
  have hp : pureR (.tup [Ts (frE e n), .own sz ((frL (varL e) n).map Bn.v), I 0]) = true := by simp only [pureR, pureRL, pureLB, pureLT, Bool.and_self]
  have := sound_imm (s719 h719 (szs e + 4) (by simp) hp hk) hp
  have hc : can (imm (.tup [Ts (frE e n), .own sz ((frL (varL e) n).map Bn.v), I 0])) = .tup [Ts (frE e n), Bs (frL (varL e) n), I 0] := by
    show V.tup [can (imm (Ts (frE e n))), can (imm (.own sz ((frL (varL e) n).map Bn.v))), _] = _
    rw [show imm (.own sz ((frL (varL e) n).map Bn.v)) = V.lst ((frL (varL e) n).map Bn.v) by simp only [imm, imms_map imm_bv], can_Bs, show imm (Ts (frE e n)) = Ts (frE e n) from rfl, can_Ts]
    rfl
  rw [hc] at this
  exact this
end Go.Vi
set_option maxRecDepth 100000
set_option maxHeartbeats 1000000
namespace Go.Vi
open Go Go.Proofs
noncomputable abbrev T718 : List (FuncId × (List V → Option V)) := [(29, Fres), (67, FisV), (37, FnameP)]
noncomputable abbrev A41 (lvl n : Nat) : Mc := mcAt (Cx (hand T718)) 48 Tryz.f48 lvl n
theorem a41 (lvl n) : (A41 lvl n).E.keep = [0, 1, 2, 6] ∧ (A41 lvl n).E.cnd = [] ∧ (A41 lvl n).E.frz = [] ∧ (A41 lvl n).E.pro = [] ∧ (A41 lvl n).E.imp = [77] ∧ (A41 lvl n).E.n = 12 ∧ (A41 lvl n).E.lvl = lvl ∧ (A41 lvl n).E.P = Tryz.prog ∧ (A41 lvl n).fuel = n ∧ (A41 lvl n).C = hand T718 ∧ (A41 lvl n).E.ok = okL := ⟨rfl, rfl, rfl, rfl, rfl, rfl, rfl, rfl, rfl, rfl, rfl⟩
noncomputable abbrev A67 (lvl n : Nat) : Mc := mcAt (Cx (hand T718)) 77 Tryz.f77 lvl n
theorem a67 (lvl n) : (A67 lvl n).E.keep = [0, 1, 2, 6, 7, 8, 9, 14, 15, 16, 17, 18, 30] ∧ (A67 lvl n).E.cnd = [14, 18, 30] ∧ (A67 lvl n).E.frz = [7] ∧ (A67 lvl n).E.pro = [] ∧ (A67 lvl n).E.imp = [78] ∧ (A67 lvl n).E.n = 32 ∧ (A67 lvl n).E.lvl = lvl ∧ (A67 lvl n).E.P = Tryz.prog ∧ (A67 lvl n).fuel = n ∧ (A67 lvl n).C = hand T718 ∧ (A67 lvl n).E.ok = okL := ⟨rfl, rfl, rfl, rfl, rfl, rfl, rfl, rfl, rfl, rfl, rfl⟩
noncomputable abbrev A68 (lvl n : Nat) : Mc := mcAt (Cx (hand T718)) 78 Tryz.f78 lvl n
theorem a68 (lvl n) : (A68 lvl n).E.keep = [0, 1, 2, 4, 5, 6, 7, 8, 9, 10, 11, 12, 17, 20, 59] ∧ (A68 lvl n).E.cnd = [17, 20, 59] ∧ (A68 lvl n).E.frz = [4, 5, 7, 8, 9, 11] ∧ (A68 lvl n).E.pro = [] ∧ (A68 lvl n).E.imp = [48] ∧ (A68 lvl n).E.n = 107 ∧ (A68 lvl n).E.lvl = lvl ∧ (A68 lvl n).E.P = Tryz.prog ∧ (A68 lvl n).fuel = n ∧ (A68 lvl n).C = hand T718 ∧ (A68 lvl n).E.ok = okL := ⟨rfl, rfl, rfl, rfl, rfl, rfl, rfl, rfl, rfl, rfl, rfl⟩
theorem a68_5 {lvl n} : regionInf (A68 lvl n).E (opsAt (sub [1, 1, 1, 0] c768)) = some   [Inf.mk false (some []) none false [4], Inf.mk false (some []) none false [34], Inf.mk false (some []) none false [5],     Inf.mk false (some []) none false [36], Inf.mk true (some []) none false [35],     Inf.mk true (some []) none false [37]] := by kernel_rfl
theorem a68_10 {lvl n} : regionInf (A68 lvl n).E (opsAt (sub [1, 1, 1, 1, 1, 1, 1, 0] c768)) = some   [Inf.mk false (some []) none false [0], Inf.mk false (some []) none false [74],     Inf.mk false (some []) none false [75], Inf.mk false (some []) none false [76],     Inf.mk false (some []) none false [7], Inf.mk false (some []) none false [0],     Inf.mk false (some []) none false [79], Inf.mk false (some []) none false [80],     Inf.mk false (some []) none false [81], Inf.mk false none none false [8], Inf.mk false none none false [8],     Inf.mk false none none false [7], Inf.mk true (some []) none false [77, 78], Inf.mk false (some []) none false [86],     Inf.mk true (some []) none false [77, 87, 84], Inf.mk true (some []) none false [82, 83],     Inf.mk false (some []) none false [88], Inf.mk true (some []) none false [82, 89, 85]] := by kernel_rfl
theorem a68_11 {lvl n} : regionInf (A68 lvl n).E (opsAt (sub [1, 1, 1, 1, 1, 1, 1, 1, 0] c768)) = some [Inf.mk false none none false [0],     Inf.mk false (some [⟨lvl, 101, 0⟩, ⟨lvl, 103, 0⟩, ⟨lvl, 101, 0⟩]) none false [0],     Inf.mk false (some [⟨lvl, 101, 0⟩, ⟨lvl, 103, 0⟩, ⟨lvl, 101, 0⟩]) none false [91],     Inf.mk false (some [⟨lvl, 101, 0⟩, ⟨lvl, 103, 0⟩, ⟨lvl, 101, 0⟩]) none false [92],     Inf.mk false (some [⟨lvl, 101, 0⟩, ⟨lvl, 103, 0⟩, ⟨lvl, 101, 0⟩]) none false [93],     Inf.mk false (some [⟨lvl, 101, 0⟩]) none false [7], Inf.mk false (some []) none false [5],     Inf.mk false (some []) none false [96], Inf.mk false (some []) none false [5],     Inf.mk false (some []) none false [98], Inf.mk false (some []) none false [97, 99],     Inf.mk true (some []) (some [⟨lvl, 101, 0⟩]) false [100], Inf.mk false (some []) none false [95, 101],     Inf.mk true (some []) (some [⟨lvl, 103, 0⟩, ⟨lvl, 101, 0⟩]) false [102],     Inf.mk true (some []) none false [94, 103],     Inf.mk false (some []) none false [90], Inf.mk false (some []) none false [105],     Inf.mk true (some []) none false [106, 104]] := by kernel_rfl
abbrev pR : V := .ptr ⟨0, 18, 0⟩ 4 0 0
def toM (w : List Rp) : List (V × V) := w.map fun p => (.str p.x, .str p.nm)
def frM (w : List Rp) : List (V × V) := w.map fun p => (.str p.nm, .str p.x)
def rpV (p : Rp) : V := .agg [.str p.x, .lst [.agg [I p.k, .str p.s, .nilS]]]
def rowR (O : Heap) (w : List Rp) (row : V) : Prop := (w = [] ∧ row = .nilS) ∨ ∃ vr, row = .ref ⟨0, 18, 3⟩ vr 0 w.length ∧ O ⟨0, 18, 3⟩ = some (vr, .arr 2 (w.map rpV))
def I18 (w : List Rp) (O : Heap) : Prop := (∃ row, O ⟨0, 18, 0⟩ = some (4, .var [.mref ⟨0, 18, 1⟩ 2, .mref ⟨0, 18, 2⟩ 3, row]) ∧ rowR O w row) ∧ O ⟨0, 18, 1⟩ = some (2, .map (toM w)) ∧ O ⟨0, 18, 2⟩ = some (3, .map (frM w))
theorem I18.cong {w : List Rp} {O O' : Heap} (e : ∀ sl off, O' ⟨0, sl, off⟩ = O ⟨0, sl, off⟩) : I18 w O → I18 w O' := fun ⟨⟨row, h1, h2⟩, h3, h4⟩ => ⟨⟨row, (e 18 0).trans h1, by
  rcases h2 with h2 | ⟨vr, h2, h3⟩
  · exact .inl h2
  · exact .inr ⟨vr, h2, (e 18 3).trans h3⟩⟩, (e 18 1).trans h3, (e 18 2).trans h4⟩
theorem I18.of {w : List Rp} {O : Heap} (h1 : O ⟨0, 18, 0⟩ = some (4, .var [.mref ⟨0, 18, 1⟩ 2, .mref ⟨0, 18, 2⟩ 3, .ref ⟨0, 18, 3⟩ (verO O ⟨0, 18, 3⟩) 0 w.length])) (h2 : O ⟨0, 18, 3⟩ = some (verO O ⟨0, 18, 3⟩, .arr 2 (w.map rpV))) (h3 : O ⟨0, 18, 1⟩ = some (2, .map (toM w))) (h4 : O ⟨0, 18, 2⟩ = some (3, .map (frM w))) : I18 w O := ⟨⟨_, h1, .inr ⟨_, rfl, h2⟩⟩, h3, h4⟩
theorem toM_find (x : List UInt8) : ∀ (w : List Rp) (i : Nat), match lkT w x with
    | some p => ∃ j, mfind (.str x) (toM w) i = some (some (j, .str p.nm))
    | none => mfind (.str x) (toM w) i = some none
  | [], i => rfl
  | p :: r, i => by
    simp only [toM, List.map_cons, mfind, keyEq_str, lkT]
    have hq : (p.x == x) = (x == p.x) := by rw [Bool.eq_iff_iff, beq_iff_eq, beq_iff_eq]; exact eq_comm
    rw [hq]
    cases h : x == p.x with
    | true => exact ⟨i, rfl⟩
    | false =>
      rw [if_neg (by simp)]
      exact toM_find x r (i + 1)
theorem frM_find (x : List UInt8) : ∀ (w : List Rp) (i : Nat), match lkF w x with
    | some p => ∃ j, mfind (.str x) (frM w) i = some (some (j, .str p.x))
    | none => mfind (.str x) (frM w) i = some none
  | [], i => rfl
  | p :: r, i => by
    simp only [frM, List.map_cons, mfind, keyEq_str, lkF]
    have hq : (p.nm == x) = (x == p.nm) := by rw [Bool.eq_iff_iff, beq_iff_eq, beq_iff_eq]; exact eq_comm
    rw [hq]
    cases h : x == p.nm with
    | true => exact ⟨i, rfl⟩
    | false =>
      rw [if_neg (by simp)]
      exact frM_find x r (i + 1)
theorem aop_mapEntry {call : CallFn} {E : Env} {C : FuncId → Option (List V → Option V)} {d t m k} {s : St} : aop call E C d (.mapEntry t m k) s = (mapEnt E t (evalO s m) (evalO s k) s).map fun q => .val q.1 q.2 := rfl
theorem aop_entryStore {call : CallFn} {E : Env} {C : FuncId → Option (List V → Option V)} {d t m n x} {s : St} : aop call E C d (.entryStore t m n x) s = (entPut E (evalO s m) (evalO s n) (evalO s x) s).map fun s' => .val .junk s' := rfl
theorem qState_none {E : Env} {s : St} : qState E none s = ⟨s.τ, [], fun _ => none, s.c⟩ := rfl
theorem mset_last (k z x : V) : ∀ l : List (V × V), mset (l ++ [(k, z)]) l.length x = l ++ [(k, x)]
  | [] => rfl
  | p :: r => by simp only [List.cons_append, List.length_cons, mset, mset_last k z x r]
theorem len_ok (l : List (V × V)) (p : V × V) : (l.length < (l ++ [p]).length) = True := eq_true (by simp)
theorem call_b {M : Mc} {k : K} {s : St} {ops : Array Oper} {d : Nat} {r : List Oper} {args : List V} {g lvl c : Nat} {O : Heap} {b : Bool} {Inv : Heap → Prop} {P : Option (Ex × St) → Prop} (hd : d < M.E.n)
    (hr : ∃ c' O', M.call.fn g args lvl c O = some (.ret (.bool b), c', O') ∧ Inv O') (h : ∀ L' O' c', (∀ sl off y, ((lget s.L (sl, off)).isSome = true ∨ ∃ v cs j, lget s.L (sl, 0) = some (v, .var cs) ∧ off = j + 1 ∧ j < cs.length) → O' ⟨M.E.lvl, sl, off⟩ = some y → lget L' (sl, off) = some y) → Inv O' → P (RO M ops r k ⟨tset s.τ d (.bool b), L', O', c'⟩)) :
    P (RV M ops (some d) r k (CI M.E d s (M.call.fn g args lvl c O))) := by
  obtain ⟨c', O', h1, h2⟩ := hr
  rw [h1]
  have : CI M.E d s (some (.ret (.bool b), c', O')) = some (.val (.bool b) (back M.E s c' O')) := rfl
  rw [this, RV_val hd]
  refine h _ _ _ (fun sl off y hx hy => ?_) h2
  refine mergeL_get _ _ _ _ (.inl ?_) hy
  rcases hx with hx | ⟨v, cs, j, hx, rfl, hj⟩
  · obtain ⟨z, hx⟩ := Option.isSome_iff_exists.1 hx
    exact keysOf_mem _ _ z hx
  · have := keysOf_var s.L (sl, 0) v cs hx j hj
    rwa [Nat.zero_add] at this
def Fr (lvl : Nat) (O O' : Heap) : Prop := ∀ l sl off, 0 < l → l < lvl → O' ⟨l, sl, off⟩ = O ⟨l, sl, off⟩
def Q18 (res : Option (List Rp)) (lvl : Nat) (O : Heap) (r : Option (Ex × St)) : Prop := ∃ s', r = some (.ret, s') ∧ tget s'.τ 6 = .bool res.isSome ∧ (∀ w', res = some w' → I18 w' s'.O) ∧ Fr lvl O s'.O
def G18 (res : Option (List Rp)) (lvl : Nat) (O O' : Heap) : Prop := (∀ w', res = some w' → I18 w' O') ∧ Fr lvl O O'
theorem G18.down {X1 : Nat → Heap → Prop} {res : Option (List Rp)} {lvl : Nat} {O : Heap} {E : Env} {s : St} (hE : E.lvl = lvl) (hO : s.O = O) (h : ∃ c' O', X1 c' O' ∧ G18 res (lvl + 1) (s.heap E) O') : ∃ c' O', X1 c' O' ∧ G18 res lvl O O' := by
  obtain ⟨c', O', h1, h2, h3⟩ := h
  exact ⟨c', O', h1, h2, fun l sl off h0 hl => (h3 l sl off h0 (by omega)).trans ((heap_lw hE hl).trans (congrFun hO _))⟩
theorem I18.up {w : List Rp} {lvl : Nat} {O : Heap} {E : Env} {s : St} (hE : E.lvl = lvl) (hl : 0 < lvl) (hO : s.O = O) (h : I18 w O) : I18 w (s.heap E) := h.cong fun sl off => (heap_lw hE hl).trans (congrFun hO _)
def C41 (m : Nat) : Prop := ∀ (l l' : List Tm) (w : List Rp) (n lvl c : Nat) (O : Heap), szs l < m → txs l → txs l' → w.length + szs l ≤ 1000000 → 3 * szs l + 4 ≤ n → 0 < lvl → I18 w O →
  ∃ c' O', (evF (Cx (hand T718)) n).fn 48 [pR, Ts l, Ts l'] lvl c O = some (.ret (.bool (reL w l l').isSome), c', O') ∧ G18 (reL w l l') lvl O O'
theorem w68 {m : Nat} (IH : C41 m) {k : Int} {s : List UInt8} {c : List Tm} {k' : Int} {s' : List UInt8} {c' : List Tm} {w : List Rp} {n lvl cc : Nat} {O : Heap} (hc : szs c < m) (ht : txt1 (.mk k s c)) (ht' : txt1 (.mk k' s' c')) (hw : w.length + szs c + 1 ≤ 1000000) (hn : 3 * szs c + 4 ≤ n) (hl : 0 < lvl) (hI : I18 w O) :
    Q18 (reT w (.mk k s c) (.mk k' s' c')) lvl O (R (A68 lvl n) c768 .top ⟨params 0 [pR, tmv k s c, tmv k' s' c'], [], O, cc⟩) := by
  have hd5 := @a68_5 lvl n
  have hd10 := @a68_10 lvl n
  have hd11 := @a68_11 lvl n
  simp only [txt1] at ht ht'
  have lv0 := eq_true hl
  have e1 := Ftm_eq (f := fun k _ => .bool (isV k)) k c ht.1
  have e2 := Ftm_eq (f := fun k s => .str (nameP k s)) k c ht.1
  simp only [c768, Tryz.f78, gets, sub, opsAt] at hd5 hd10 hd11 ⊢
  rw [reT]
  by_cases q1 : k = k'
  case neg =>
    have q1' : (k != k') = true := by simpa using q1
    rw [if_neg q1]
    simp only [vmr, vmw, vmp, vza, ↓reduceIte, Nat.reduceBEq, Nat.reduceLT, Nat.reduceAdd, Nat.reduceEqDiff, reduceCtorEq, vmt, vzb, vzc, vlen, vleaf, velems, oks, vst, vmd, ty, Nat.reduceLeDiff, Nat.reduceMul, Nat.reduceSub, callV_s2, a68, q1']
    exact ⟨_, rfl, by simp only [vmr, vmw, vmp, vza, ↓reduceIte, Nat.reduceBEq, Nat.reduceLT, Nat.reduceAdd, Nat.reduceEqDiff, reduceCtorEq, vmt, vzb, vzc, vlen, vleaf, velems, oks, vst, vmd, ty, Nat.reduceLeDiff, Nat.reduceMul, Nat.reduceSub, a68], (fun w' h => by cases h), fun l sl off _ _ => by simp only [vmr, vmw, vmp, vza, ↓reduceIte, Nat.reduceBEq, Nat.reduceLT, Nat.reduceAdd, Nat.reduceEqDiff, reduceCtorEq, vmt, vzb, vzc, vlen, vleaf, velems, oks, vst, vmd, ty, Nat.reduceLeDiff, Nat.reduceMul, Nat.reduceSub, a68]⟩
  subst q1
  have q1' : (k != k) = false := by simp
  rw [if_pos rfl]
  cases hv : isV k with
  | false =>
    rw [hv] at e1
    rw [if_neg (by simp)]
    by_cases q2 : s = s'
    case neg =>
      have q2' : (s == s') = false := by simpa using q2
      rw [if_neg q2]
      simp only [vmr, vmw, vmp, vza, ↓reduceIte, Nat.reduceBEq, Nat.reduceLT, Nat.reduceAdd, Nat.reduceEqDiff, reduceCtorEq, vmt, vzb, vzc, vlen, vleaf, velems, oks, vst, vmd, ty, Nat.reduceLeDiff, Nat.reduceMul, Nat.reduceSub, callV_s2, a68, q1', e1, q2', strOp]
      exact ⟨_, rfl, by simp only [vmr, vmw, vmp, vza, ↓reduceIte, Nat.reduceBEq, Nat.reduceLT, Nat.reduceAdd, Nat.reduceEqDiff, reduceCtorEq, vmt, vzb, vzc, vlen, vleaf, velems, oks, vst, vmd, ty, Nat.reduceLeDiff, Nat.reduceMul, Nat.reduceSub, a68], (fun w' h => by cases h), fun l sl off _ _ => by simp only [vmr, vmw, vmp, vza, ↓reduceIte, Nat.reduceBEq, Nat.reduceLT, Nat.reduceAdd, Nat.reduceEqDiff, reduceCtorEq, vmt, vzb, vzc, vlen, vleaf, velems, oks, vst, vmd, ty, Nat.reduceLeDiff, Nat.reduceMul, Nat.reduceSub, a68]⟩
    subst q2
    have q2' : (s == s) = true := by simp
    rw [if_pos rfl]
    simp only [vmr, vmw, vmp, vza, ↓reduceIte, Nat.reduceBEq, Nat.reduceLT, Nat.reduceAdd, Nat.reduceEqDiff, reduceCtorEq, vmt, vzb, vzc, vlen, vleaf, velems, oks, vst, vmd, ty, Nat.reduceLeDiff, Nat.reduceMul, Nat.reduceSub, callV_s2, a68, q1', e1, q2', strOp]
    rw [callV_i (show okL.contains 48 = true by decide) (.inl rfl)]
    refine call_b (show 32 < 107 by omega) (G18.down (lvl := lvl) (O := O) rfl (by simp only [vmr, vmw, vmp, vza, ↓reduceIte, Nat.reduceBEq, Nat.reduceLT, Nat.reduceAdd, Nat.reduceEqDiff, reduceCtorEq, vmt, vzb, vzc, vlen, vleaf, velems, oks, vst, vmd, ty, Nat.reduceLeDiff, Nat.reduceMul, Nat.reduceSub, a68]) (IH c c' w n (lvl + 1) _ _ hc ht.2 ht'.2 (by omega) hn (by omega) (I18.up (lvl := lvl) rfl hl (by simp only [vmr, vmw, vmp, vza, ↓reduceIte, Nat.reduceBEq, Nat.reduceLT, Nat.reduceAdd, Nat.reduceEqDiff, reduceCtorEq, vmt, vzb, vzc, vlen, vleaf, velems, oks, vst, vmd, ty, Nat.reduceLeDiff, Nat.reduceMul, Nat.reduceSub, a68]) hI))) fun L' O' c2 _ hG => ?_
    obtain ⟨g1, g2⟩ := hG
    generalize reL w c c' = res at g1 ⊢
    cases res with
    | none =>
      simp only [vmr, vmw, vmp, vza, ↓reduceIte, Nat.reduceBEq, Nat.reduceLT, Nat.reduceAdd, Nat.reduceEqDiff, reduceCtorEq, vmt, vzb, vzc, vlen, vleaf, velems, oks, vst, vmd, ty, Nat.reduceLeDiff, Nat.reduceMul, Nat.reduceSub, a68]
      exact ⟨_, rfl, by simp only [vmr, vmw, vmp, vza, ↓reduceIte, Nat.reduceBEq, Nat.reduceLT, Nat.reduceAdd, Nat.reduceEqDiff, reduceCtorEq, vmt, vzb, vzc, vlen, vleaf, velems, oks, vst, vmd, ty, Nat.reduceLeDiff, Nat.reduceMul, Nat.reduceSub, a68], (fun w' h => by cases h), fun l sl off h0 h1 => by simp only [vmr, vmw, vmp, vza, ↓reduceIte, Nat.reduceBEq, Nat.reduceLT, Nat.reduceAdd, Nat.reduceEqDiff, reduceCtorEq, vmt, vzb, vzc, vlen, vleaf, velems, oks, vst, vmd, ty, Nat.reduceLeDiff, Nat.reduceMul, Nat.reduceSub, a68]; exact g2 l sl off h0 h1⟩
    | some w' =>
      simp only [vmr, vmw, vmp, vza, ↓reduceIte, Nat.reduceBEq, Nat.reduceLT, Nat.reduceAdd, Nat.reduceEqDiff, reduceCtorEq, vmt, vzb, vzc, vlen, vleaf, velems, oks, vst, vmd, ty, Nat.reduceLeDiff, Nat.reduceMul, Nat.reduceSub, a68]
      exact ⟨_, rfl, by simp only [vmr, vmw, vmp, vza, ↓reduceIte, Nat.reduceBEq, Nat.reduceLT, Nat.reduceAdd, Nat.reduceEqDiff, reduceCtorEq, vmt, vzb, vzc, vlen, vleaf, velems, oks, vst, vmd, ty, Nat.reduceLeDiff, Nat.reduceMul, Nat.reduceSub, a68], (fun w' h => by simp only [vmr, vmw, vmp, vza, ↓reduceIte, Nat.reduceBEq, Nat.reduceLT, Nat.reduceAdd, Nat.reduceEqDiff, reduceCtorEq, vmt, vzb, vzc, vlen, vleaf, velems, oks, vst, vmd, ty, Nat.reduceLeDiff, Nat.reduceMul, Nat.reduceSub, a68]; exact g1 w' h), fun l sl off h0 h1 => by simp only [vmr, vmw, vmp, vza, ↓reduceIte, Nat.reduceBEq, Nat.reduceLT, Nat.reduceAdd, Nat.reduceEqDiff, reduceCtorEq, vmt, vzb, vzc, vlen, vleaf, velems, oks, vst, vmd, ty, Nat.reduceLeDiff, Nat.reduceMul, Nat.reduceSub, a68]; exact g2 l sl off h0 h1⟩
  | true =>
    rw [hv] at e1
    rw [if_pos rfl]
    have hnm := nameP_V hv s
    have hnm' := nameP_V hv s'
    have e3 := Ftm_eq (f := fun k s => .str (nameP k s)) k c' ht'.1
    rw [hnm] at e2
    rw [hnm'] at e3
    obtain ⟨⟨row, i1, i2⟩, i3, i4⟩ := hI
    have kok1 : keyOk Tryz.prog 9 (.str (nameV k s)) = true := by kernel_rfl
    have kok2 : keyOk Tryz.prog 9 (.str (nameV k s')) = true := by kernel_rfl
    have f1 := toM_find (nameV k s) w 0
    have f2 := frM_find (nameV k s') w 0
    unfold reV
    cases hT : lkT w (nameV k s) with
    | some p =>
      rw [hT] at f1
      obtain ⟨j1, f1⟩ := f1
      cases hF : lkF w (nameV k s') with
      | some q =>
        rw [hF] at f2
        obtain ⟨j2, f2⟩ := f2
        dsimp only
        by_cases z1 : p.nm = nameV k s'
        · have z1' : (p.nm == nameV k s') = true := by simpa using z1
          by_cases z2 : q.x = nameV k s
          · have z2' : (q.x == nameV k s) = true := by simpa using z2
            rw [if_pos ⟨z1, z2⟩]
            simp only [vmr, vmw, vmp, vza, ↓reduceIte, Nat.reduceBEq, Nat.reduceLT, Nat.reduceAdd, Nat.reduceEqDiff, reduceCtorEq, vmt, vzb, vzc, vlen, vleaf, velems, oks, vst, vmd, ty, Nat.reduceLeDiff, Nat.reduceMul, Nat.reduceSub, callV_s2, a68, q1', e1, e2, e3, hd5, obj_lo, lv0, i1, i3, i4, kok1, kok2, mapGet, f1, f2, strOp, z1', z2']
            exact ⟨_, rfl, by simp only [vmr, vmw, vmp, vza, ↓reduceIte, Nat.reduceBEq, Nat.reduceLT, Nat.reduceAdd, Nat.reduceEqDiff, reduceCtorEq, vmt, vzb, vzc, vlen, vleaf, velems, oks, vst, vmd, ty, Nat.reduceLeDiff, Nat.reduceMul, Nat.reduceSub, a68], (fun w' h => by injection h with h; subst h; simp only [vmr, vmw, vmp, vza, ↓reduceIte, Nat.reduceBEq, Nat.reduceLT, Nat.reduceAdd, Nat.reduceEqDiff, reduceCtorEq, vmt, vzb, vzc, vlen, vleaf, velems, oks, vst, vmd, ty, Nat.reduceLeDiff, Nat.reduceMul, Nat.reduceSub, a68]; exact ⟨⟨row, i1, i2⟩, i3, i4⟩), fun l sl off _ _ => by simp only [vmr, vmw, vmp, vza, ↓reduceIte, Nat.reduceBEq, Nat.reduceLT, Nat.reduceAdd, Nat.reduceEqDiff, reduceCtorEq, vmt, vzb, vzc, vlen, vleaf, velems, oks, vst, vmd, ty, Nat.reduceLeDiff, Nat.reduceMul, Nat.reduceSub, a68]⟩
          · have z2' : (q.x == nameV k s) = false := by simpa using z2
            rw [if_neg (fun h => z2 h.2)]
            simp only [vmr, vmw, vmp, vza, ↓reduceIte, Nat.reduceBEq, Nat.reduceLT, Nat.reduceAdd, Nat.reduceEqDiff, reduceCtorEq, vmt, vzb, vzc, vlen, vleaf, velems, oks, vst, vmd, ty, Nat.reduceLeDiff, Nat.reduceMul, Nat.reduceSub, callV_s2, a68, q1', e1, e2, e3, hd5, obj_lo, lv0, i1, i3, i4, kok1, kok2, mapGet, f1, f2, strOp, z1', z2']
            exact ⟨_, rfl, by simp only [vmr, vmw, vmp, vza, ↓reduceIte, Nat.reduceBEq, Nat.reduceLT, Nat.reduceAdd, Nat.reduceEqDiff, reduceCtorEq, vmt, vzb, vzc, vlen, vleaf, velems, oks, vst, vmd, ty, Nat.reduceLeDiff, Nat.reduceMul, Nat.reduceSub, a68], (fun w' h => by cases h), fun l sl off _ _ => by simp only [vmr, vmw, vmp, vza, ↓reduceIte, Nat.reduceBEq, Nat.reduceLT, Nat.reduceAdd, Nat.reduceEqDiff, reduceCtorEq, vmt, vzb, vzc, vlen, vleaf, velems, oks, vst, vmd, ty, Nat.reduceLeDiff, Nat.reduceMul, Nat.reduceSub, a68]⟩
        · have z1' : (p.nm == nameV k s') = false := by simpa using z1
          rw [if_neg (fun h => z1 h.1)]
          simp only [vmr, vmw, vmp, vza, ↓reduceIte, Nat.reduceBEq, Nat.reduceLT, Nat.reduceAdd, Nat.reduceEqDiff, reduceCtorEq, vmt, vzb, vzc, vlen, vleaf, velems, oks, vst, vmd, ty, Nat.reduceLeDiff, Nat.reduceMul, Nat.reduceSub, callV_s2, a68, q1', e1, e2, e3, hd5, obj_lo, lv0, i1, i3, i4, kok1, kok2, mapGet, f1, f2, strOp, z1']
          exact ⟨_, rfl, by simp only [vmr, vmw, vmp, vza, ↓reduceIte, Nat.reduceBEq, Nat.reduceLT, Nat.reduceAdd, Nat.reduceEqDiff, reduceCtorEq, vmt, vzb, vzc, vlen, vleaf, velems, oks, vst, vmd, ty, Nat.reduceLeDiff, Nat.reduceMul, Nat.reduceSub, a68], (fun w' h => by cases h), fun l sl off _ _ => by simp only [vmr, vmw, vmp, vza, ↓reduceIte, Nat.reduceBEq, Nat.reduceLT, Nat.reduceAdd, Nat.reduceEqDiff, reduceCtorEq, vmt, vzb, vzc, vlen, vleaf, velems, oks, vst, vmd, ty, Nat.reduceLeDiff, Nat.reduceMul, Nat.reduceSub, a68]⟩
      | none =>
        rw [hF] at f2
        dsimp only at f2 ⊢
        simp only [vmr, vmw, vmp, vza, ↓reduceIte, Nat.reduceBEq, Nat.reduceLT, Nat.reduceAdd, Nat.reduceEqDiff, reduceCtorEq, vmt, vzb, vzc, vlen, vleaf, velems, oks, vst, vmd, ty, Nat.reduceLeDiff, Nat.reduceMul, Nat.reduceSub, callV_s2, a68, q1', e1, e2, e3, hd5, obj_lo, lv0, i1, i3, i4, kok1, kok2, mapGet, f1, f2, strOp]
        exact ⟨_, rfl, by simp only [vmr, vmw, vmp, vza, ↓reduceIte, Nat.reduceBEq, Nat.reduceLT, Nat.reduceAdd, Nat.reduceEqDiff, reduceCtorEq, vmt, vzb, vzc, vlen, vleaf, velems, oks, vst, vmd, ty, Nat.reduceLeDiff, Nat.reduceMul, Nat.reduceSub, a68], (fun w' h => by cases h), fun l sl off _ _ => by simp only [vmr, vmw, vmp, vza, ↓reduceIte, Nat.reduceBEq, Nat.reduceLT, Nat.reduceAdd, Nat.reduceEqDiff, reduceCtorEq, vmt, vzb, vzc, vlen, vleaf, velems, oks, vst, vmd, ty, Nat.reduceLeDiff, Nat.reduceMul, Nat.reduceSub, a68]⟩
    | none =>
      rw [hT] at f1
      dsimp only at f1
      cases hF : lkF w (nameV k s') with
      | some q =>
        rw [hF] at f2
        obtain ⟨j2, f2⟩ := f2
        dsimp only
        simp only [vmr, vmw, vmp, vza, ↓reduceIte, Nat.reduceBEq, Nat.reduceLT, Nat.reduceAdd, Nat.reduceEqDiff, reduceCtorEq, vmt, vzb, vzc, vlen, vleaf, velems, oks, vst, vmd, ty, Nat.reduceLeDiff, Nat.reduceMul, Nat.reduceSub, callV_s2, a68, q1', e1, e2, e3, hd5, obj_lo, lv0, i1, i3, i4, kok1, kok2, mapGet, f1, f2, strOp]
        exact ⟨_, rfl, by simp only [vmr, vmw, vmp, vza, ↓reduceIte, Nat.reduceBEq, Nat.reduceLT, Nat.reduceAdd, Nat.reduceEqDiff, reduceCtorEq, vmt, vzb, vzc, vlen, vleaf, velems, oks, vst, vmd, ty, Nat.reduceLeDiff, Nat.reduceMul, Nat.reduceSub, a68], (fun w' h => by cases h), fun l sl off _ _ => by simp only [vmr, vmw, vmp, vza, ↓reduceIte, Nat.reduceBEq, Nat.reduceLT, Nat.reduceAdd, Nat.reduceEqDiff, reduceCtorEq, vmt, vzb, vzc, vlen, vleaf, velems, oks, vst, vmd, ty, Nat.reduceLeDiff, Nat.reduceMul, Nat.reduceSub, a68]⟩
      | none =>
        rw [hF] at f2
        dsimp only at f2 ⊢
        have hr1 := @room35 1 (by omega)
        have hr2 := @room59 1 (by omega)
        have hr3 := @room59 (w.length + 1) (by omega)
        have hf1 : ∀ (s : List UInt8) (e : List V), fitsE Tryz.prog 57 (.agg [.str s, .lst e]) = true := fun s e => by simp [fitsE, ty, leafV]
        have hf2 : ∀ (k : Int) (s : List UInt8), fitsE Tryz.prog 52 (.agg [I k, .str s, .nilS]) = true := fun k s => by simp [fitsE, ty, leafV]
        rcases i2 with ⟨rfl, rfl⟩ | ⟨vr, rfl, i5⟩
        · simp only [vmr, vmw, vmp, vza, ↓reduceIte, Nat.reduceBEq, Nat.reduceLT, Nat.reduceAdd, Nat.reduceEqDiff, reduceCtorEq, vmt, vzb, vzc, vlen, vleaf, velems, oks, vst, vmd, ty, Nat.reduceLeDiff, Nat.reduceMul, Nat.reduceSub, callV_s2, a68, q1', e1, e2, e3, hd5, hd10, hd11, obj_lo, put_lo, oput_get, key_eq, lv0, i1, i3, i4, kok1, kok2, mapGet, f1, f2, strOp, qState_none, aop_mapEntry, aop_entryStore, mapEnt, entPut, mset_last, len_ok, Int.toNat_natCast, hr1, hr2, hr3, hf1, hf2, List.map_cons, List.map_nil]
          refine ⟨_, rfl, by simp only [vmr, vmw, vmp, vza, ↓reduceIte, Nat.reduceBEq, Nat.reduceLT, Nat.reduceAdd, Nat.reduceEqDiff, reduceCtorEq, vmt, vzb, vzc, vlen, vleaf, velems, oks, vst, vmd, ty, Nat.reduceLeDiff, Nat.reduceMul, Nat.reduceSub, a68], fun w' h => ?_, fun l sl off h0 h1 => ?_⟩
          · injection h with h
            subst h
            refine I18.of ?_ ?_ ?_ ?_
            all_goals simp only [vmr, vmw, vmp, vza, ↓reduceIte, Nat.reduceBEq, Nat.reduceLT, Nat.reduceAdd, Nat.reduceEqDiff, reduceCtorEq, vmt, vzb, vzc, vlen, vleaf, velems, oks, vst, vmd, ty, Nat.reduceLeDiff, Nat.reduceMul, Nat.reduceSub, a68]
            all_goals simp [verO, oput_get, odel_get, key_eq, toM, frM, rpV, List.map_append]
          · have hl0 : l ≠ 0 := by omega
            simp only [vmr, vmw, vmp, vza, ↓reduceIte, Nat.reduceBEq, Nat.reduceLT, Nat.reduceAdd, Nat.reduceEqDiff, reduceCtorEq, vmt, vzb, vzc, vlen, vleaf, velems, oks, vst, vmd, ty, Nat.reduceLeDiff, Nat.reduceMul, Nat.reduceSub, a68]
            simp [oput_get, odel_get, key_eq, hl0]
        · simp only [vmr, vmw, vmp, vza, ↓reduceIte, Nat.reduceBEq, Nat.reduceLT, Nat.reduceAdd, Nat.reduceEqDiff, reduceCtorEq, vmt, vzb, vzc, vlen, vleaf, velems, oks, vst, vmd, ty, Nat.reduceLeDiff, Nat.reduceMul, Nat.reduceSub, callV_s2, a68, q1', e1, e2, e3, hd5, hd10, hd11, obj_lo, put_lo, del_lo, odel_get, oput_get, key_eq, lv0, i1, i3, i4, i5, kok1, kok2, mapGet, f1, f2, strOp, qState_none, aop_mapEntry, aop_entryStore, mapEnt, entPut, mset_last, len_ok, Int.toNat_natCast, hr1, hr2, hr3, hf1, hf2, List.map_cons, List.map_nil]
          refine ⟨_, rfl, by simp only [vmr, vmw, vmp, vza, ↓reduceIte, Nat.reduceBEq, Nat.reduceLT, Nat.reduceAdd, Nat.reduceEqDiff, reduceCtorEq, vmt, vzb, vzc, vlen, vleaf, velems, oks, vst, vmd, ty, Nat.reduceLeDiff, Nat.reduceMul, Nat.reduceSub, a68], fun w' h => ?_, fun l sl off h0 h1 => ?_⟩
          · injection h with h
            subst h
            refine I18.of ?_ ?_ ?_ ?_
            all_goals simp only [vmr, vmw, vmp, vza, ↓reduceIte, Nat.reduceBEq, Nat.reduceLT, Nat.reduceAdd, Nat.reduceEqDiff, reduceCtorEq, vmt, vzb, vzc, vlen, vleaf, velems, oks, vst, vmd, ty, Nat.reduceLeDiff, Nat.reduceMul, Nat.reduceSub, a68]
            all_goals simp [verO, oput_get, odel_get, key_eq, toM, frM, rpV, List.map_append]
          · have hl0 : l ≠ 0 := by omega
            simp only [vmr, vmw, vmp, vza, ↓reduceIte, Nat.reduceBEq, Nat.reduceLT, Nat.reduceAdd, Nat.reduceEqDiff, reduceCtorEq, vmt, vzb, vzc, vlen, vleaf, velems, oks, vst, vmd, ty, Nat.reduceLeDiff, Nat.reduceMul, Nat.reduceSub, a68]
            simp [oput_get, odel_get, key_eq, hl0]
end Go.Vi
set_option maxRecDepth 100000
set_option maxHeartbeats 1000000
namespace Go.Vi
open Go Go.Proofs
theorem q_fn {g : FuncId} {fn : Func} {b : Code} {lvl n c : Nat} {O : Heap} {args : List V} {res : Option (List Rp)} (hf : Tryz.prog.funcs[g]? = some fn) (hb : fn.body = some b) (hla : args.length ≤ fn.ntmps) (hr : fn.results.toList = [.tmp 6]) (hl : 0 < lvl)
    (h : Q18 res lvl O (R (mcAt (Cx (hand T718)) g fn lvl n) b .top ⟨params 0 args, [], O, c⟩)) : ∃ c' O', (evF (Cx (hand T718)) (n + 1)).fn g args lvl c O = some (.ret (.bool res.isSome), c', O') ∧ G18 res lvl O O' := by
  obtain ⟨s', hr', h6, hi, hS⟩ := h
  refine ⟨_, _, evF_at1 (C := Cx (hand T718)) (s' := s') hf hb hla hr (.inr hr') (by rw [h6]; rfl), fun w' hw => (hi w' hw).cong fun sl off => by rw [lower_get, if_pos hl], fun l sl off h0 h1 => by rw [lower_get, if_pos h1]; exact hS l sl off h0 h1⟩
theorem reL_len : ∀ (w : List Rp) (a b : List Tm), a.length ≠ b.length → reL w a b = none
  | w, [], [], h => absurd rfl h
  | w, [], t :: r, h => by rw [reL] <;> simp
  | w, t :: r, [], h => by rw [reL] <;> simp
  | w, t :: r, t' :: r', h => by
    rw [reL]
    cases reT w t t' with
    | none => rfl
    | some w' => exact reL_len w' r r' (fun e => h (by simp [e]))
mutual
theorem reT_sz : ∀ (w : List Rp) (t t' : Tm) {w'}, reT w t t' = some w' → w'.length ≤ w.length + szt t
  | w, .mk k s c, .mk k' s' c', w', h => by
    rw [reT] at h
    rw [szt]
    split at h
    · split at h
      · obtain ⟨r, h1, h2⟩ := reV_app h
        unfold reV at h
        split at h
        · injection h with h; rw [← h]; simp
        · split at h
          · injection h with h; rw [← h]; omega
          · cases h
        · cases h
      · split at h
        · have := reL_sz w c c' h; omega
        · cases h
    · cases h
theorem reL_sz : ∀ (w : List Rp) (l l' : List Tm) {w'}, reL w l l' = some w' → w'.length ≤ w.length + szs l
  | w, [], [], w', h => by
    rw [reL] at h
    injection h with h
    rw [h]; omega
  | w, t :: r, t' :: r', w', h => by
    rw [reL] at h
    split at h
    · rename_i w1 h1
      have := reT_sz w t t' h1
      have := reL_sz w1 r r' h
      rw [szs]; omega
    · cases h
  | w, [], t' :: r', w', h => by
    rw [reL_len w _ _ (by simp)] at h; cases h
  | w, t :: r, [], w', h => by
    rw [reL_len w _ _ (by simp)] at h; cases h
end
abbrev fn68 : V := .fn (.func 78) [pR] []
theorem l67 {m : Nat} (IH : C41 m) {n lvl : Nat} {k : K} {O : Heap} (hl : 0 < lvl) (a b : List Tm) (hoa : txs a) (hob : txs b) (hsz : szs a < m + 1) (ham : szs a ≤ 1000000) (hn : 3 * szs a + 1 ≤ n) {res : Option (List Rp)} :
    ∀ r t i w n' s, a.drop i = r → b.drop i = t → r.length = t.length → r.length < n' → w.length + szs r ≤ 1000000 → tget s.τ 1 = Ts b → tget s.τ 2 = fn68 → tget s.τ 15 = Ts a → tget s.τ 16 = I a.length → tget s.τ 17 = I (i : Nat) → I18 w s.O → Fr lvl O s.O →
    reL w r t = res → (∀ s' w', res = some w' → I18 w' s'.O → Fr lvl O s'.O → Q18 res lvl O (X (A67 lvl (n + 1)) (.exit 0) k s')) →
    Q18 res lvl O (L (A67 lvl (n + 1)) (sub [1, 1, 0, 1, 0, 0] c767) n' k s)
  | [], [], i, w, n' + 1, s, hi, hj, hlen, hn', hw, h1, h2, h15, h16, h17, hI, hS, hres, hx => by
    have hc := inlt (drop_nil' hi)
    rw [L_succ]
    simp only [vmr, vmw, vmp, vza, ↓reduceIte, Nat.reduceBEq, Nat.reduceLT, Nat.reduceAdd, Nat.reduceEqDiff, reduceCtorEq, vmt, vzb, vzc, vlen, vleaf, velems, oks, vst, vmd, ty, Nat.reduceLeDiff, Nat.reduceMul, Nat.reduceSub, c767, Tryz.f77, a67, h15, h16, h17, hc]
    rw [reL] at hres
    exact hx _ w hres.symm hI hS
  | .mk k1 s1 c1 :: r, .mk k2 s2 c2 :: t, i, w, n' + 1, s, hi, hj, hlen, hn', hw, h1, h2, h15, h16, h17, hI, hS, hres, hx => by
    obtain ⟨g1, g2, g3⟩ := drop_cons hi
    obtain ⟨g4, g5, g6⟩ := drop_cons hj
    have hcl := ilt g3
    have ga : (a.map tv)[i]? = some (.agg [I k1, .str s1, Ts c1]) := by rw [List.getElem?_map, g1, Option.map_some, tv_mk]
    have gb : (b.map tv)[i]? = some (.agg [I k2, .str s2, Ts c2]) := by rw [List.getElem?_map, g4, Option.map_some, tv_mk]
    have hsa := szs_mem (l := a) (List.mem_of_getElem? g1)
    have hlna := szs_len a
    have w4 := wsuc g3 (by omega)
    have ho1 := txs_mem hoa (List.mem_of_getElem? g1)
    have ho2 := txs_mem hob (List.mem_of_getElem? g4)
    simp only [szs, szt] at hw
    rw [reL] at hres
    rw [L_succ]
    simp only [vmr, vmw, vmp, vza, ↓reduceIte, Nat.reduceBEq, Nat.reduceLT, Nat.reduceAdd, Nat.reduceEqDiff, reduceCtorEq, vmt, vzb, vzc, vlen, vleaf, velems, oks, vst, vmd, ty, Nat.reduceLeDiff, Nat.reduceMul, Nat.reduceSub, c767, Tryz.f77, a67, h1, h2, h15, h16, h17, hcl, ga, gb, w4]
    rw [callV_i (show okL.contains 78 = true by decide) (.inl rfl)]
    refine call_b (show 29 < 32 by omega) (G18.down (lvl := lvl) (O := s.O) rfl (by simp only [vmr, vmw, vmp, vza, ↓reduceIte, Nat.reduceBEq, Nat.reduceLT, Nat.reduceAdd, Nat.reduceEqDiff, reduceCtorEq, vmt, vzb, vzc, vlen, vleaf, velems, oks, vst, vmd, ty, Nat.reduceLeDiff, Nat.reduceMul, Nat.reduceSub, a67]) (q_fn (fn := Tryz.f78) (b := c768) Tryz.func78 rfl (show 3 ≤ 107 by omega) rfl (by show 0 < lvl + 1; omega) (w68 IH (k := k1) (s := s1) (c := c1) (k' := k2) (s' := s2) (c' := c2) (w := w) (n := n) (by omega) ho1 ho2 (by omega) (by omega) (by omega) (I18.up (lvl := lvl) rfl hl (by simp only [vmr, vmw, vmp, vza, ↓reduceIte, Nat.reduceBEq, Nat.reduceLT, Nat.reduceAdd, Nat.reduceEqDiff, reduceCtorEq, vmt, vzb, vzc, vlen, vleaf, velems, oks, vst, vmd, ty, Nat.reduceLeDiff, Nat.reduceMul, Nat.reduceSub, a67]) hI)))) fun L' O' c2' _ hG => ?_
    obtain ⟨q1, q2⟩ := hG
    have ih := fun w s => l67 (k := k) (O := O) IH hl a b hoa hob hsz ham hn (res := res) r t (i + 1) w n' s g2 g5 (by simpa using hlen) (by simp at hn'; omega)
    simp only [sub, c767, Tryz.f77, gets] at ih
    have hS' : Fr lvl O O' := fun l sl off h0 h1 => (q2 l sl off h0 h1).trans (hS l sl off h0 h1)
    have hlw : ∀ w', reT w (.mk k1 s1 c1) (.mk k2 s2 c2) = some w' → w'.length ≤ w.length + (szs c1 + 1) := fun w' h => by
      have := reT_sz w _ _ h
      rw [szt] at this
      exact this
    generalize reT w (.mk k1 s1 c1) (.mk k2 s2 c2) = o at hres q1 hlw ⊢
    cases o with
    | none =>
      dsimp only at hres
      subst hres
      simp only [vmr, vmw, vmp, vza, ↓reduceIte, Nat.reduceBEq, Nat.reduceLT, Nat.reduceAdd, Nat.reduceEqDiff, reduceCtorEq, vmt, vzb, vzc, vlen, vleaf, velems, oks, vst, vmd, ty, Nat.reduceLeDiff, Nat.reduceMul, Nat.reduceSub, a67]
      exact ⟨_, rfl, by simp only [vmr, vmw, vmp, vza, ↓reduceIte, Nat.reduceBEq, Nat.reduceLT, Nat.reduceAdd, Nat.reduceEqDiff, reduceCtorEq, vmt, vzb, vzc, vlen, vleaf, velems, oks, vst, vmd, ty, Nat.reduceLeDiff, Nat.reduceMul, Nat.reduceSub, a67], (fun w' h => by cases h), fun l sl off h0 h1 => by simp only [vmr, vmw, vmp, vza, ↓reduceIte, Nat.reduceBEq, Nat.reduceLT, Nat.reduceAdd, Nat.reduceEqDiff, reduceCtorEq, vmt, vzb, vzc, vlen, vleaf, velems, oks, vst, vmd, ty, Nat.reduceLeDiff, Nat.reduceMul, Nat.reduceSub, a67]; exact hS' l sl off h0 h1⟩
    | some w1 =>
      dsimp only at hres
      have := hlw w1 rfl
      simp only [vmr, vmw, vmp, vza, ↓reduceIte, Nat.reduceBEq, Nat.reduceLT, Nat.reduceAdd, Nat.reduceEqDiff, reduceCtorEq, vmt, vzb, vzc, vlen, vleaf, velems, oks, vst, vmd, ty, Nat.reduceLeDiff, Nat.reduceMul, Nat.reduceSub, a67, h17, w4]
      refine ih w1 _ (by omega) ?_ ?_ ?_ ?_ ?_ ?_ ?_ hres hx
      case refine_6 => simp only [vmr, vmw, vmp, vza, ↓reduceIte, Nat.reduceBEq, Nat.reduceLT, Nat.reduceAdd, Nat.reduceEqDiff, reduceCtorEq, vmt, vzb, vzc, vlen, vleaf, velems, oks, vst, vmd, ty, Nat.reduceLeDiff, Nat.reduceMul, Nat.reduceSub, a67]; exact q1 w1 rfl
      case refine_7 => simp only [vmr, vmw, vmp, vza, ↓reduceIte, Nat.reduceBEq, Nat.reduceLT, Nat.reduceAdd, Nat.reduceEqDiff, reduceCtorEq, vmt, vzb, vzc, vlen, vleaf, velems, oks, vst, vmd, ty, Nat.reduceLeDiff, Nat.reduceMul, Nat.reduceSub, a67]; exact hS'
      all_goals simp only [vmr, vmw, vmp, vza, ↓reduceIte, Nat.reduceBEq, Nat.reduceLT, Nat.reduceAdd, Nat.reduceEqDiff, reduceCtorEq, vmt, vzb, vzc, vlen, vleaf, velems, oks, vst, vmd, ty, Nat.reduceLeDiff, Nat.reduceMul, Nat.reduceSub, a67, h1, h2, h15, h16]
theorem w67 {m : Nat} (IH : C41 m) (a b : List Tm) {w : List Rp} {n lvl c : Nat} {O : Heap} (hsz : szs a < m + 1) (hoa : txs a) (hob : txs b) (hw : w.length + szs a ≤ 1000000) (hn : 3 * szs a + 1 ≤ n) (hl : 0 < lvl) (hI : I18 w O) :
    Q18 (reL w a b) lvl O (R (A67 lvl (n + 1)) c767 .top ⟨params 0 [Ts a, Ts b, fn68], [], O, c⟩) := by
  have hla := szs_len a
  have a1 := fun k s => l67 (n := n) (k := k) (O := O) IH hl a b hoa hob hsz (by omega) hn (res := reL w a b) a b 0 w (n + 1) s rfl rfl
  simp only [c767, Tryz.f77, gets, sub] at a1 ⊢
  by_cases q : a.length = b.length
  · have q' : ((a.length : Int) != (b.length : Int)) = false := by simp [q]
    simp only [vmr, vmw, vmp, vza, ↓reduceIte, Nat.reduceBEq, Nat.reduceLT, Nat.reduceAdd, Nat.reduceEqDiff, reduceCtorEq, vmt, vzb, vzc, vlen, vleaf, velems, oks, vst, vmd, ty, Nat.reduceLeDiff, Nat.reduceMul, Nat.reduceSub, a67, q']
    refine a1 _ _ q (by omega) hw ?_ ?_ ?_ ?_ ?_ hI (fun _ _ _ _ _ => rfl) trivial (fun s' w' e hi hS => ?_)
    case refine_6 =>
      rw [e]
      simp only [vmr, vmw, vmp, vza, ↓reduceIte, Nat.reduceBEq, Nat.reduceLT, Nat.reduceAdd, Nat.reduceEqDiff, reduceCtorEq, vmt, vzb, vzc, vlen, vleaf, velems, oks, vst, vmd, ty, Nat.reduceLeDiff, Nat.reduceMul, Nat.reduceSub, a67]
      exact ⟨_, rfl, by simp only [vmr, vmw, vmp, vza, ↓reduceIte, Nat.reduceBEq, Nat.reduceLT, Nat.reduceAdd, Nat.reduceEqDiff, reduceCtorEq, vmt, vzb, vzc, vlen, vleaf, velems, oks, vst, vmd, ty, Nat.reduceLeDiff, Nat.reduceMul, Nat.reduceSub, a67], (fun w2 h => by injection h with h; subst h; simp only [vmr, vmw, vmp, vza, ↓reduceIte, Nat.reduceBEq, Nat.reduceLT, Nat.reduceAdd, Nat.reduceEqDiff, reduceCtorEq, vmt, vzb, vzc, vlen, vleaf, velems, oks, vst, vmd, ty, Nat.reduceLeDiff, Nat.reduceMul, Nat.reduceSub, a67]; exact hi), fun l sl off h0 h1 => by simp only [vmr, vmw, vmp, vza, ↓reduceIte, Nat.reduceBEq, Nat.reduceLT, Nat.reduceAdd, Nat.reduceEqDiff, reduceCtorEq, vmt, vzb, vzc, vlen, vleaf, velems, oks, vst, vmd, ty, Nat.reduceLeDiff, Nat.reduceMul, Nat.reduceSub, a67]; exact hS l sl off h0 h1⟩
    all_goals simp only [vmr, vmw, vmp, vza, ↓reduceIte, Nat.reduceBEq, Nat.reduceLT, Nat.reduceAdd, Nat.reduceEqDiff, reduceCtorEq, vmt, vzb, vzc, vlen, vleaf, velems, oks, vst, vmd, ty, Nat.reduceLeDiff, Nat.reduceMul, Nat.reduceSub, a67]
  · have q' : ((a.length : Int) != (b.length : Int)) = true := by simp; omega
    rw [reL_len w a b q]
    simp only [vmr, vmw, vmp, vza, ↓reduceIte, Nat.reduceBEq, Nat.reduceLT, Nat.reduceAdd, Nat.reduceEqDiff, reduceCtorEq, vmt, vzb, vzc, vlen, vleaf, velems, oks, vst, vmd, ty, Nat.reduceLeDiff, Nat.reduceMul, Nat.reduceSub, a67, q']
    exact ⟨_, rfl, by simp only [vmr, vmw, vmp, vza, ↓reduceIte, Nat.reduceBEq, Nat.reduceLT, Nat.reduceAdd, Nat.reduceEqDiff, reduceCtorEq, vmt, vzb, vzc, vlen, vleaf, velems, oks, vst, vmd, ty, Nat.reduceLeDiff, Nat.reduceMul, Nat.reduceSub, a67], (fun w' h => by cases h), fun l sl off h0 h1 => by simp only [vmr, vmw, vmp, vza, ↓reduceIte, Nat.reduceBEq, Nat.reduceLT, Nat.reduceAdd, Nat.reduceEqDiff, reduceCtorEq, vmt, vzb, vzc, vlen, vleaf, velems, oks, vst, vmd, ty, Nat.reduceLeDiff, Nat.reduceMul, Nat.reduceSub, a67]⟩
theorem c41 : ∀ m, C41 m
  | 0 => fun l l' w n lvl c O h => by omega
  | m + 1 => fun a b w n lvl c O hsz hoa hob hw hn hl hI => by
    obtain ⟨n, rfl⟩ : ∃ n', n = n' + 3 := ⟨n - 3, by omega⟩
    have key : Q18 (reL w a b) lvl O (R (A41 lvl (n + 2)) (Tryz.f48.body.getD .skip) .top ⟨params 0 [pR, Ts a, Ts b], [], O, c⟩) := by
      simp only [vmr, vmw, vmp, vza, ↓reduceIte, Nat.reduceBEq, Nat.reduceLT, Nat.reduceAdd, Nat.reduceEqDiff, reduceCtorEq, vmt, vzb, vzc, vlen, vleaf, velems, oks, vst, vmd, ty, Nat.reduceLeDiff, Nat.reduceMul, Nat.reduceSub, Tryz.f48, a41]
      rw [callV_i (show okL.contains 77 = true by decide) (.inl rfl)]
      refine call_b (show 11 < 12 by omega) (G18.down (lvl := lvl) (O := O) rfl (by simp only [vmr, vmw, vmp, vza, ↓reduceIte, Nat.reduceBEq, Nat.reduceLT, Nat.reduceAdd, Nat.reduceEqDiff, reduceCtorEq, vmt, vzb, vzc, vlen, vleaf, velems, oks, vst, vmd, ty, Nat.reduceLeDiff, Nat.reduceMul, Nat.reduceSub, a41]) (q_fn (fn := Tryz.f77) (b := c767) Tryz.func77 rfl (show 3 ≤ 32 by omega) rfl (by show 0 < lvl + 1; omega) (w67 (c41 m) a b (w := w) (n := n) hsz hoa hob hw (by omega) (by omega) (I18.up (lvl := lvl) rfl hl (by simp only [vmr, vmw, vmp, vza, ↓reduceIte, Nat.reduceBEq, Nat.reduceLT, Nat.reduceAdd, Nat.reduceEqDiff, reduceCtorEq, vmt, vzb, vzc, vlen, vleaf, velems, oks, vst, vmd, ty, Nat.reduceLeDiff, Nat.reduceMul, Nat.reduceSub, a41]) hI)))) fun L' O' c2' _ hG => ?_
      obtain ⟨q1, q2⟩ := hG
      generalize reL w a b = res at q1 ⊢
      simp only [vmr, vmw, vmp, vza, ↓reduceIte, Nat.reduceBEq, Nat.reduceLT, Nat.reduceAdd, Nat.reduceEqDiff, reduceCtorEq, vmt, vzb, vzc, vlen, vleaf, velems, oks, vst, vmd, ty, Nat.reduceLeDiff, Nat.reduceMul, Nat.reduceSub, a41]
      exact ⟨_, rfl, by simp only [vmr, vmw, vmp, vza, ↓reduceIte, Nat.reduceBEq, Nat.reduceLT, Nat.reduceAdd, Nat.reduceEqDiff, reduceCtorEq, vmt, vzb, vzc, vlen, vleaf, velems, oks, vst, vmd, ty, Nat.reduceLeDiff, Nat.reduceMul, Nat.reduceSub, a41], (fun w' h => by simp only [vmr, vmw, vmp, vza, ↓reduceIte, Nat.reduceBEq, Nat.reduceLT, Nat.reduceAdd, Nat.reduceEqDiff, reduceCtorEq, vmt, vzb, vzc, vlen, vleaf, velems, oks, vst, vmd, ty, Nat.reduceLeDiff, Nat.reduceMul, Nat.reduceSub, a41]; exact q1 w' h), fun l sl off h0 h1 => by simp only [vmr, vmw, vmp, vza, ↓reduceIte, Nat.reduceBEq, Nat.reduceLT, Nat.reduceAdd, Nat.reduceEqDiff, reduceCtorEq, vmt, vzb, vzc, vlen, vleaf, velems, oks, vst, vmd, ty, Nat.reduceLeDiff, Nat.reduceMul, Nat.reduceSub, a41]; exact q2 l sl off h0 h1⟩
    exact q_fn (fn := Tryz.f48) (b := Tryz.f48.body.getD .skip) Tryz.func48 rfl (show 3 ≤ 12 by omega) rfl hl key
def reB (a b : List Tm) : Option (List Rp) := if errB 8 a = 0 ∧ errB 8 b = 0 then reL [] a b else none
def reO : Option (List Rp) → V
  | some w => .tup [Bs (w.map Rp.b), .bool true]
  | none => .tup [Bs [], .bool false]
theorem h718 : SoundHand Tryz.prog (hand T718) := sound_cons F17_sound <| sound_cons F25_sound <| sound_cons F52_sound sound_nil
theorem can_rpV (p : Rp) : can (rpV p) = p.b.v := by
  show V.agg [.str p.x, .lst [.agg [I p.k, .str p.s, .lst []]]] = _
  rw [Rp.b, Bn.v, Ts, List.map_cons, List.map_nil, tv_mk]
  rfl
theorem cans_rpV (w : List Rp) : cans (w.map rpV) = (w.map Rp.b).map Bn.v := by
  rw [cans_map, List.map_map, List.map_map]
  exact List.map_congr_left fun p _ => can_rpV p
theorem pureLR : ∀ w : List Rp, pureRL (w.map rpV) = true
  | [] => rfl
  | p :: r => by simp only [List.map_cons, pureRL, rpV, pureR, pureLR r, Bool.and_self]
def Fi18 (n : Nat) (v : V) (r : Option (Ex × St)) : Prop := Fin (M718 (hand T718) n) [.tmp 4, .tmp 5] r = some (.ret v)
theorem w18 (a b : List Tm) (hs : szs a ≤ 1000000) (hs' : szs b ≤ 1000000) (ho : txs a) (ho' : txs b) : SoundPure Tryz.prog 19 [Ts a, Ts b] (.ret (reO (reB a b))) := by
  have e1 := Fres_eq hs ho
  have e2 := Fres_eq hs' ho'
  have n0 : ((0 : Int) != 0) = false := rfl
  unfold reB
  by_cases q1 : errB 8 a = 0
  case neg =>
    have q1' : (errB 8 a != 0) = true := by simpa using q1
    rw [if_neg (fun h => q1 h.1)]
    have : SoundPure Tryz.prog 19 [Ts a, Ts b] (.ret (.tup [.nilS, .bool false])) := by
      refine s718 h718 1 (by simp) rfl ?_
      simp only [c718, Tryz.f19, gets, sub]
      simp only [vmr, vmw, vmp, vza, ↓reduceIte, Nat.reduceBEq, Nat.reduceLT, Nat.reduceAdd, Nat.reduceEqDiff, reduceCtorEq, vmt, vzb, vzc, vlen, vleaf, velems, oks, vst, vmd, ty, Nat.reduceLeDiff, Nat.reduceMul, Nat.reduceSub, vzr, callV_s2, m718, e1, q1']
    exact sound_imm this rfl
  rw [q1] at e1
  by_cases q2 : errB 8 b = 0
  case neg =>
    have q2' : (errB 8 b != 0) = true := by simpa using q2
    rw [if_neg (fun h => q2 h.2)]
    have : SoundPure Tryz.prog 19 [Ts a, Ts b] (.ret (.tup [.nilS, .bool false])) := by
      refine s718 h718 1 (by simp) rfl ?_
      simp only [c718, Tryz.f19, gets, sub]
      simp only [vmr, vmw, vmp, vza, ↓reduceIte, Nat.reduceBEq, Nat.reduceLT, Nat.reduceAdd, Nat.reduceEqDiff, reduceCtorEq, vmt, vzb, vzc, vlen, vleaf, velems, oks, vst, vmd, ty, Nat.reduceLeDiff, Nat.reduceMul, Nat.reduceSub, vzr, callV_s2, m718, e1, e2, n0, q2']
    exact sound_imm this rfl
  rw [q2] at e2
  rw [if_pos ⟨q1, q2⟩]
  let Po : Option (Ex × St) → Prop := fun r => ∃ v, pureR v = true ∧ can (imm v) = reO (reL [] a b) ∧ Fi18 (3 * szs a + 5) v r
  have key : Po (R (M718 (hand T718) (3 * szs a + 5)) c718 .top ⟨params 0 [Ts a, Ts b], [], fun _ => none, 0⟩) := by
    simp only [c718, Tryz.f19, gets]
    simp only [vmr, vmw, vmp, vza, ↓reduceIte, Nat.reduceBEq, Nat.reduceLT, Nat.reduceAdd, Nat.reduceEqDiff, reduceCtorEq, vmt, vzb, vzc, vlen, vleaf, velems, oks, vst, vmd, ty, Nat.reduceLeDiff, Nat.reduceMul, Nat.reduceSub, callV_s2, m718, e1, e2, newMap, n0]
    rw [callV_i (show okL.contains 48 = true by decide) (.inl rfl)]
    refine call_b (show 22 < 28 by omega) (b := (reL [] a b).isSome) (Inv := fun O' => ∀ w', reL [] a b = some w' → I18 w' O') ?_ fun L' O' c2' hL hG => ?_
    · have hI : ∀ s : St, lget s.L (18, 0) = some (4, .var [.mref ⟨0, 18, 1⟩ 2, .mref ⟨0, 18, 2⟩ 3, .nilS]) → lget s.L (18, 1) = some (2, .map []) → lget s.L (18, 2) = some (3, .map []) → I18 [] (s.heap (M718 (hand T718) (3 * szs a + 5)).E) := fun s g0 g1 g2 => ⟨⟨.nilS, (heap_ow (l := 0) rfl).trans g0, .inl ⟨rfl, rfl⟩⟩, (heap_ow (l := 0) rfl).trans g1, (heap_ow (l := 0) rfl).trans g2⟩
      have hc : ∀ (s : St) (c : Nat), lget s.L (18, 0) = some (4, .var [.mref ⟨0, 18, 1⟩ 2, .mref ⟨0, 18, 2⟩ 3, .nilS]) → lget s.L (18, 1) = some (2, .map []) → lget s.L (18, 2) = some (3, .map []) → ∃ c' O', (evF (Cx (hand T718)) (3 * szs a + 5)).fn 48 [pR, Ts a, Ts b] 1 c (s.heap (M718 (hand T718) (3 * szs a + 5)).E) = some (.ret (.bool (reL [] a b).isSome), c', O') ∧ ∀ w', reL [] a b = some w' → I18 w' O' := fun s c g0 g1 g2 => by
        obtain ⟨c', O', h1, h2, _⟩ := c41 (szs a + 1) a b [] (3 * szs a + 5) 1 c _ (by omega) ho ho' (by simp; omega) (by omega) (by omega) (hI s g0 g1 g2)
        exact ⟨c', O', h1, h2⟩
      refine hc _ _ ?_ ?_ ?_
      all_goals simp only [vmr, vmw, vmp, vza, ↓reduceIte, Nat.reduceBEq, Nat.reduceLT, Nat.reduceAdd, Nat.reduceEqDiff, reduceCtorEq, vmt, vzb, vzc, vlen, vleaf, velems, oks, vst, vmd, ty, Nat.reduceLeDiff, Nat.reduceMul, Nat.reduceSub, m718]
    · have hb : ∀ off y, off ≤ 3 → O' ⟨0, 18, off⟩ = some y → lget L' (18, off) = some y := fun off y ho hy => hL 18 off y (by
        by_cases z : off = 0
        · subst z; left; simp only [vmr, vmw, vmp, vza, ↓reduceIte, Nat.reduceBEq, Nat.reduceLT, Nat.reduceAdd, Nat.reduceEqDiff, reduceCtorEq, vmt, vzb, vzc, vlen, vleaf, velems, oks, vst, vmd, ty, Nat.reduceLeDiff, Nat.reduceMul, Nat.reduceSub, m718]
        · right
          exact ⟨4, [.mref ⟨0, 18, 1⟩ 2, .mref ⟨0, 18, 2⟩ 3, .nilS], off - 1, by simp only [vmr, vmw, vmp, vza, ↓reduceIte, Nat.reduceBEq, Nat.reduceLT, Nat.reduceAdd, Nat.reduceEqDiff, reduceCtorEq, vmt, vzb, vzc, vlen, vleaf, velems, oks, vst, vmd, ty, Nat.reduceLeDiff, Nat.reduceMul, Nat.reduceSub, m718], by omega, by simp; omega⟩) hy
      clear hL
      cases hab : reL [] a b with
      | none =>
        refine ⟨.tup [.nilS, .bool false], rfl, by rw [hab]; rfl, ?_⟩
        unfold Fi18
        simp only [vmr, vmw, vmp, vza, ↓reduceIte, Nat.reduceBEq, Nat.reduceLT, Nat.reduceAdd, Nat.reduceEqDiff, reduceCtorEq, vmt, vzb, vzc, vlen, vleaf, velems, oks, vst, vmd, ty, Nat.reduceLeDiff, Nat.reduceMul, Nat.reduceSub, vzr, m718]
      | some w =>
        obtain ⟨⟨row, i1, i2⟩, _, _⟩ := hG w hab
        have g0 := hb 0 _ (by omega) i1
        rcases i2 with ⟨rfl, rfl⟩ | ⟨vr, rfl, i5⟩
        · refine ⟨.tup [.nilS, .bool true], rfl, by rw [hab]; rfl, ?_⟩
          unfold Fi18
          simp only [vmr, vmw, vmp, vza, ↓reduceIte, Nat.reduceBEq, Nat.reduceLT, Nat.reduceAdd, Nat.reduceEqDiff, reduceCtorEq, vmt, vzb, vzc, vlen, vleaf, velems, oks, vst, vmd, ty, Nat.reduceLeDiff, Nat.reduceMul, Nat.reduceSub, vzr, m718, g0]
        · have g3 := hb 3 _ (by omega) i5
          refine ⟨.tup [.own 2 (w.map rpV), .bool true], by simp only [pureR, pureRL, pureLR, Bool.and_self], ?_, ?_⟩
          · show V.tup [can (imm (.own 2 (w.map rpV))), _] = _
            rw [show imm (.own 2 (w.map rpV)) = V.lst (w.map rpV) by simp only [imm, imms_map (e := rpV) (fun _ => rfl)]]
            show V.tup [.lst (cans (w.map rpV)), _] = _
            rw [cans_rpV, hab]
            rfl
          · unfold Fi18
            simp only [vmr, vmw, vmp, vza, ↓reduceIte, Nat.reduceBEq, Nat.reduceLT, Nat.reduceAdd, Nat.reduceEqDiff, reduceCtorEq, vmt, vzb, vzc, vlen, vleaf, velems, oks, vst, vmd, ty, Nat.reduceLeDiff, Nat.reduceMul, Nat.reduceSub, vzr, m718, g0, g3, take_len]
  obtain ⟨v, hp, hc, hk⟩ := key
  have := sound_imm (s718 h718 (3 * szs a + 5) (by simp) hp hk) hp
  rw [hc] at this
  exact this
noncomputable def F18 : List V → Option V := hF (α := List Tm × List Tm) (fun p => [Ts p.1, Ts p.2]) (fun p => szs p.1 ≤ 1000000 ∧ szs p.2 ≤ 1000000 ∧ txs p.1 ∧ txs p.2) (fun p => reO (reB p.1 p.2))
theorem F18_eq {a b : List Tm} (h1 : szs a ≤ 1000000) (h2 : szs b ≤ 1000000) (h3 : txs a) (h4 : txs b) : F18 [Ts a, Ts b] = some (reO (reB a b)) := hF_eq (a := (a, b)) (two_inj (fun _ _ => Ts_inj) (fun _ _ => Ts_inj)) (by simp only [cans, can_Ts]) ⟨h1, h2, h3, h4⟩
theorem F18_sound : ∀ args v, F18 args = some v → SoundPure Tryz.prog 19 args (.ret v) := hF_sound fun p hp => w18 p.1 p.2 hp.1 hp.2.1 hp.2.2.1 hp.2.2.2
end Go.Vi
set_option maxRecDepth 100000
set_option maxHeartbeats 1000000
namespace Go.Vi
open Go Go.Proofs
def YlG {σ : Type} (H : FuncId → Option (List V → Option V)) (n0 L : Nat) (q : Key) (ver : Nat) (ok : Tm → Prop) (Inv : σ → Bool → Heap → Prop) (step : σ → Tm → Bool × σ) : Prop :=
  ∀ n lvl x t c O, n0 ≤ n → L + 1 < lvl → ok t → Inv x true O → ∃ c' O', roundV (evF (Cx H) n) (Cx H) n q ver [tv t] lvl c O = some ((step x t).1, c', O') ∧ Inv (step x t).2 (step x t).1 O' ∧
    ∀ l sl off, L < l → l < lvl → O' ⟨l, sl, off⟩ = O ⟨l, sl, off⟩
theorem yield_atG {H : FuncId → Option (List V → Option V)} {M : Mc} {k : K} {s : St} {ops : Array Oper} {d n L : Nat} {r : List Oper} {q : Key} {ver : Nat} {args : List V} {b : Bool} {Inv : Heap → Prop} {P : Option (Ex × St) → Prop} (hM : M.call = evF (Cx H) (n + 1)) (hd : d < M.E.n)
    (hr : ∃ c' O', roundV (evF (Cx H) n) (Cx H) n q ver args (M.E.lvl + 1) s.c (s.heap M.E) = some (b, c', O') ∧ Inv O' ∧ ∀ l sl off, L < l → l < M.E.lvl + 1 → O' ⟨l, sl, off⟩ = s.heap M.E ⟨l, sl, off⟩) (hl : L < M.E.lvl)
    (h : ∀ L' O' c', (∀ sl off x, lget s.L (sl, off) = some x → lget L' (sl, off) = some x) → Inv O' → (∀ l sl off, L < l → l < M.E.lvl → O' ⟨l, sl, off⟩ = s.O ⟨l, sl, off⟩) → P (RO M ops r k ⟨tset s.τ d (.bool b), L', O', c'⟩)) :
    P (RCl M ops (some d) r k (.mref q ver) args s) := by
  obtain ⟨c', O', h1, h2, h3⟩ := hr
  rw [RCl_yield (b := b) (c' := c') (O' := O') hd (by rw [hM]; exact h1)]
  refine h _ _ _ (fun sl off x hx => ?_) h2 fun l sl off h0 hl' => ?_
  · exact back_get hx (by rw [h3 _ _ _ hl (by omega), heap_of, if_pos rfl, hx])
  · rw [h3 _ _ _ h0 (by omega), heap_of, if_neg (by omega), if_pos hl']
def BodyG {σ : Type} (L : Nat) (q : Key) (ver lvl : Nat) (ob : Obj) (O : Heap) (jf : σ → Code) (U : σ → Bool → Heap → Prop) (res : Bool × σ) (r : Option (Ex × St)) : Prop :=
  ∃ e s3, r = some (e, s3) ∧ jumpOf e = some (if res.1 then none else some (jf res.2)) ∧ s3.O q = some (ver, ob) ∧ U res.2 res.1 s3.O ∧ ∀ l sl off, L < l → l < lvl → s3.O ⟨l, sl, off⟩ = O ⟨l, sl, off⟩
theorem yields_ofG {σ : Type} {H : FuncId → Option (List V → Option V)} {n0 ver L : Nat} {q : Key} {lp : Lp} {τ : List (Nat × V)} {ps : List Nat} {ac bd : Code} {jf : σ → Code} {U : σ → Bool → Heap → Prop} {ok : Tm → Prop} {step : σ → Tm → Bool × σ} (hq : q.lvl = L)
    (hs : ps.length = 1 ∧ lp.ok.all ((Cx H).ok.contains ·) = true ∧ ps.all (· < lp.n) = true) (hU : ∀ x b O O', (∀ l sl off, l ≤ L → (⟨l, sl, off⟩ : Key) ≠ q → O' ⟨l, sl, off⟩ = O ⟨l, sl, off⟩) → U x b O → U x b O')
    (hb : ∀ n lvl x t c O, n0 ≤ n → L + 1 < lvl → ok t → U x true O → ∃ s1 : St, R (mcRd (Cx H) lp lvl n) ac .top ⟨setPs τ ps [tv t], [], O, c⟩ = some (.norm, s1) ∧ s1.O = O ∧
      ∀ O2, (∀ k, k ≠ q → O2 k = O k) → O2 q = some (ver, .loop lp τ ps ac bd .busy none) → BodyG L q ver lvl (.loop lp τ ps ac bd .busy none) O2 jf U (step x t) (R (mcRd (Cx H) lp lvl n) bd .top ⟨s1.τ, s1.L, O2, s1.c⟩)) :
    YlG H n0 L q ver ok (InvL q ver lp τ ps ac bd jf U) step := by
  intro n lvl x t c O hn hlv hok ⟨h1, h2⟩
  obtain ⟨s1, r1, e1, hb⟩ := hb n lvl x t c O hn hlv hok h2
  obtain ⟨e, s3, r3, hj, hq3, hU3, hS⟩ := hb (oput O q (ver, .loop lp τ ps ac bd .busy none)) (fun k hk => by rw [oput_get, if_neg hk]) (by rw [oput_get, if_pos rfl])
  have hlt : q.lvl < lvl := by omega
  obtain ⟨ql, qs, qo⟩ := q
  dsimp only at hq hlt
  subst hq
  have hne : ∀ l sl off, ql < l → ¬ (⟨l, sl, off⟩ : Key) = ⟨ql, qs, qo⟩ := fun l sl off h0 h => by injection h; omega
  have hL : ql < (envLp (Cx H).P lp lvl).lvl := hlt
  have s2 : setLoop (envLp (Cx H).P lp lvl) ⟨ql, qs, qo⟩ ver .ready .busy none s1 = some ⟨s1.τ, s1.L, oput O ⟨ql, qs, qo⟩ (ver, .loop lp τ ps ac bd .busy none), s1.c⟩ := by
    unfold setLoop
    rw [obj_lo hL, e1, h1]
    simp only [ob, if_true]
    rw [put_lo hL, e1]
    rfl
  have s4 : setLoop (envLp (Cx H).P lp lvl) ⟨ql, qs, qo⟩ ver .busy (if (if (step x t).1 then none else some (jf (step x t).2)).isNone then .ready else .done) (some (if (step x t).1 then none else some (jf (step x t).2))) s3 = some ⟨s3.τ, s3.L, oput s3.O ⟨ql, qs, qo⟩ (ver, .loop lp τ ps ac bd (if (step x t).1 then .ready else .done) (if (step x t).1 then none else some (jf (step x t).2))), s3.c⟩ := by
    unfold setLoop
    rw [obj_lo hL, hq3]
    simp only [ob, if_true]
    rw [put_lo hL]
    cases (step x t).1 <;> rfl
  have hR := round_of (call := evF (Cx H) n) (C := Cx H) (n := n) (args := [tv t]) (lvl := lvl) (c := c) h1 ⟨hs.1.symm, hlt, hs.2.1, hs.2.2⟩ r1 s2 r3 hj s4
  rw [show (if (step x t).1 = true then none else some (jf (step x t).2)).isNone = (step x t).1 by cases (step x t).1 <;> rfl] at hR
  refine ⟨_, _, hR, ?_, ?_⟩
  · refine ⟨?_, hU _ _ s3.O _ (fun l sl off hl hk => ?_) hU3⟩
    · dsimp only; rw [lower_get, if_pos hlt, oput_get, if_pos rfl]
    · dsimp only; rw [lower_get, if_pos (by omega), oput_get, if_neg hk]
  · intro l sl off h0 hl
    dsimp only
    rw [lower_get, if_pos hl, oput_get, if_neg (hne _ _ _ h0), hS l sl off h0 hl, oput_get, if_neg (hne _ _ _ h0)]
theorem range_G {M : Mc} {k : K} {s : St} {f : Operand} {ps : Array Nat} {ac bd : Code} {g : FuncId} {caps : List V} {b : Bool} {j : Code} {e : Ex} {Inv : Heap → Prop} {P : Option (Ex × St) → Prop} (hf : evalO s f = .fn (.func g) [] caps) (hk : M.E.ok.contains g = true) (hi : M.E.inr = false)
    (hc : ∃ c' O', M.call.fn g ([] ++ [.mref (loopKey M.E) s.c] ++ caps) (M.E.lvl + 1) (s.c + 1) (heapOf M.E.lvl (lput s.L (M.E.n + 1, 0) (s.c, .loop (lpOf M.E) s.τ ps.toList ac bd .ready none)) s.O) = some (.ret (.tup []), c', O') ∧
      O' (loopKey M.E) = some (s.c, .loop (lpOf M.E) s.τ ps.toList ac bd (if b then .ready else .done) (if b then none else some j)) ∧ Inv O') (hj : jumpEx (if b then none else some j) = some e)
    (h : ∀ s' : St, s'.τ = s.τ → Inv s'.O → (∀ sl off y, sl ≠ M.E.n + 1 → ((lget s.L (sl, off)).isSome = true ∨ ∃ v cs j, lget s.L (sl, 0) = some (v, .var cs) ∧ off = j + 1 ∧ j < cs.length) → s'.O ⟨M.E.lvl, sl, off⟩ = some y → lget s'.L (sl, off) = some y) → P (X M e k s')) :
    P (R M (.rangeFunc f ps ac bd) k s) := by
  obtain ⟨c', O', hcall, hO1, hO2⟩ := hc
  have hkey : loopKey M.E = ⟨M.E.lvl, M.E.n + 1, 0⟩ := rfl
  rw [R_range (g := g) (first := []) (c' := c') (O' := O') hf hk hi hcall hO1 (by cases b <;> simp) hj]
  refine h _ (by rw [hkey, del_s rfl]; rfl) (by rw [hkey, del_s rfl]; exact hO2) (fun sl off y hs hx hy => ?_)
  rw [hkey, del_s rfl] at hy ⊢
  have hb : lget (back M.E ⟨s.τ, lput s.L (M.E.n + 1, 0) (s.c, .loop (lpOf M.E) s.τ ps.toList ac bd .ready none), s.O, s.c + 1⟩ c' O').L (sl, off) = some y := by
    refine mergeL_get _ _ _ _ (.inl ?_) hy
    rcases hx with hx | ⟨v, cs, j, hx, rfl, hj⟩
    · obtain ⟨z, hx⟩ := Option.isSome_iff_exists.1 hx
      exact keysOf_mem _ _ z (by show lget (lput s.L (M.E.n + 1, 0) _) (sl, off) = some z; rw [lget_lput, if_neg (by simp [hs]), hx])
    · have := keysOf_var (lput s.L (M.E.n + 1, 0) (s.c, .loop (lpOf M.E) s.τ ps.toList ac bd .ready none)) (sl, 0) v cs (by rw [lget_lput, if_neg (by simp [hs]), hx]) j hj
      rwa [Nat.zero_add] at this
  show lget (ldel _ (M.E.n + 1, 0)) (sl, off) = some y
  rw [lget_ldel, if_neg (by simp [hs])]
  exact hb
end Go.Vi
set_option maxRecDepth 100000
set_option maxHeartbeats 1000000
namespace Go.Vi
open Go Go.Proofs
theorem w51 (a : List Tm) : SoundPure Tryz.prog 36 [Ts a] (.ret (.fn (.func 66) [] [.iptr [Ts a]])) := by
  refine s751 (H := []) sound_nil 1 (by simp) rfl ?_
  simp only [c751, Tryz.f36, gets, sub]
  simp only [vmr, vmw, vmp, vza, ↓reduceIte, Nat.reduceBEq, Nat.reduceLT, Nat.reduceAdd, Nat.reduceEqDiff, reduceCtorEq, vmt, vzb, vzc, vlen, vleaf, velems, oks, vst, vmd, ty, Nat.reduceLeDiff, Nat.reduceMul, Nat.reduceSub, vzr, m751]
noncomputable def F51 : List V → Option V := hF (α := List Tm) (fun p => [Ts p]) (fun _ => True) (fun p => .fn (.func 66) [] [.iptr [Ts p]])
theorem F51_eq (a : List Tm) : F51 [Ts a] = some (.fn (.func 66) [] [.iptr [Ts a]]) := hF_eq (a := a) (one_inj' fun _ _ => Ts_inj) (by simp only [cans, can_Ts]) trivial
theorem F51_sound : ∀ args v, F51 args = some v → SoundPure Tryz.prog 36 args (.ret v) := hF_sound fun p _ => w51 p
def vS {σ : Type} (step : σ → Tm → Bool × σ) (x : σ) : Tm → Bool × σ
  | .mk k s c => if isV k = true then step x (.mk k s c) else (true, x)
noncomputable abbrev A81 (H : FuncId → Option (List V → Option V)) (lvl n : Nat) : Mc := mcAt (Cx H) 66 Tryz.f66 lvl n
theorem a81 (H lvl n) : (A81 H lvl n).E.keep = [0, 1, 2, 4, 5, 6, 7, 8, 9, 19, 22, 23, 27] ∧ (A81 H lvl n).E.cnd = [9, 19, 27] ∧ (A81 H lvl n).E.frz = [] ∧ (A81 H lvl n).E.pro = [] ∧ (A81 H lvl n).E.imp = [] ∧ (A81 H lvl n).E.n = 29 ∧ (A81 H lvl n).E.lvl = lvl ∧ (A81 H lvl n).E.P = Tryz.prog ∧ (A81 H lvl n).fuel = n ∧ (A81 H lvl n).C = H ∧ (A81 H lvl n).E.ok = okL := ⟨rfl, rfl, rfl, rfl, rfl, rfl, rfl, rfl, rfl, rfl, rfl⟩
noncomputable abbrev B81 (H : FuncId → Option (List V → Option V)) (lvl n : Nat) : Mc := mcRd (Cx H) (lpOf (A81 H 0 0).E) lvl n
theorem b81 (H lvl n) : (B81 H lvl n).E.keep = [0, 1, 2, 4, 5, 6, 7, 8, 9, 19, 22, 23, 27] ∧ (B81 H lvl n).E.cnd = [9, 19, 27] ∧ (B81 H lvl n).E.frz = [] ∧ (B81 H lvl n).E.pro = [] ∧ (B81 H lvl n).E.imp = [] ∧ (B81 H lvl n).E.n = 29 ∧ (B81 H lvl n).E.lvl = lvl ∧ (B81 H lvl n).E.P = Tryz.prog ∧ (B81 H lvl n).fuel = n ∧ (B81 H lvl n).C = H ∧ (B81 H lvl n).E.ok = okL := ⟨rfl, rfl, rfl, rfl, rfl, rfl, rfl, rfl, rfl, rfl, rfl⟩
noncomputable abbrev as81 : Code := (rfA (sub [1, 1, 0, 0, 1, 1, 0, 0, 1, 1, 1, 0] c781)).1
noncomputable abbrev bd81 : Code := (rfA (sub [1, 1, 0, 0, 1, 1, 0, 0, 1, 1, 1, 0] c781)).2
def LocI {σ : Type} (L : Nat) (Inv : σ → Bool → Heap → Prop) : Prop := ∀ x b O O', (∀ l sl off, l ≤ L → O' ⟨l, sl, off⟩ = O ⟨l, sl, off⟩) → Inv x b O → Inv x b O'
def U81 {σ : Type} (L lvl v2 : Nat) (q : Key) (ver : Nat) (Inv : σ → Bool → Heap → Prop) (O0 : Heap) (x : σ) (b : Bool) (O : Heap) : Prop :=
  O ⟨lvl, 2, 0⟩ = some (v2, .var [.mref q ver]) ∧ Inv x b O ∧ ∀ l sl off, L < l → l < lvl → O ⟨l, sl, off⟩ = O0 ⟨l, sl, off⟩
theorem y81 {σ : Type} {H : FuncId → Option (List V → Option V)} {n0 L lvl v2 ver ver' : Nat} {q : Key} {ok : Tm → Prop} {Inv : σ → Bool → Heap → Prop} {step : σ → Tm → Bool × σ} {O0 : Heap} {τ : List (Nat × V)} (hL : L < lvl) (hY : YlG H n0 L q ver ok Inv step) (hI : LocI L Inv) (h2 : tget τ 2 = .ptr ⟨lvl, 2, 0⟩ v2 0 0) :
    YlG H (n0 + 1) lvl ⟨lvl, 30, 0⟩ ver' ok (InvL ⟨lvl, 30, 0⟩ ver' (lpOf (A81 H 0 0).E) τ [23] as81 bd81 (fun _ => .ret) (U81 L lvl v2 q ver Inv O0)) step := by
  refine yields_ofG rfl ⟨rfl, (show (okL.all fun x => okL.contains x) = true by decide), (show ([23].all fun x => decide (x < 29)) = true by decide)⟩ (fun x b O O' e ⟨u1, u2, u3⟩ => ⟨(e lvl 2 0 (Nat.le_refl _) (by simp)).trans u1, hI _ _ _ _ (fun l sl off hl => e l sl off (by omega) (by simp; omega)) u2, fun l sl off h0 h1 => (e l sl off (by omega) (by simp; omega)).trans (u3 l sl off h0 h1)⟩) ?_
  intro n lvl' x t c O hn hlv hok ⟨u1, u2, u3⟩
  obtain ⟨n, rfl⟩ : ∃ n', n = n' + 1 := ⟨n - 1, by omega⟩
  have lv1 := eq_true (show lvl < lvl' by omega)
  obtain ⟨k1, s1, c1⟩ := t
  have hyy := fun c O hO => hY n (lvl' + 1) x (.mk k1 s1 c1) c O (by omega) (by omega) hok hO
  simp only [tv_mk] at hyy ⊢
  have hA : ∃ s : St, R (mcRd (Cx H) (lpOf (A81 H 0 0).E) lvl' (n + 1)) as81 .top ⟨setPs τ [23] [.agg [I k1, .str s1, Ts c1]], [], O, c⟩ = some (.norm, s) ∧ s.O = O ∧ tget s.τ 2 = .ptr ⟨lvl, 2, 0⟩ v2 0 0 ∧ tget s.τ 5 = .ptr ⟨lvl', 5, 0⟩ c 0 0 ∧ lget s.L (5, 0) = some (c, .var [I k1, .str s1, Ts c1]) := by
    simp only [as81, rfA, sub, c781, Tryz.f66, gets]
    change ∃ s : St, R (B81 H lvl' (n + 1)) _ _ _ = _ ∧ _
    simp only [vmr, vmw, vmp, vza, ↓reduceIte, Nat.reduceBEq, Nat.reduceLT, Nat.reduceAdd, Nat.reduceEqDiff, reduceCtorEq, vmt, vzb, vzc, vlen, vleaf, velems, oks, vst, vmd, ty, Nat.reduceLeDiff, Nat.reduceMul, Nat.reduceSub, b81, setPs, X_top]
    refine ⟨_, rfl, rfl, ?_, ?_, ?_⟩
    all_goals simp only [vmr, vmw, vmp, vza, ↓reduceIte, Nat.reduceBEq, Nat.reduceLT, Nat.reduceAdd, Nat.reduceEqDiff, reduceCtorEq, vmt, vzb, vzc, vlen, vleaf, velems, oks, vst, vmd, ty, Nat.reduceLeDiff, Nat.reduceMul, Nat.reduceSub, b81, h2]
  obtain ⟨s, hr, hO, t2, t5, l5⟩ := hA
  refine ⟨s, hr, hO, fun O2 ho hq => ?_⟩
  have g1 := (ho ⟨lvl, 2, 0⟩ (by simp)).trans u1
  generalize Obj.loop (lpOf (A81 H 0 0).E) τ [23] as81 bd81 .busy none = ob at hq ⊢
  simp only [bd81, rfA, sub, c781, Tryz.f66, gets]
  change BodyG _ _ _ _ _ _ _ _ _ (R (B81 H lvl' (n + 1)) _ _ _)
  simp only [vmr, vmw, vmp, vza, ↓reduceIte, Nat.reduceBEq, Nat.reduceLT, Nat.reduceAdd, Nat.reduceEqDiff, reduceCtorEq, vmt, vzb, vzc, vlen, vleaf, velems, oks, vst, vmd, ty, Nat.reduceLeDiff, Nat.reduceMul, Nat.reduceSub, b81, t2, t5, l5, g1, obj_lo, lv1]
  refine yield_atG (L := L) rfl (show 26 < 29 by omega) (hyy _ _ (hI _ _ O _ (fun l sl off hl => ?_) u2)) (show L < lvl' by omega) fun L' O3 c3 hL3 hi3 ho3 => ?_
  · rw [heap_lw (m := lvl') rfl (by omega)]
    exact ho _ (by simp; omega)
  · have q3 : O3 ⟨lvl, 30, 0⟩ = some (ver', ob) := (ho3 lvl 30 0 hL (show lvl < lvl' by omega)).trans hq
    have q4 : O3 ⟨lvl, 2, 0⟩ = some (v2, .var [.mref q ver]) := (ho3 lvl 2 0 hL (show lvl < lvl' by omega)).trans g1
    have q5 : ∀ l sl off, L < l → l < lvl → O3 ⟨l, sl, off⟩ = O0 ⟨l, sl, off⟩ := fun l sl off h0 h1 => ((ho3 l sl off h0 (show l < lvl' by omega)).trans (ho _ (by simp; omega))).trans (u3 l sl off h0 h1)
    have q6 : ∀ l sl off, lvl < l → l < lvl' → O3 ⟨l, sl, off⟩ = O2 ⟨l, sl, off⟩ := fun l sl off h0 h1 => ho3 l sl off (by omega) h1
    clear hL3 ho3 hyy
    cases hb : (step x (.mk k1 s1 c1)).1 with
    | false =>
      rw [hb] at hi3
      simp only [vmr, vmw, vmp, vza, ↓reduceIte, Nat.reduceBEq, Nat.reduceLT, Nat.reduceAdd, Nat.reduceEqDiff, reduceCtorEq, vmt, vzb, vzc, vlen, vleaf, velems, oks, vst, vmd, ty, Nat.reduceLeDiff, Nat.reduceMul, Nat.reduceSub, b81, X_top]
      exact ⟨_, _, rfl, by rw [hb]; rfl, q3, ⟨q4, by rw [hb]; exact hi3, q5⟩, q6⟩
    | true =>
      rw [hb] at hi3
      simp only [vmr, vmw, vmp, vza, ↓reduceIte, Nat.reduceBEq, Nat.reduceLT, Nat.reduceAdd, Nat.reduceEqDiff, reduceCtorEq, vmt, vzb, vzc, vlen, vleaf, velems, oks, vst, vmd, ty, Nat.reduceLeDiff, Nat.reduceMul, Nat.reduceSub, b81, X_top]
      exact ⟨_, _, rfl, by rw [hb]; rfl, q3, ⟨q4, by rw [hb]; exact hi3, q5⟩, q6⟩
def Q81 {σ : Type} (L : Nat) (Inv : σ → Bool → Heap → Prop) (lvl : Nat) (O : Heap) (res : Bool × σ) (r : Option (Ex × St)) : Prop :=
  ∃ e s', r = some (e, s') ∧ (e = .norm ∨ e = .ret) ∧ Inv res.2 res.1 s'.O ∧ ∀ l sl off, L < l → l < lvl → s'.O ⟨l, sl, off⟩ = O ⟨l, sl, off⟩
def C81 {σ : Type} (H : FuncId → Option (List V → Option V)) (ok : Tm → Prop) (step : σ → Tm → Bool × σ) (m : Nat) : Prop :=
  ∀ (a : List Tm) (n0 L : Nat) (q : Key) (ver : Nat) (Inv : σ → Bool → Heap → Prop) (n lvl c : Nat) (O : Heap) (x : σ), szs a < m → szs a ≤ 1000000 → (∀ t ∈ a, ok t) → q.lvl = L → YlG H n0 L q ver ok Inv step → LocI L Inv → n0 + 3 * szs a + 5 ≤ n → L < lvl → Inv x true O →
    ∃ c' O', (evF (Cx H) n).fn 66 [.mref q ver, .iptr [Ts a]] lvl c O = some (.ret (.tup []), c', O') ∧ Inv (visL (vS step) x a).2 (visL (vS step) x a).1 O' ∧ ∀ l sl off, L < l → l < lvl → O' ⟨l, sl, off⟩ = O ⟨l, sl, off⟩
theorem r81 {σ : Type} {H : FuncId → Option (List V → Option V)} {ok : Tm → Prop} {step : σ → Tm → Bool × σ} {m : Nat} (IH : C81 H ok step m)
    {n0 L lvl v2 ver n : Nat} {k : K} {q : Key} {Inv : σ → Bool → Heap → Prop} {O : Heap} (hY : YlG H n0 L q ver ok Inv step) (hI : LocI L Inv) (hL : L < lvl) {c1 : List Tm} (hc1 : szs c1 < m) (hcb : szs c1 ≤ 1000000) (hco : ∀ t ∈ c1, ok t) (hn : n0 + 3 * szs c1 + 5 ≤ n) {P : Option (Ex × St) → Prop} {s : St} {x1 : σ}
    (h2 : tget s.τ 2 = .ptr ⟨lvl, 2, 0⟩ v2 0 0) (h2' : lget s.L (2, 0) = some (v2, .var [.mref q ver])) (h22 : tget s.τ 22 = .fn (.func 66) [] [.iptr [Ts c1]]) (hinv : Inv x1 true s.O) (hS : ∀ l sl off, L < l → l < lvl → s.O ⟨l, sl, off⟩ = O ⟨l, sl, off⟩)
    (hx : ∀ s' : St, s'.τ = s.τ → lget s'.L (2, 0) = some (v2, .var [.mref q ver]) → Inv (visL (vS step) x1 c1).2 (visL (vS step) x1 c1).1 s'.O → (∀ l sl off, L < l → l < lvl → s'.O ⟨l, sl, off⟩ = O ⟨l, sl, off⟩) → P (X (A81 H lvl (n + 1)) (if (visL (vS step) x1 c1).1 = true then .norm else .ret) k s')) :
    P (R (A81 H lvl (n + 1)) (.rangeFunc (.tmp 22) #[23] as81 bd81) k s) := by
  have hyy := y81 (ver' := s.c) (O0 := O) hL hY hI h2
  have hloc : LocI lvl (InvL (⟨lvl, 30, 0⟩ : Key) s.c (lpOf (A81 H 0 0).E) s.τ [23] as81 bd81 (fun _ => .ret) (U81 L lvl v2 q ver Inv O)) := fun x b O O' e ⟨u0, u1, u2, u3⟩ =>
    ⟨(e lvl 30 0 (Nat.le_refl _)).trans u0, (e lvl 2 0 (Nat.le_refl _)).trans u1, hI _ _ _ _ (fun l sl off hl => e l sl off (by omega)) u2, fun l sl off h0 h1 => (e l sl off (by omega)).trans (u3 l sl off h0 h1)⟩
  have hin : InvL (⟨lvl, 30, 0⟩ : Key) s.c (lpOf (A81 H 0 0).E) s.τ [23] as81 bd81 (fun _ => .ret) (U81 L lvl v2 q ver Inv O) x1 true (heapOf lvl (lput s.L (30, 0) (s.c, .loop (lpOf (A81 H 0 0).E) s.τ [23] as81 bd81 .ready none)) s.O) := by
    refine ⟨?_, ?_, hI _ _ _ _ (fun l sl off hl => ?_) hinv, fun l sl off h0 h1 => ?_⟩
    · rw [heapOf_get, if_pos rfl, lget_lput, if_pos rfl]; rfl
    · rw [heapOf_get, if_pos rfl, lget_lput, if_neg (by simp), h2']
    · rw [heapOf_get, if_neg (by omega), if_pos (by omega)]
    · rw [heapOf_get, if_neg (by omega), if_pos h1]; exact hS l sl off h0 h1
  obtain ⟨c', O', q1, ⟨q2, q3⟩, _⟩ := IH c1 (n0 + 1) lvl ⟨lvl, 30, 0⟩ s.c _ (n + 1) (lvl + 1) (s.c + 1) _ x1 hc1 hcb hco rfl hyy hloc (by omega) (by omega) hin
  refine range_G (M := A81 H lvl (n + 1)) (g := 66) (caps := [.iptr [Ts c1]]) (b := (visL (vS step) x1 c1).1) (j := .ret) (e := if (visL (vS step) x1 c1).1 = true then .norm else .ret) (Inv := U81 L lvl v2 q ver Inv O (visL (vS step) x1 c1).2 (visL (vS step) x1 c1).1) h22 (show okL.contains 66 = true by decide) rfl ⟨c', O', q1, q2, q3⟩ (by cases (visL (vS step) x1 c1).1 <;> rfl) fun s' e ⟨u1, u2, u3⟩ hl => ?_
  exact hx s' e (hl 2 0 _ (by show 2 ≠ 30; omega) (.inl (by rw [h2']; rfl)) u1) u2 u3
theorem l81 {σ : Type} {H : FuncId → Option (List V → Option V)} (h25 : H 67 = some FisV) (h51 : H 36 = some F51) {ok : Tm → Prop} {step : σ → Tm → Bool × σ} (hok : ∀ k s c, ok (.mk k s c) → s.length ≤ 1000000000000000 ∧ ∀ u ∈ c, ok u) {m : Nat} (IH : C81 H ok step m)
    {n0 L lvl v2 ver n : Nat} {k : K} {q : Key} {Inv : σ → Bool → Heap → Prop} {O : Heap} (hq : q.lvl = L) (hY : YlG H n0 L q ver ok Inv step) (hI : LocI L Inv) (hL : L < lvl) (a : List Tm) (ha : szs a ≤ 1000000) (ham : szs a < m + 1) (hao : ∀ t ∈ a, ok t) (hn : n0 + 3 * szs a + 3 ≤ n) {res : Bool × σ} :
    ∀ r i x n' s, a.drop i = r → r.length < n' → tget s.τ 2 = .ptr ⟨lvl, 2, 0⟩ v2 0 0 → lget s.L (2, 0) = some (v2, .var [.mref q ver]) → tget s.τ 6 = Ts a → tget s.τ 7 = I a.length → tget s.τ 8 = I (i : Nat) → Inv x true s.O → (∀ l sl off, L < l → l < lvl → s.O ⟨l, sl, off⟩ = O ⟨l, sl, off⟩) →
    visL (vS step) x r = res → (∀ s' x', res = (true, x') → Inv x' true s'.O → (∀ l sl off, L < l → l < lvl → s'.O ⟨l, sl, off⟩ = O ⟨l, sl, off⟩) → Q81 L Inv lvl O res (X (A81 H lvl (n + 1)) (.exit 0) k s')) →
    (∀ s', Inv res.2 res.1 s'.O → (∀ l sl off, L < l → l < lvl → s'.O ⟨l, sl, off⟩ = O ⟨l, sl, off⟩) → Q81 L Inv lvl O res (some (.ret, s'))) →
    Q81 L Inv lvl O res (Go.Vi.L (A81 H lvl (n + 1)) (sub [1, 1, 0, 0] c781) n' k s)
  | [], i, x, n' + 1, s, hi, hn', h2, h2', h6, h7, h8, hinv, hS, hres, hx, hf => by
    have hc := inlt (drop_nil' hi)
    rw [L_succ]
    simp only [vmr, vmw, vmp, vza, ↓reduceIte, Nat.reduceBEq, Nat.reduceLT, Nat.reduceAdd, Nat.reduceEqDiff, reduceCtorEq, vmt, vzb, vzc, vlen, vleaf, velems, oks, vst, vmd, ty, Nat.reduceLeDiff, Nat.reduceMul, Nat.reduceSub, c781, Tryz.f66, a81, h6, h7, h8, hc]
    exact hx _ x hres.symm hinv hS
  | .mk k1 s1 c1 :: r, i, x, n' + 1, s, hi, hn', h2, h2', h6, h7, h8, hinv, hS, hres, hx, hf => by
    obtain ⟨g1, g2, g3⟩ := drop_cons hi
    have hcl := ilt g3
    have ga : (a.map tv)[i]? = some (.agg [I k1, .str s1, Ts c1]) := by rw [List.getElem?_map, g1, Option.map_some, tv_mk]
    have hsz := szs_mem (l := a) (List.mem_of_getElem? g1)
    have hok1 := hao _ (List.mem_of_getElem? g1)
    have hlen := szs_len a
    have w4 := wsuc g3 (by omega)
    obtain ⟨hs1, hok2⟩ := hok _ _ _ hok1
    have e := Ftm_eq (f := fun k _ => .bool (isV k)) k1 c1 hs1
    have e2 := F51_eq c1
    have ih := fun x s => l81 (k := k) (v2 := v2) (O := O) h25 h51 hok IH hq hY hI hL a ha ham hao hn (res := res) r (i + 1) x n' s g2 (by simp at hn'; omega)
    have r1 := fun x1 s k => r81 (v2 := v2) (n := n) (k := k) (O := O) (P := Q81 L Inv lvl O res) (s := s) (x1 := x1) IH hY hI hL (c1 := c1) (by omega) (by omega) hok2 (by omega)
    simp only [as81, bd81, rfA, sub, c781, Tryz.f66, gets] at r1 ih
    simp only [visL, visT, vS] at hres
    rw [L_succ]
    cases hv : isV k1 with
    | false =>
      rw [hv] at e hres
      simp only [Bool.false_eq_true, if_false] at hres
      simp only [vmr, vmw, vmp, vza, ↓reduceIte, Nat.reduceBEq, Nat.reduceLT, Nat.reduceAdd, Nat.reduceEqDiff, reduceCtorEq, vmt, vzb, vzc, vlen, vleaf, velems, oks, vst, vmd, ty, Nat.reduceLeDiff, Nat.reduceMul, Nat.reduceSub, callV_s2, c781, Tryz.f66, a81, h25, h51, h2, h2', h6, h7, h8, hcl, ga, e, e2]
      refine r1 x _ _ ?_ ?_ ?_ ?_ ?_ fun s' e' l2 hi2 hS2 => ?_
      case refine_6 =>
        generalize visL (vS step) x c1 = p at hres hi2 ⊢
        obtain ⟨b1, y1⟩ := p
        cases b1 with
        | false =>
          dsimp only at hres hi2
          subst hres
          simp only [vmr, vmw, vmp, vza, ↓reduceIte, Nat.reduceBEq, Nat.reduceLT, Nat.reduceAdd, Nat.reduceEqDiff, reduceCtorEq, vmt, vzb, vzc, vlen, vleaf, velems, oks, vst, vmd, ty, Nat.reduceLeDiff, Nat.reduceMul, Nat.reduceSub, a81, X_ret]
          exact hf _ hi2 hS2
        | true =>
          dsimp only at hres hi2
          simp only [vmr, vmw, vmp, vza, ↓reduceIte, Nat.reduceBEq, Nat.reduceLT, Nat.reduceAdd, Nat.reduceEqDiff, reduceCtorEq, vmt, vzb, vzc, vlen, vleaf, velems, oks, vst, vmd, ty, Nat.reduceLeDiff, Nat.reduceMul, Nat.reduceSub, a81, e', h8, w4]
          refine ih y1 _ ?_ ?_ ?_ ?_ ?_ ?_ ?_ hres hx hf
          case refine_6 => simp only [vmr, vmw, vmp, vza, ↓reduceIte, Nat.reduceBEq, Nat.reduceLT, Nat.reduceAdd, Nat.reduceEqDiff, reduceCtorEq, vmt, vzb, vzc, vlen, vleaf, velems, oks, vst, vmd, ty, Nat.reduceLeDiff, Nat.reduceMul, Nat.reduceSub, a81]; exact hi2
          case refine_7 => simp only [vmr, vmw, vmp, vza, ↓reduceIte, Nat.reduceBEq, Nat.reduceLT, Nat.reduceAdd, Nat.reduceEqDiff, reduceCtorEq, vmt, vzb, vzc, vlen, vleaf, velems, oks, vst, vmd, ty, Nat.reduceLeDiff, Nat.reduceMul, Nat.reduceSub, a81]; exact hS2
          all_goals simp only [vmr, vmw, vmp, vza, ↓reduceIte, Nat.reduceBEq, Nat.reduceLT, Nat.reduceAdd, Nat.reduceEqDiff, reduceCtorEq, vmt, vzb, vzc, vlen, vleaf, velems, oks, vst, vmd, ty, Nat.reduceLeDiff, Nat.reduceMul, Nat.reduceSub, a81, e', h2, l2, h6, h7]
      case refine_4 => simp only [vmr, vmw, vmp, vza, ↓reduceIte, Nat.reduceBEq, Nat.reduceLT, Nat.reduceAdd, Nat.reduceEqDiff, reduceCtorEq, vmt, vzb, vzc, vlen, vleaf, velems, oks, vst, vmd, ty, Nat.reduceLeDiff, Nat.reduceMul, Nat.reduceSub, a81]; exact hinv
      case refine_5 => simp only [vmr, vmw, vmp, vza, ↓reduceIte, Nat.reduceBEq, Nat.reduceLT, Nat.reduceAdd, Nat.reduceEqDiff, reduceCtorEq, vmt, vzb, vzc, vlen, vleaf, velems, oks, vst, vmd, ty, Nat.reduceLeDiff, Nat.reduceMul, Nat.reduceSub, a81]; exact hS
      all_goals simp only [vmr, vmw, vmp, vza, ↓reduceIte, Nat.reduceBEq, Nat.reduceLT, Nat.reduceAdd, Nat.reduceEqDiff, reduceCtorEq, vmt, vzb, vzc, vlen, vleaf, velems, oks, vst, vmd, ty, Nat.reduceLeDiff, Nat.reduceMul, Nat.reduceSub, a81, h2, h2']
    | true =>
      rw [hv] at e hres
      simp only [if_true] at hres
      have hyy := fun c O hO => hY (n) (lvl + 1) x (.mk k1 s1 c1) c O (by omega) (by omega) hok1 hO
      simp only [tv_mk] at hyy
      simp only [vmr, vmw, vmp, vza, ↓reduceIte, Nat.reduceBEq, Nat.reduceLT, Nat.reduceAdd, Nat.reduceEqDiff, reduceCtorEq, vmt, vzb, vzc, vlen, vleaf, velems, oks, vst, vmd, ty, Nat.reduceLeDiff, Nat.reduceMul, Nat.reduceSub, callV_s2, c781, Tryz.f66, a81, h25, h51, h2, h2', h6, h7, h8, hcl, ga, e, e2]
      refine yield_atG (L := L) rfl (show 17 < 29 by omega) (hyy _ _ (hI _ _ s.O _ (fun l sl off hl => ?_) hinv)) hL fun L' O3 c3 hL3 hi3 ho3 => ?_
      · rw [heap_lw (m := lvl) rfl (by omega)]
      have hS3 : ∀ l sl off, L < l → l < lvl → O3 ⟨l, sl, off⟩ = O ⟨l, sl, off⟩ := fun l sl off h0 h1 => (ho3 l sl off h0 h1).trans (hS l sl off h0 h1)
      have l2 := hL3 2 0 (v2, .var [.mref q ver]) (by simp only [vmr, vmw, vmp, vza, ↓reduceIte, Nat.reduceBEq, Nat.reduceLT, Nat.reduceAdd, Nat.reduceEqDiff, reduceCtorEq, vmt, vzb, vzc, vlen, vleaf, velems, oks, vst, vmd, ty, Nat.reduceLeDiff, Nat.reduceMul, Nat.reduceSub, a81, h2'])
      have l4 := hL3 4 0 (s.c, .var [I k1, .str s1, Ts c1]) (by simp only [vmr, vmw, vmp, vza, ↓reduceIte, Nat.reduceBEq, Nat.reduceLT, Nat.reduceAdd, Nat.reduceEqDiff, reduceCtorEq, vmt, vzb, vzc, vlen, vleaf, velems, oks, vst, vmd, ty, Nat.reduceLeDiff, Nat.reduceMul, Nat.reduceSub, a81])
      clear hL3 ho3 hyy
      generalize step x (.mk k1 s1 c1) = st at hres hi3 ⊢
      obtain ⟨b0, x0⟩ := st
      cases b0 with
      | false =>
        dsimp only at hres hi3
        subst hres
        simp only [vmr, vmw, vmp, vza, ↓reduceIte, Nat.reduceBEq, Nat.reduceLT, Nat.reduceAdd, Nat.reduceEqDiff, reduceCtorEq, vmt, vzb, vzc, vlen, vleaf, velems, oks, vst, vmd, ty, Nat.reduceLeDiff, Nat.reduceMul, Nat.reduceSub, a81, h25, h51, e]
        exact hf _ hi3 hS3
      | true =>
        dsimp only at hres hi3
        simp only [vmr, vmw, vmp, vza, ↓reduceIte, Nat.reduceBEq, Nat.reduceLT, Nat.reduceAdd, Nat.reduceEqDiff, reduceCtorEq, vmt, vzb, vzc, vlen, vleaf, velems, oks, vst, vmd, ty, Nat.reduceLeDiff, Nat.reduceMul, Nat.reduceSub, callV_s2, a81, h25, h51, h2, h6, h7, h8, l2, l4, e, e2]
        refine r1 x0 _ _ ?_ ?_ ?_ ?_ ?_ fun s' e' l2' hi2 hS2 => ?_
        case refine_6 =>
          generalize visL (vS step) x0 c1 = p at hres hi2 ⊢
          obtain ⟨b1, y1⟩ := p
          cases b1 with
          | false =>
            dsimp only at hres hi2
            subst hres
            simp only [vmr, vmw, vmp, vza, ↓reduceIte, Nat.reduceBEq, Nat.reduceLT, Nat.reduceAdd, Nat.reduceEqDiff, reduceCtorEq, vmt, vzb, vzc, vlen, vleaf, velems, oks, vst, vmd, ty, Nat.reduceLeDiff, Nat.reduceMul, Nat.reduceSub, a81, X_ret]
            exact hf _ hi2 hS2
          | true =>
            dsimp only at hres hi2
            simp only [vmr, vmw, vmp, vza, ↓reduceIte, Nat.reduceBEq, Nat.reduceLT, Nat.reduceAdd, Nat.reduceEqDiff, reduceCtorEq, vmt, vzb, vzc, vlen, vleaf, velems, oks, vst, vmd, ty, Nat.reduceLeDiff, Nat.reduceMul, Nat.reduceSub, a81, e', h8, w4]
            refine ih y1 _ ?_ ?_ ?_ ?_ ?_ ?_ ?_ hres hx hf
            case refine_6 => simp only [vmr, vmw, vmp, vza, ↓reduceIte, Nat.reduceBEq, Nat.reduceLT, Nat.reduceAdd, Nat.reduceEqDiff, reduceCtorEq, vmt, vzb, vzc, vlen, vleaf, velems, oks, vst, vmd, ty, Nat.reduceLeDiff, Nat.reduceMul, Nat.reduceSub, a81]; exact hi2
            case refine_7 => simp only [vmr, vmw, vmp, vza, ↓reduceIte, Nat.reduceBEq, Nat.reduceLT, Nat.reduceAdd, Nat.reduceEqDiff, reduceCtorEq, vmt, vzb, vzc, vlen, vleaf, velems, oks, vst, vmd, ty, Nat.reduceLeDiff, Nat.reduceMul, Nat.reduceSub, a81]; exact hS2
            all_goals simp only [vmr, vmw, vmp, vza, ↓reduceIte, Nat.reduceBEq, Nat.reduceLT, Nat.reduceAdd, Nat.reduceEqDiff, reduceCtorEq, vmt, vzb, vzc, vlen, vleaf, velems, oks, vst, vmd, ty, Nat.reduceLeDiff, Nat.reduceMul, Nat.reduceSub, a81, e', h2, l2', h6, h7]
        case refine_4 => simp only [vmr, vmw, vmp, vza, ↓reduceIte, Nat.reduceBEq, Nat.reduceLT, Nat.reduceAdd, Nat.reduceEqDiff, reduceCtorEq, vmt, vzb, vzc, vlen, vleaf, velems, oks, vst, vmd, ty, Nat.reduceLeDiff, Nat.reduceMul, Nat.reduceSub, a81]; exact hi3
        case refine_5 => simp only [vmr, vmw, vmp, vza, ↓reduceIte, Nat.reduceBEq, Nat.reduceLT, Nat.reduceAdd, Nat.reduceEqDiff, reduceCtorEq, vmt, vzb, vzc, vlen, vleaf, velems, oks, vst, vmd, ty, Nat.reduceLeDiff, Nat.reduceMul, Nat.reduceSub, a81]; exact hS3
        all_goals simp only [vmr, vmw, vmp, vza, ↓reduceIte, Nat.reduceBEq, Nat.reduceLT, Nat.reduceAdd, Nat.reduceEqDiff, reduceCtorEq, vmt, vzb, vzc, vlen, vleaf, velems, oks, vst, vmd, ty, Nat.reduceLeDiff, Nat.reduceMul, Nat.reduceSub, a81, h2, l2]
theorem c81 {σ : Type} {H : FuncId → Option (List V → Option V)} (h25 : H 67 = some FisV) (h51 : H 36 = some F51) {ok : Tm → Prop} {step : σ → Tm → Bool × σ} (hok : ∀ k s c, ok (.mk k s c) → s.length ≤ 1000000000000000 ∧ ∀ u ∈ c, ok u) : ∀ m, C81 H ok step m
  | 0 => fun a n0 L q ver Inv n lvl c O x h => by omega
  | m + 1 => fun a n0 L q ver Inv n lvl c O x hsz ha hao hq hY hI hn hL hinv => by
    obtain ⟨n, rfl⟩ : ∃ n', n = n' + 2 := ⟨n - 2, by omega⟩
    have hq1 : (q.lvl = lvl) = False := eq_false (by omega)
    have hlen := szs_len a
    have key : Q81 L Inv lvl O (visL (vS step) x a) (R (A81 H lvl (n + 1)) c781 .top ⟨params 0 [.mref q ver, .iptr [Ts a]], [], O, c⟩) := by
      have a1 := fun k s => l81 (k := k) (v2 := c) (O := O) (n := n) h25 h51 hok (c81 h25 h51 hok m) hq hY hI hL a ha hsz hao (by omega) (res := visL (vS step) x a) a 0 x (n + 1) s rfl (by omega)
      simp only [sub, c781, Tryz.f66, gets] at a1
      simp only [vmr, vmw, vmp, vza, ↓reduceIte, Nat.reduceBEq, Nat.reduceLT, Nat.reduceAdd, Nat.reduceEqDiff, reduceCtorEq, vmt, vzb, vzc, vlen, vleaf, velems, oks, vst, vmd, ty, Nat.reduceLeDiff, Nat.reduceMul, Nat.reduceSub, c781, Tryz.f66, a81, hq1, false_and, if_false]
      refine a1 _ _ ?_ ?_ ?_ ?_ ?_ ?_ ?_ trivial (fun s' x' e hi hS => ?_) (fun s' hi hS => ⟨_, s', rfl, .inr rfl, hi, hS⟩)
      case refine_8 =>
        rw [e]
        simp only [vmr, vmw, vmp, vza, ↓reduceIte, Nat.reduceBEq, Nat.reduceLT, Nat.reduceAdd, Nat.reduceEqDiff, reduceCtorEq, vmt, vzb, vzc, vlen, vleaf, velems, oks, vst, vmd, ty, Nat.reduceLeDiff, Nat.reduceMul, Nat.reduceSub, a81, X_top]
        exact ⟨_, _, rfl, .inl rfl, hi, hS⟩
      case refine_6 => simp only [vmr, vmw, vmp, vza, ↓reduceIte, Nat.reduceBEq, Nat.reduceLT, Nat.reduceAdd, Nat.reduceEqDiff, reduceCtorEq, vmt, vzb, vzc, vlen, vleaf, velems, oks, vst, vmd, ty, Nat.reduceLeDiff, Nat.reduceMul, Nat.reduceSub, a81]; exact hinv
      case refine_7 => exact fun l sl off _ _ => by simp only [vmr, vmw, vmp, vza, ↓reduceIte, Nat.reduceBEq, Nat.reduceLT, Nat.reduceAdd, Nat.reduceEqDiff, reduceCtorEq, vmt, vzb, vzc, vlen, vleaf, velems, oks, vst, vmd, ty, Nat.reduceLeDiff, Nat.reduceMul, Nat.reduceSub, a81]
      all_goals simp only [vmr, vmw, vmp, vza, ↓reduceIte, Nat.reduceBEq, Nat.reduceLT, Nat.reduceAdd, Nat.reduceEqDiff, reduceCtorEq, vmt, vzb, vzc, vlen, vleaf, velems, oks, vst, vmd, ty, Nat.reduceLeDiff, Nat.reduceMul, Nat.reduceSub, a81]
    obtain ⟨e, s', hr, he, hi, hS⟩ := key
    refine ⟨_, _, evF_at (C := Cx H) (n := n + 1) (fn := Tryz.f66) (b := c781) (s' := s') Tryz.func66 rfl (show 2 ≤ 29 by omega) rfl (by rcases he with rfl | rfl; exact .inl hr; exact .inr hr), hI _ _ s'.O _ (fun l sl off hl => by rw [lower_get, if_pos (by omega)]) hi, fun l sl off h0 h1 => by rw [lower_get, if_pos h1]; exact hS l sl off h0 h1⟩
end Go.Vi
set_option maxRecDepth 100000
set_option maxHeartbeats 1000000
namespace Go.Vi
open Go Go.Proofs
abbrev Us := List (List UInt8 × Nat)
def kvI : Us → Nat → List (V × V)
  | [], _ => []
  | (x, _) :: r, i => (.str x, I i) :: kvI r (i + 1)
def useV (p : List UInt8 × Nat) : V := .agg [.str p.1, I (IntKind.i64.wrap p.2)]
abbrev nmU (w : Us) : List (List UInt8) := w.map (·.1)
def rowU (O : Heap) (w : Us) (row : V) : Prop := (w = [] ∧ row = .nilS) ∨ ∃ vr, row = .ref ⟨0, 4, 1⟩ vr 0 w.length ∧ O ⟨0, 4, 1⟩ = some (vr, .arr 2 (w.map useV))
def U23 (N : List (List UInt8)) (v3 v4 vm : Nat) (w : Us) (b : Bool) (O : Heap) : Prop :=
  (∃ row, O ⟨0, 4, 0⟩ = some (v4, .var [row]) ∧ rowU O w row) ∧ O ⟨0, 3, 0⟩ = some (v3, .var [.mref ⟨0, 3, 1⟩ vm]) ∧ O ⟨0, 3, 1⟩ = some (vm, .map (kvI w 0)) ∧ (nmU w).Nodup ∧ ∀ y ∈ nmU w, y ∈ N
theorem U23.of {N : List (List UInt8)} {v3 v4 vm : Nat} {w : Us} {b : Bool} {O : Heap} (h1 : O ⟨0, 4, 0⟩ = some (v4, .var [.ref ⟨0, 4, 1⟩ (verO O ⟨0, 4, 1⟩) 0 w.length])) (h2 : O ⟨0, 4, 1⟩ = some (verO O ⟨0, 4, 1⟩, .arr 2 (w.map useV)))
    (h3 : O ⟨0, 3, 0⟩ = some (v3, .var [.mref ⟨0, 3, 1⟩ vm])) (h4 : O ⟨0, 3, 1⟩ = some (vm, .map (kvI w 0))) (h5 : (nmU w).Nodup ∧ ∀ y ∈ nmU w, y ∈ N) : U23 N v3 v4 vm w b O := ⟨⟨_, h1, .inr ⟨_, rfl, h2⟩⟩, h3, h4, h5⟩
end Go.Vi
set_option maxRecDepth 100000
set_option maxHeartbeats 1000000
namespace Go.Vi
open Go Go.Proofs
end Go.Vi
set_option maxRecDepth 100000
set_option maxHeartbeats 1000000
namespace Go.Vi
open Go Go.Proofs
abbrev Ns := List (List UInt8)
theorem ss_get {a : Ns} {i : Nat} {x} (h : a[i]? = some x) : (a.map V.str)[i]? = some (.str x) := by rw [List.getElem?_map, h, Option.map_some]
theorem Ss_inj : ∀ {a b : Ns}, a.map V.str = b.map V.str → a = b
  | [], [], _ => rfl
  | [], _ :: _, h => by cases h
  | _ :: _, [], h => by cases h
  | x :: r, y :: q, h => by
    simp only [List.map_cons] at h
    injection h with h1 h2
    rw [Str_inj h1, Ss_inj h2]
theorem SsV_inj {a b : Ns} (h : Ss a = Ss b) : a = b := by injection h with h; exact Ss_inj h
end Go.Vi
set_option maxRecDepth 100000
set_option maxHeartbeats 1000000
namespace Go.Vi
open Go Go.Proofs
noncomputable def Fhas : List V → Option V := hF (α := Ns × List UInt8) (fun p => [Ss p.1, .str p.2]) (fun p => p.1.length ≤ 1000000) (fun p => .bool (p.1.contains p.2))
theorem Fhas_eq {a : Ns} {x : List UInt8} (h : a.length ≤ 1000000) : Fhas [Ss a, .str x] = some (.bool (a.contains x)) := hF_eq (a := (a, x)) (two_inj (fun _ _ => SsV_inj) (fun _ _ => Str_inj)) (by simp only [cans, can_Ss, canStr]) h
def P1093 (n : Nat) (v : V) (r : Option (Ex × St)) : Prop := Fin (M1093 (hand []) n) [.tmp 4] r = some (.ret v)
theorem l1093 {n k v} (a : Ns) (x : List UInt8) (ha : a.length ≤ 1000000) : ∀ r i n' s, a.drop i = r → r.length < n' → tget s.τ 0 = Ss a → tget s.τ 1 = .str x → tget s.τ 5 = I (i : Nat) →
    V.bool (r.contains x) = v → (∀ s', V.bool false = v → P1093 n v (X (M1093 (hand []) n) (.exit 0) k s')) →
    P1093 n v (L (M1093 (hand []) n) (sub [1, 0, 1, 0, 0] c1093) n' k s)
  | [], i, n' + 1, s, hi, hn, h0, h1, h5, hv, hx => by
    have hc := inlt (drop_nil' hi)
    rw [L_succ]
    simp only [vmr, vmw, vmp, vza, ↓reduceIte, Nat.reduceBEq, Nat.reduceLT, Nat.reduceAdd, Nat.reduceEqDiff, reduceCtorEq, vmt, vzb, vzc, vlen, vleaf, velems, oks, vst, vmd, ty, Nat.reduceLeDiff, Nat.reduceMul, Nat.reduceSub, c1093, Tryz.f93, m1093, h0, h5, hc]
    exact hx _ hv
  | p :: r, i, n' + 1, s, hi, hn, h0, h1, h5, hv, hx => by
    obtain ⟨g1, g2, g3⟩ := drop_cons hi
    have hcl := ilt g3
    have ga := ss_get g1
    have w4 := wsuc g3 (by omega)
    have ih := fun s => l1093 (n := n) (k := k) (v := v) a x ha r (i + 1) n' s g2 (by simp at hn; omega)
    simp only [sub, c1093, Tryz.f93, gets] at ih
    rw [L_succ]
    have hc2 : (x == p) = (p == x) := by rw [Bool.eq_iff_iff, beq_iff_eq, beq_iff_eq]; exact eq_comm
    rw [List.contains_cons, hc2] at hv
    cases hq : p == x with
    | true =>
      rw [hq, Bool.true_or] at hv
      simp only [vmr, vmw, vmp, vza, ↓reduceIte, Nat.reduceBEq, Nat.reduceLT, Nat.reduceAdd, Nat.reduceEqDiff, reduceCtorEq, vmt, vzb, vzc, vlen, vleaf, velems, oks, vst, vmd, ty, Nat.reduceLeDiff, Nat.reduceMul, Nat.reduceSub, c1093, Tryz.f93, m1093, h0, h1, h5, hcl, ga, w4, strOp, hq]
      rw [← hv]
      unfold P1093
      simp only [vmr, vmw, vmp, vza, ↓reduceIte, Nat.reduceBEq, Nat.reduceLT, Nat.reduceAdd, Nat.reduceEqDiff, reduceCtorEq, vmt, vzb, vzc, vlen, vleaf, velems, oks, vst, vmd, ty, Nat.reduceLeDiff, Nat.reduceMul, Nat.reduceSub, vzr, m1093]
    | false =>
      rw [hq, Bool.false_or] at hv
      simp only [vmr, vmw, vmp, vza, ↓reduceIte, Nat.reduceBEq, Nat.reduceLT, Nat.reduceAdd, Nat.reduceEqDiff, reduceCtorEq, vmt, vzb, vzc, vlen, vleaf, velems, oks, vst, vmd, ty, Nat.reduceLeDiff, Nat.reduceMul, Nat.reduceSub, c1093, Tryz.f93, m1093, h0, h1, h5, hcl, ga, w4, strOp, hq]
      refine ih _ ?_ ?_ ?_ hv hx
      all_goals simp only [vmr, vmw, vmp, vza, ↓reduceIte, Nat.reduceBEq, Nat.reduceLT, Nat.reduceAdd, Nat.reduceEqDiff, reduceCtorEq, vmt, vzb, vzc, vlen, vleaf, velems, oks, vst, vmd, ty, Nat.reduceLeDiff, Nat.reduceMul, Nat.reduceSub, m1093, h0, h1]
theorem F1093_sound : ∀ args v, Fhas args = some v → SoundPure Tryz.prog 93 args (.ret v) := hF_sound fun p hp => by
  obtain ⟨a, x⟩ := p
  refine s1093 (H := []) sound_nil (a.length + 1) (by simp) rfl ?_
  show P1093 _ _ _
  have a1 := fun k s => @l1093 (a.length + 1) k (.bool (a.contains x)) a x hp a 0 (a.length + 1) s rfl (by omega)
  simp only [c1093, Tryz.f93, gets, sub] at a1 ⊢
  simp only [vmr, vmw, vmp, vza, ↓reduceIte, Nat.reduceBEq, Nat.reduceLT, Nat.reduceAdd, Nat.reduceEqDiff, reduceCtorEq, vmt, vzb, vzc, vlen, vleaf, velems, oks, vst, vmd, ty, Nat.reduceLeDiff, Nat.reduceMul, Nat.reduceSub, m1093]
  refine a1 _ _ ?_ ?_ ?_ trivial (fun s' h => ?_)
  case refine_4 =>
    rw [← h]
    simp only [vmr, vmw, vmp, vza, ↓reduceIte, Nat.reduceBEq, Nat.reduceLT, Nat.reduceAdd, Nat.reduceEqDiff, reduceCtorEq, vmt, vzb, vzc, vlen, vleaf, velems, oks, vst, vmd, ty, Nat.reduceLeDiff, Nat.reduceMul, Nat.reduceSub, m1093]
    unfold P1093
    simp only [vmr, vmw, vmp, vza, ↓reduceIte, Nat.reduceBEq, Nat.reduceLT, Nat.reduceAdd, Nat.reduceEqDiff, reduceCtorEq, vmt, vzb, vzc, vlen, vleaf, velems, oks, vst, vmd, ty, Nat.reduceLeDiff, Nat.reduceMul, Nat.reduceSub, vzr, m1093]
  all_goals simp only [vmr, vmw, vmp, vza, ↓reduceIte, Nat.reduceBEq, Nat.reduceLT, Nat.reduceAdd, Nat.reduceEqDiff, reduceCtorEq, vmt, vzb, vzc, vlen, vleaf, velems, oks, vst, vmd, ty, Nat.reduceLeDiff, Nat.reduceMul, Nat.reduceSub, m1093]
  all_goals rfl
theorem F1092_sound : ∀ args v, FnameP args = some v → SoundPure Tryz.prog 92 args (.ret v) := Ftm_sound fun k s c hs => by
  refine s1092 (H := []) sound_nil 1 (by simp) rfl ?_
  simp only [c1092, Tryz.f92, gets, sub]
  have hl : (2 + s.length ≤ 9223372036854775807) = True := eq_true (by omega)
  by_cases q5 : k = 5
  · subst q5
    rw [show nameP 5 s = [115, 46] ++ s from rfl]
    simp only [vmr, vmw, vmp, vza, ↓reduceIte, Nat.reduceBEq, Nat.reduceLT, Nat.reduceAdd, Nat.reduceEqDiff, reduceCtorEq, vmt, vzb, vzc, vlen, vleaf, velems, oks, vst, vmd, ty, Nat.reduceLeDiff, Nat.reduceMul, Nat.reduceSub, vzr, m1092, hl, strOp, Int.reduceBEq]
  · have n5 : (k == 5) = false := by simpa using q5
    by_cases q6 : k = 6
    · subst q6
      rw [show nameP 6 s = [116, 46] ++ s from rfl]
      simp only [vmr, vmw, vmp, vza, ↓reduceIte, Nat.reduceBEq, Nat.reduceLT, Nat.reduceAdd, Nat.reduceEqDiff, reduceCtorEq, vmt, vzb, vzc, vlen, vleaf, velems, oks, vst, vmd, ty, Nat.reduceLeDiff, Nat.reduceMul, Nat.reduceSub, vzr, m1092, hl, strOp, Int.reduceBEq, n5]
    · have n6 : (k == 6) = false := by simpa using q6
      by_cases q7 : k = 7
      · subst q7
        rw [show nameP 7 s = [101, 46] ++ s from rfl]
        simp only [vmr, vmw, vmp, vza, ↓reduceIte, Nat.reduceBEq, Nat.reduceLT, Nat.reduceAdd, Nat.reduceEqDiff, reduceCtorEq, vmt, vzb, vzc, vlen, vleaf, velems, oks, vst, vmd, ty, Nat.reduceLeDiff, Nat.reduceMul, Nat.reduceSub, vzr, m1092, hl, strOp, Int.reduceBEq, n5, n6]
      · have n7 : (k == 7) = false := by simpa using q7
        have hv : isV k = false := by
          cases h : isV k with
          | false => rfl
          | true => rcases isV_iff.1 h with h | h | h <;> contradiction
        rw [nameP_no hv]
        simp only [vmr, vmw, vmp, vza, ↓reduceIte, Nat.reduceBEq, Nat.reduceLT, Nat.reduceAdd, Nat.reduceEqDiff, reduceCtorEq, vmt, vzb, vzc, vlen, vleaf, velems, oks, vst, vmd, ty, Nat.reduceLeDiff, Nat.reduceMul, Nat.reduceSub, vzr, m1092, n5, n6, n7]
end Go.Vi
