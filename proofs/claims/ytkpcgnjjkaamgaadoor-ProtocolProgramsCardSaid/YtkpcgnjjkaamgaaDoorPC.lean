/-
  Walks of group, call, expression, word, free of both roads.
-/
import Derived.Test.YtkpcgnjjkaamgaaDoorPB
set_option linter.unusedSimpArgs false
set_option linter.unusedVariables false
set_option maxRecDepth 100000
set_option maxHeartbeats 1000000
namespace Go.Vi
open Go Go.Proofs

theorem room1 : roomOk Tryd.prog 70 1 = true := by kernel_rfl
theorem room2 : roomOk Tryd.prog 70 2 = true := by kernel_rfl
theorem w327 (l : List Tm) : SoundPure Tryd.prog 27 [Ts l] (.ret (.agg [I 4, .str [], Ts l])) := by
  refine s327 (H := []) sound_nil 1 (by simp) rfl ?_
  simp only [c327, Tryd.f27, gets, sub]
  simp only [vmr, vmw, vmp, vza, ↓reduceIte, Nat.reduceBEq, Nat.reduceLT, Nat.reduceAdd, Nat.reduceEqDiff, reduceCtorEq, vmt, vzb, vzc, vlen, vleaf, velems, oks, vst, vmd, ty, Nat.reduceLeDiff, Nat.reduceMul, Nat.reduceSub, vzr, m327]
theorem w328 (b : List UInt8) : SoundPure Tryd.prog 28 [.str b] (.ret (.agg [I 7, .str b, .nilS])) := by
  refine s328 (H := []) sound_nil 1 (by simp) rfl ?_
  simp only [c328, Tryd.f28, gets, sub]
  simp only [vmr, vmw, vmp, vza, ↓reduceIte, Nat.reduceBEq, Nat.reduceLT, Nat.reduceAdd, Nat.reduceEqDiff, reduceCtorEq, vmt, vzb, vzc, vlen, vleaf, velems, oks, vst, vmd, ty, Nat.reduceLeDiff, Nat.reduceMul, Nat.reduceSub, vzr, m328]
theorem w326 (b : List UInt8) (l : List Tm) : SoundPure Tryd.prog 26 [.str b, Ts l] (.ret (.own 3 [.agg [I 8, .str b, Ts l]])) := by
  refine s326 (H := []) sound_nil 1 (by simp) rfl ?_
  simp only [c326, Tryd.f26, gets, sub]
  simp only [vmr, vmw, vmp, vza, ↓reduceIte, Nat.reduceBEq, Nat.reduceLT, Nat.reduceAdd, Nat.reduceEqDiff, reduceCtorEq, vmt, vzb, vzc, vlen, vleaf, velems, oks, vst, vmd, ty, Nat.reduceLeDiff, Nat.reduceMul, Nat.reduceSub, vzr, m326, List.map_cons, room1]
theorem w321 (l : List Tm) : SoundPure Tryd.prog 21 [Ts l] (.ret (.agg [I 4, .str [], Ts l])) := by
  refine s321 (H := []) sound_nil 1 (by simp) rfl ?_
  simp only [c321, Tryd.f21, gets, sub]
  simp only [vmr, vmw, vmp, vza, ↓reduceIte, Nat.reduceBEq, Nat.reduceLT, Nat.reduceAdd, Nat.reduceEqDiff, reduceCtorEq, vmt, vzb, vzc, vlen, vleaf, velems, oks, vst, vmd, ty, Nat.reduceLeDiff, Nat.reduceMul, Nat.reduceSub, vzr, m321]
theorem w324 (b : List UInt8) : SoundPure Tryd.prog 24 [.str b] (.ret (.agg [I 7, .str b, .nilS])) := by
  refine s324 (H := []) sound_nil 1 (by simp) rfl ?_
  simp only [c324, Tryd.f24, gets, sub]
  simp only [vmr, vmw, vmp, vza, ↓reduceIte, Nat.reduceBEq, Nat.reduceLT, Nat.reduceAdd, Nat.reduceEqDiff, reduceCtorEq, vmt, vzb, vzc, vlen, vleaf, velems, oks, vst, vmd, ty, Nat.reduceLeDiff, Nat.reduceMul, Nat.reduceSub, vzr, m324]
theorem w323 (b : List UInt8) : SoundPure Tryd.prog 23 [.str b] (.ret (.agg [I 2, .str b, .nilS])) := by
  refine s323 (H := []) sound_nil 1 (by simp) rfl ?_
  simp only [c323, Tryd.f23, gets, sub]
  simp only [vmr, vmw, vmp, vza, ↓reduceIte, Nat.reduceBEq, Nat.reduceLT, Nat.reduceAdd, Nat.reduceEqDiff, reduceCtorEq, vmt, vzb, vzc, vlen, vleaf, velems, oks, vst, vmd, ty, Nat.reduceLeDiff, Nat.reduceMul, Nat.reduceSub, vzr, m323]
theorem w322 (b : List UInt8) (l : List Tm) : SoundPure Tryd.prog 22 [.str b, Ts l] (.ret (.own 3 [.agg [I 8, .str b, Ts l]])) := by
  refine s322 (H := []) sound_nil 1 (by simp) rfl ?_
  simp only [c322, Tryd.f22, gets, sub]
  simp only [vmr, vmw, vmp, vza, ↓reduceIte, Nat.reduceBEq, Nat.reduceLT, Nat.reduceAdd, Nat.reduceEqDiff, reduceCtorEq, vmt, vzb, vzc, vlen, vleaf, velems, oks, vst, vmd, ty, Nat.reduceLeDiff, Nat.reduceMul, Nat.reduceSub, vzr, m322, List.map_cons, room1]
theorem w343 (b : List UInt8) : SoundPure Tryd.prog 43 [.str b] (.ret (.own 3 [.agg [I 2, .str b, .nilS]])) := by
  refine s343 (H := []) sound_nil 1 (by simp) rfl ?_
  simp only [c343, Tryd.f43, gets, sub]
  simp only [vmr, vmw, vmp, vza, ↓reduceIte, Nat.reduceBEq, Nat.reduceLT, Nat.reduceAdd, Nat.reduceEqDiff, reduceCtorEq, vmt, vzb, vzc, vlen, vleaf, velems, oks, vst, vmd, ty, Nat.reduceLeDiff, Nat.reduceMul, Nat.reduceSub, vzr, m343, List.map_cons, room1]
end Go.Vi
set_option maxRecDepth 100000
set_option maxHeartbeats 1000000
namespace Go.Vi
open Go Go.Proofs

theorem sound_own {P : Program} {g : FuncId} {args : List V} {sz : Nat} {es : List V} (h : SoundPure P g args (.ret (.own sz es))) : SoundPure P g args (.ret (.own sz (cans es))) := by
  intro w A cs hJ hA ha
  refine (h w A cs hJ hA ha).mono ?_
  rintro e w' ⟨A', t, hA', cv, l, rfl, hrc, hown, hd⟩
  refine ⟨A', t, hA', cv, l, rfl, ?_, hown, hd⟩
  simp only [RC, cans_len] at hrc ⊢
  obtain ⟨i, rfl, hs, ho⟩ := hrc
  refine ⟨i, rfl, hs, ?_⟩
  unfold OC at ho ⊢
  cases hb : i.b with
  | none => rw [hb] at ho; simp only at ho ⊢; rw [ho]; rfl
  | some b =>
    rw [hb] at ho
    simp only [cans_len] at ho ⊢
    exact ⟨ho.1, ho.2.1, ho.2.2.1, ho.2.2.2.1, PEs_can es b _ _ ho.2.2.2.2⟩

/-! ### slices.Index, Contains -/
theorem l372 {H n k} (l : List Int) (x : Int) (hb : l.length ≤ 1000000) : ∀ r i n' s, l.drop i = r → r.length < n' → tget s.τ 0 = Is l → tget s.τ 1 = I x → tget s.τ 7 = I l.length → tget s.τ 8 = I (i : Nat) →
    (∀ s', Fin (M372 H n) [.tmp 4] (X (M372 H n) (.exit 0) k s') = some (.ret (I (-1)))) →
    Fin (M372 H n) [.tmp 4] (L (M372 H n) (sub [1, 0, 1, 0, 0] c372) n' k s) = some (.ret (I (idxF (fun y => x == y) r i)))
  | [], i, n' + 1, s, hi, hn, h0, h1, h7, h8, hx => by
    have hc := inlt (drop_nil' hi)
    have := hx
    rw [L_succ]
    simp only [vmr, vmw, vmp, vza, ↓reduceIte, Nat.reduceBEq, Nat.reduceLT, Nat.reduceAdd, Nat.reduceEqDiff, reduceCtorEq, vmt, vzb, vzc, vlen, vleaf, velems, oks, vst, vmd, ty, Nat.reduceLeDiff, Nat.reduceMul, Nat.reduceSub, c372, Tryd.f72, m372, h0, h1, h7, h8, hc, this, idxF]
  | y :: r, i, n' + 1, s, hi, hn, h0, h1, h7, h8, hx => by
    obtain ⟨hg, hd, hlt⟩ := drop_cons hi
    have hc := ilt hlt
    have hw := wsucc hlt hb
    rw [L_succ]
    cases hp : (x == y) with
    | true => simp only [vmr, vmw, vmp, vza, ↓reduceIte, Nat.reduceBEq, Nat.reduceLT, Nat.reduceAdd, Nat.reduceEqDiff, reduceCtorEq, vmt, vzb, vzc, vlen, vleaf, velems, oks, vst, vmd, ty, Nat.reduceLeDiff, Nat.reduceMul, Nat.reduceSub, vzr, c372, Tryd.f72, m372, h0, h1, h7, h8, hc, hg, hp, idxF]
    | false =>
      simp only [vmr, vmw, vmp, vza, ↓reduceIte, Nat.reduceBEq, Nat.reduceLT, Nat.reduceAdd, Nat.reduceEqDiff, reduceCtorEq, vmt, vzb, vzc, vlen, vleaf, velems, oks, vst, vmd, ty, Nat.reduceLeDiff, Nat.reduceMul, Nat.reduceSub, c372, Tryd.f72, m372, h0, h1, h7, h8, hc, hg, hw, hp, idxF, Bool.false_eq_true]
      have := fun s => @l372 H n k l x hb r (i+1) n' s hd (by simp at hn; omega)
      simp only [sub, c372, Tryd.f72, gets] at this
      refine this _ ?_ ?_ ?_ ?_ hx
      all_goals simp only [vmr, vmw, vmp, vza, ↓reduceIte, Nat.reduceBEq, Nat.reduceLT, Nat.reduceAdd, Nat.reduceEqDiff, reduceCtorEq, h0, h1, h7, h8]
theorem w372 (l : List Int) (x : Int) (hb : l.length ≤ 1000000) : SoundPure Tryd.prog 72 [Is l, I x] (.ret (I (idxF (fun y => x == y) l 0))) := by
  refine s372 (H := []) sound_nil (l.length + 1) (by simp) rfl ?_
  have := fun k s => @l372 (hand []) (l.length + 1) k l x hb l 0 (l.length + 1) s
  simp only [sub, c372, Tryd.f72, gets] at this ⊢
  simp only [vmr, vmw, vmp, vza, ↓reduceIte, Nat.reduceBEq, Nat.reduceLT, Nat.reduceAdd, Nat.reduceEqDiff, reduceCtorEq, vmt, vzb, vzc, vlen, vleaf, velems, oks, vst, vmd, ty, Nat.reduceLeDiff, Nat.reduceMul, Nat.reduceSub, m372]
  refine this _ _ rfl (by omega) ?_ ?_ ?_ ?_ ?_
  all_goals simp only [vmr, vmw, vmp, vza, ↓reduceIte, Nat.reduceBEq, Nat.reduceLT, Nat.reduceAdd, Nat.reduceEqDiff, reduceCtorEq, vmt, vzb, vzc, vlen, vleaf, velems, oks, vst, vmd, ty, Nat.reduceLeDiff, Nat.reduceMul, Nat.reduceSub, m372]
  intro s'
  simp only [vmr, vmw, vmp, vza, ↓reduceIte, Nat.reduceBEq, Nat.reduceLT, Nat.reduceAdd, Nat.reduceEqDiff, reduceCtorEq, vmt, vzb, vzc, vlen, vleaf, velems, oks, vst, vmd, ty, Nat.reduceLeDiff, Nat.reduceMul, Nat.reduceSub, vzr, m372]
noncomputable def F372 : List V → Option V := hF (α := List Int × Int) (fun a => [Is a.1, I a.2]) (fun a => a.1.length ≤ 1000000) (fun a => I (idxF (fun y => a.2 == y) a.1 0))
theorem F372_eq {l : List Int} (x : Int) (hb : l.length ≤ 1000000) : F372 [Is l, I x] = some (I (idxF (fun y => x == y) l 0)) :=
  hF_eq (a := (l, x)) (two_inj (fun _ _ => Is_inj) (fun _ _ => I_inj)) (by simp only [cans, canIs, canI]) hb
def hasI (l : List Int) (x : Int) : Bool := l.any (fun y => x == y)
theorem w365 (l : List Int) (x : Int) (hb : l.length ≤ 1000000) : SoundPure Tryd.prog 65 [Is l, I x] (.ret (.bool (hasI l x))) := by
  refine s365 (H := [(72, F372)]) (sound_cons (hF_sound fun a h => w372 a.1 a.2 h) sound_nil) 1 (by simp) rfl ?_
  have e := F372_eq x hb
  simp only [c365, Tryd.f65, gets]
  unfold hasI
  simp only [vmr, vmw, vmp, vza, ↓reduceIte, Nat.reduceBEq, Nat.reduceLT, Nat.reduceAdd, Nat.reduceEqDiff, reduceCtorEq, vmt, vzb, vzc, vlen, vleaf, velems, oks, vst, vmd, ty, Nat.reduceLeDiff, Nat.reduceMul, Nat.reduceSub, vzr, m365, e, ← idx_any]
noncomputable def F365 : List V → Option V := hF (α := List Int × Int) (fun a => [Is a.1, I a.2]) (fun a => a.1.length ≤ 1000000) (fun a => .bool (hasI a.1 a.2))
theorem F365_eq {l : List Int} (x : Int) (hb : l.length ≤ 1000000) : F365 [Is l, I x] = some (.bool (hasI l x)) :=
  hF_eq (a := (l, x)) (two_inj (fun _ _ => Is_inj) (fun _ _ => I_inj)) (by simp only [cans, canIs, canI]) hb

/-! ### in -/
theorem l349 {H n k} (l : List Int) (x : Int) (hb : l.length ≤ 1000000) : ∀ r i n' s, l.drop i = r → r.length < n' → tget s.τ 0 = Is l → tget s.τ 1 = I x → tget s.τ 5 = I (i : Nat) →
    (∀ s', Fin (M349 H n) [.tmp 4] (X (M349 H n) (.exit 0) k s') = some (.ret (.bool false))) →
    Fin (M349 H n) [.tmp 4] (L (M349 H n) (sub [1, 0, 1, 0, 0] c349) n' k s) = some (.ret (.bool (hasI r x)))
  | [], i, n' + 1, s, hi, hn, h0, h1, h5, hx => by
    have hc := inlt (drop_nil' hi)
    have := hx
    rw [L_succ]
    simp only [vmr, vmw, vmp, vza, ↓reduceIte, Nat.reduceBEq, Nat.reduceLT, Nat.reduceAdd, Nat.reduceEqDiff, reduceCtorEq, vmt, vzb, vzc, vlen, vleaf, velems, oks, vst, vmd, ty, Nat.reduceLeDiff, Nat.reduceMul, Nat.reduceSub, c349, Tryd.f49, m349, h0, h1, h5, hc, this, hasI, List.any_nil]
  | y :: r, i, n' + 1, s, hi, hn, h0, h1, h5, hx => by
    obtain ⟨hg, hd, hlt⟩ := drop_cons hi
    have hc := ilt hlt
    have hw := wsucc hlt hb
    rw [L_succ]
    cases hp : (x == y) with
    | true =>
      have hp' : (y == x) = true := by rw [BEq.comm]; exact hp
      simp only [vmr, vmw, vmp, vza, ↓reduceIte, Nat.reduceBEq, Nat.reduceLT, Nat.reduceAdd, Nat.reduceEqDiff, reduceCtorEq, vmt, vzb, vzc, vlen, vleaf, velems, oks, vst, vmd, ty, Nat.reduceLeDiff, Nat.reduceMul, Nat.reduceSub, vzr, c349, Tryd.f49, m349, h0, h1, h5, hc, hg, hp', hp, hasI, List.any_cons, Bool.true_or]
    | false =>
      have hp' : (y == x) = false := by rw [BEq.comm]; exact hp
      have e : hasI (y :: r) x = hasI r x := by simp only [hasI, List.any_cons, hp, Bool.false_or]
      rw [e]
      simp only [vmr, vmw, vmp, vza, ↓reduceIte, Nat.reduceBEq, Nat.reduceLT, Nat.reduceAdd, Nat.reduceEqDiff, reduceCtorEq, vmt, vzb, vzc, vlen, vleaf, velems, oks, vst, vmd, ty, Nat.reduceLeDiff, Nat.reduceMul, Nat.reduceSub, c349, Tryd.f49, m349, h0, h1, h5, hc, hg, hw, hp']
      have := fun s => @l349 H n k l x hb r (i+1) n' s hd (by simp at hn; omega)
      simp only [sub, c349, Tryd.f49, gets] at this
      refine this _ ?_ ?_ ?_ hx
      all_goals simp only [vmr, vmw, vmp, vza, ↓reduceIte, Nat.reduceBEq, Nat.reduceLT, Nat.reduceAdd, Nat.reduceEqDiff, reduceCtorEq, h0, h1, h5]
theorem w349 (l : List Int) (x : Int) (hb : l.length ≤ 1000000) : SoundPure Tryd.prog 49 [Is l, I x] (.ret (.bool (hasI l x))) := by
  refine s349 (H := []) sound_nil (l.length + 1) (by simp) rfl ?_
  have := fun k s => @l349 (hand []) (l.length + 1) k l x hb l 0 (l.length + 1) s
  simp only [sub, c349, Tryd.f49, gets] at this ⊢
  simp only [vmr, vmw, vmp, vza, ↓reduceIte, Nat.reduceBEq, Nat.reduceLT, Nat.reduceAdd, Nat.reduceEqDiff, reduceCtorEq, vmt, vzb, vzc, vlen, vleaf, velems, oks, vst, vmd, ty, Nat.reduceLeDiff, Nat.reduceMul, Nat.reduceSub, m349]
  refine this _ _ rfl (by omega) ?_ ?_ ?_ ?_
  all_goals simp only [vmr, vmw, vmp, vza, ↓reduceIte, Nat.reduceBEq, Nat.reduceLT, Nat.reduceAdd, Nat.reduceEqDiff, reduceCtorEq, vmt, vzb, vzc, vlen, vleaf, velems, oks, vst, vmd, ty, Nat.reduceLeDiff, Nat.reduceMul, Nat.reduceSub, m349]
  intro s'
  simp only [vmr, vmw, vmp, vza, ↓reduceIte, Nat.reduceBEq, Nat.reduceLT, Nat.reduceAdd, Nat.reduceEqDiff, reduceCtorEq, vmt, vzb, vzc, vlen, vleaf, velems, oks, vst, vmd, ty, Nat.reduceLeDiff, Nat.reduceMul, Nat.reduceSub, vzr, m349]
noncomputable def F349 : List V → Option V := hF (α := List Int × Int) (fun a => [Is a.1, I a.2]) (fun a => a.1.length ≤ 1000000) (fun a => .bool (hasI a.1 a.2))
theorem F349_eq {l : List Int} (x : Int) (hb : l.length ≤ 1000000) : F349 [Is l, I x] = some (.bool (hasI l x)) :=
  hF_eq (a := (l, x)) (two_inj (fun _ _ => Is_inj) (fun _ _ => I_inj)) (by simp only [cans, canIs, canI]) hb

/-! ### own rows of terms -/
def sz3 (n : Nat) : Nat := if n = 0 then 0 else 3
theorem sz3_s {n} : sz3 (n + 1) = 3 := rfl
theorem sz3_or (n : Nat) : (sz3 n = 3 ∨ sz3 n = 0) = True := by unfold sz3; split <;> simp
abbrev oT (sz : Nat) (l : List Tm) : V := .own sz (l.map tv)
theorem cans_Tm (l : List Tm) : cans (l.map tv) = l.map tv := by rw [← tvs_map, cans_tvs]
theorem shT : ∀ l : List Tm, pureRL (l.map tv) = true
  | [] => rfl
  | .mk k s c :: r => by simp only [List.map_cons, pureRL, tv_mk, pureR, shT r, Bool.and_self]
def isOwnR (n : Nat) (sz : Nat) (k : Int) (w : List UInt8) : Option (COut × Nat × Heap) → Bool
  | some (.ret (.own sz' es), _, _) => es.length == n && sz' == sz && es.all (isLeaf k w)
  | _ => false
theorem isOwnR_some {n sz k w r} (h : isOwnR n sz k w r = true) : ∃ es c O, r = some (.ret (.own sz es), c, O) ∧ cans es = (List.replicate n (.mk k w [])).map tv := by
  unfold isOwnR at h
  split at h
  · rename_i sz es c O
    rw [Bool.and_eq_true, Bool.and_eq_true, beq_iff_eq, beq_iff_eq] at h
    obtain ⟨⟨h1, rfl⟩, h2⟩ := h
    refine ⟨_, c, O, rfl, ?_⟩
    have : es = List.replicate n (.agg [I k, .str w, .nilS]) := List.eq_replicate_iff.2 ⟨h1, fun b hb => isLeaf_eq (List.all_eq_true.1 h2 b hb)⟩
    subst this
    simp only [cans_map, List.map_replicate, tv_mk, can, cans]
    rfl
  · cases h
theorem run31o : ((List.range 41).all fun n => isOwnR n 3 2 [73] (evF (Cx (hand [])) 80 31 [I (n : Int)] 0 0 noH)) = true := by kernel_rfl
theorem run25o : ((List.range 41).all fun n => isOwnR n (sz3 n) 2 [73] (evF (Cx (hand [])) 80 25 [I (n : Int)] 0 0 noH)) = true := by kernel_rfl
theorem w331o {n : Nat} (h : n < 41) : SoundPure Tryd.prog 31 [I n] (.ret (oT 3 (List.replicate n oneT))) := by
  obtain ⟨es, c, O, hr, hc⟩ := isOwnR_some (all_lt run31o h)
  rw [show oT 3 (List.replicate n oneT) = .own 3 (cans es) by rw [hc]]
  exact sound_own (of_run ⟨c, O, hr⟩ (by simp only [pureR]))
theorem w325o {n : Nat} (h : n < 41) : SoundPure Tryd.prog 25 [I n] (.ret (oT (sz3 n) (List.replicate n oneT))) := by
  obtain ⟨es, c, O, hr, hc⟩ := isOwnR_some (all_lt run25o h)
  rw [show oT (sz3 n) (List.replicate n oneT) = .own (sz3 n) (cans es) by rw [hc]]
  exact sound_own (of_run ⟨c, O, hr⟩ (by simp only [pureR]))
theorem nat_inj {a b : Nat} (h : I (a : Int) = I (b : Int)) : a = b := by have := I_inj h; omega
noncomputable def F331 : List V → Option V := hF (α := Nat) (fun n => [I n]) (fun n => n < 41) (fun n => oT 3 (List.replicate n oneT))
theorem F331_eq {n : Nat} (h : n < 41) : F331 [I n] = some (oT 3 (List.replicate n oneT)) := hF_eq (a := n) (one_inj' fun _ _ => nat_inj) rfl h
noncomputable def F325 : List V → Option V := hF (α := Nat) (fun n => [I n]) (fun n => n < 41) (fun n => oT (sz3 n) (List.replicate n oneT))
theorem F325_eq {n : Nat} (h : n < 41) : F325 [I n] = some (oT (sz3 n) (List.replicate n oneT)) := hF_eq (a := n) (one_inj' fun _ _ => nat_inj) rfl h
noncomputable def F327 : List V → Option V := hF (α := List Tm) (fun l => [Ts l]) (fun _ => True) (fun l => .agg [I 4, .str [], Ts l])
theorem F327_eq {es : List V} {l : List Tm} (h : cans es = l.map tv) : F327 [.lst es] = some (.agg [I 4, .str [], Ts l]) := hF_eq (a := l) (one_inj' fun _ _ => Ts_inj) (by simp only [cans, can, h]) trivial
noncomputable def F321 : List V → Option V := hF (α := List Tm) (fun l => [Ts l]) (fun _ => True) (fun l => .agg [I 4, .str [], Ts l])
theorem F321_eq {es : List V} {l : List Tm} (h : cans es = l.map tv) : F321 [.lst es] = some (.agg [I 4, .str [], Ts l]) := hF_eq (a := l) (one_inj' fun _ _ => Ts_inj) (by simp only [cans, can, h]) trivial
noncomputable def F348 : List V → Option V := hF (α := Nat) (fun n => [I n]) (fun n => n < 100) (fun n => .agg [I 7, .str (99 :: dig n), .nilS])
theorem F348_eq {n : Nat} (h : n < 100) : F348 [I n] = some (.agg [I 7, .str (99 :: dig n), .nilS]) := hF_eq (a := n) (one_inj' fun _ _ => nat_inj) rfl h
noncomputable def F366 : List V → Option V := hF (α := Nat) (fun n => [I n]) (fun n => n < 100) (fun n => .agg [I 7, .str (99 :: dig n), .nilS])
theorem F366_eq {n : Nat} (h : n < 100) : F366 [I n] = some (.agg [I 7, .str (99 :: dig n), .nilS]) := hF_eq (a := n) (one_inj' fun _ _ => nat_inj) rfl h
theorem room70 {n : Nat} (h : n ≤ 2000000) : roomOk Tryd.prog 70 n = true := by simp [roomOk, ty, cellsV, leafV]; omega
theorem fits70 (t : Tm) : fitsE Tryd.prog 70 (tv t) = true := by cases t; simp [tv_mk, fitsE, ty, leafV]
theorem fits70s : ∀ l : List Tm, (l.map tv).all (fitsE Tryd.prog 70) = true
  | [] => rfl
  | x :: r => by simp only [List.map_cons, List.all_cons, fits70, fits70s r, Bool.and_self]
end Go.Vi
set_option maxRecDepth 100000
set_option maxHeartbeats 1000000
namespace Go.Vi
open Go Go.Proofs

def cntL (bh : Nat → List Tm) : List Int → Nat → List Tm
  | [], _ => []
  | x :: r, i => grpT (List.replicate x.toNat oneT ++ bh i) :: cntL bh r (i + 1)
theorem map_snoc (d : List Tm) (g : List Tm) : (d ++ [grpT g]).map tv = d.map tv ++ [.agg [I 4, .str [], Ts g]] := by simp only [List.map_append, List.map_cons, List.map_nil, tv_mk]
theorem e331 {x : Int} (h : 0 ≤ x ∧ x < 41) : F331 [I x] = some (oT 3 (List.replicate x.toNat oneT)) := by
  have := F331_eq (n := x.toNat) (by omega)
  rwa [show ((x.toNat : Nat) : Int) = x by omega] at this
theorem e325 {x : Int} (h : 0 ≤ x ∧ x < 41) : F325 [I x] = some (oT (sz3 x.toNat) (List.replicate x.toNat oneT)) := by
  have := F325_eq (n := x.toNat) (by omega)
  rwa [show ((x.toNat : Nat) : Int) = x by omega] at this
theorem e327 (a b : List Tm) : F327 [.lst (a.map tv ++ b.map tv)] = some (.agg [I 4, .str [], Ts (a ++ b)]) := F327_eq (by rw [← List.map_append, cans_Tm])
theorem e321s (a : List Tm) (w : List UInt8) : F321 [.lst (a.map tv ++ [.agg [I 7, .str w, .nilS]])] = some (.agg [I 4, .str [], Ts (a ++ [varT w])]) := F321_eq (by
  rw [cans_map, List.map_append, ← cans_map, cans_Tm, List.map_append]; simp only [List.map_cons, List.map_nil, can, cans, tv_mk, Ts])
theorem tk (l : List Tm) (n : Nat) (h : l.length = n) : (l.map tv).take n = l.map tv := by rw [← h, take_len]

theorem l344 {T n k q caps} {F : List V → Option V} (bh : Nat → List Tm) (h31 : hand T 31 = some F331) (h27 : hand T 27 = some F327) (hq : hand T q = some F) (hok : okL.contains q = true)
    (hc1 : ∀ E s, frzs E s caps = some caps) (hc2 : refsL caps = []) (l : List Int) (hb : l.length ≤ 1000) (hv : ∀ x ∈ l, 0 ≤ x ∧ x < 41) (hF : ∀ i, i < l.length → F (I (i : Nat) :: caps) = some (Ts (bh i))) (hbh : ∀ i, i < l.length → (bh i).length ≤ 1001)
    {P : Option (Ex × St) → Prop} : ∀ r (d : List Tm) v5 n' s, l.drop d.length = r → r.length < n' → tget s.τ 1 = .fn (.func q) [] caps → tget s.τ 5 = .ref ⟨0, 5, 0⟩ v5 0 d.length → lget s.L (5, 0) = some (v5, .arr (sz3 d.length) (d.map tv)) → tget s.τ 8 = Is l → tget s.τ 9 = I l.length → tget s.τ 10 = I d.length →
    (∀ s' v5 (d' : List Tm), d' = d ++ cntL bh r d.length → tget s'.τ 5 = .ref ⟨0, 5, 0⟩ v5 0 d'.length → lget s'.L (5, 0) = some (v5, .arr (sz3 d'.length) (d'.map tv)) → P (X (M344 (hand T) n) (.exit 0) k s')) →
    P (L (M344 (hand T) n) (sub [1, 1, 0, 1, 0, 0] c344) n' k s)
  | [], d, v5, n' + 1, s, hi, hn, h1, h5, h5', h8, h9, h10, hx => by
    have hc := inlt (drop_nil' hi)
    rw [L_succ]
    simp only [vmr, vmw, vmp, vza, ↓reduceIte, Nat.reduceBEq, Nat.reduceLT, Nat.reduceAdd, Nat.reduceEqDiff, reduceCtorEq, vmt, vzb, vzc, vlen, vleaf, velems, oks, vst, vmd, ty, Nat.reduceLeDiff, Nat.reduceMul, Nat.reduceSub, c344, Tryd.f44, m344, h1, h5, h5', h8, h9, h10, hc]
    refine hx _ v5 d (by simp only [cntL, List.append_nil]) ?_ ?_
    all_goals simp only [vmr, vmw, vmp, vza, ↓reduceIte, Nat.reduceBEq, Nat.reduceLT, Nat.reduceAdd, Nat.reduceEqDiff, reduceCtorEq, vmt, vzb, vzc, vlen, vleaf, velems, oks, vst, vmd, ty, Nat.reduceLeDiff, Nat.reduceMul, Nat.reduceSub, m344, h5, h5']
  | x :: r, d, v5, n' + 1, s, hi, hn, h1, h5, h5', h8, h9, h10, hx => by
    obtain ⟨hg, hd, hlt⟩ := drop_cons hi
    have hc := ilt hlt
    have hw := wsucc hlt (by omega)
    have hx0 := hv x (List.mem_of_getElem? hg)
    have e1 := e331 hx0
    have e2 := hF _ hlt
    have hbl := hbh _ hlt
    have e3 := e327 (List.replicate x.toNat oneT) (bh d.length)
    have r1 := @room70 (x.toNat + (bh d.length).length) (by omega)
    have r2 := @room70 (d.length + 1) (by omega)
    have sn := map_snoc d (List.replicate x.toNat oneT ++ bh d.length)
    have hz := sz3_or d.length
    have t1 := tk (List.replicate x.toNat oneT ++ bh d.length) (x.toNat + (bh d.length).length) (by simp)
    rw [List.map_append] at t1
    have ih := fun v5 s => l344 (k := k) (n := n) (P := P) bh h31 h27 hq hok hc1 hc2 l hb hv hF hbh r (d ++ [grpT (List.replicate x.toNat oneT ++ bh d.length)]) v5 n' s (by simpa using hd) (by simp at hn; omega)
    simp only [List.length_append, List.length_cons, List.length_nil, sz3_s, Nat.zero_add] at ih
    simp only [sub, c344, Tryd.f44, gets] at ih
    rw [L_succ]
    simp only [vmr, vmw, vmp, vza, ↓reduceIte, Nat.reduceBEq, Nat.reduceLT, Nat.reduceAdd, Nat.reduceEqDiff, reduceCtorEq, vmt, vzb, vzc, vlen, vleaf, velems, oks, vst, vmd, ty, Nat.reduceLeDiff, Nat.reduceMul, Nat.reduceSub, c344, Tryd.f44, m344, h1, h5, h5', h8, h9, h10, hc, hg, hw, h31, h27, hq, hok, hc1, hc2, e1, e2, e3, r1, r2, room1, fits70s, hz, sn, t1, shT, List.length_replicate, List.map_cons, List.map_nil, List.nil_append, List.append_nil]
    refine ih (s.c + 1 + 1 + 1 + 1) _ ?_ ?_ ?_ ?_ ?_ ?_ (fun s' v5 d' hd' => hx s' v5 d' (by rw [hd', cntL, List.append_assoc]; rfl))
    all_goals simp only [vmr, vmw, vmp, vza, ↓reduceIte, Nat.reduceBEq, Nat.reduceLT, Nat.reduceAdd, Nat.reduceEqDiff, reduceCtorEq, vmt, vzb, vzc, vlen, vleaf, velems, oks, vst, vmd, ty, Nat.reduceLeDiff, Nat.reduceMul, Nat.reduceSub, m344, h1, h8, h9, sn, hw, List.length_append, List.length_cons, List.length_nil, List.length_map]
theorem w344 {T q caps} {F : List V → Option V} (hT : SoundHand Tryd.prog (hand T)) (bh : Nat → List Tm) (h31 : hand T 31 = some F331) (h27 : hand T 27 = some F327) (hq : hand T q = some F) (hok : okL.contains q = true)
    (hc1 : ∀ E s, frzs E s caps = some caps) (hc2 : refsL caps = []) (l : List Int) (hb : l.length ≤ 1000) (hv : ∀ x ∈ l, 0 ≤ x ∧ x < 41) (hF : ∀ i, i < l.length → F (I (i : Nat) :: caps) = some (Ts (bh i))) (hbh : ∀ i, i < l.length → (bh i).length ≤ 1001) :
    SoundPure Tryd.prog 44 [Is l, .fn (.func q) [] caps] (.ret (Ts (cntL bh l 0))) := by
  have key : SoundPure Tryd.prog 44 [Is l, .fn (.func q) [] caps] (.ret (oT (sz3 (cntL bh l 0).length) (cntL bh l 0))) := by
    refine s344 hT (l.length + 1) (by simp) rfl ?_
    have a1 := fun k P s => @l344 T (l.length + 1) k q caps F bh h31 h27 hq hok hc1 hc2 l hb hv hF hbh P l [] 0 (l.length + 1) s rfl (by omega)
    have z : sz3 0 = 0 := rfl
    simp only [sub, c344, Tryd.f44, gets, List.length_nil, List.map_nil, z, z0] at a1 ⊢
    simp only [vmr, vmw, vmp, vza, ↓reduceIte, Nat.reduceBEq, Nat.reduceLT, Nat.reduceAdd, Nat.reduceEqDiff, reduceCtorEq, vmt, vzb, vzc, vlen, vleaf, velems, oks, vst, vmd, ty, Nat.reduceLeDiff, Nat.reduceMul, Nat.reduceSub, m344]
    refine a1 _ (fun x => Fin _ _ x = _) _ ?_ ?_ ?_ ?_ ?_ ?_ (fun s' v5 d' hd h5 h5' => ?_)
    case refine_7 =>
      simp only [List.nil_append] at hd
      have t1 := tk d' d'.length rfl
      rw [← hd]
      simp only [vmr, vmw, vmp, vza, ↓reduceIte, Nat.reduceBEq, Nat.reduceLT, Nat.reduceAdd, Nat.reduceEqDiff, reduceCtorEq, vmt, vzb, vzc, vlen, vleaf, velems, oks, vst, vmd, ty, Nat.reduceLeDiff, Nat.reduceMul, Nat.reduceSub, vzr, m344, h5, h5', shT, t1]
    all_goals simp only [vmr, vmw, vmp, vza, ↓reduceIte, Nat.reduceBEq, Nat.reduceLT, Nat.reduceAdd, Nat.reduceEqDiff, reduceCtorEq, vmt, vzb, vzc, vlen, vleaf, velems, oks, vst, vmd, ty, Nat.reduceLeDiff, Nat.reduceMul, Nat.reduceSub, m344]
  have := sound_imm key rfl
  simpa only [imm, can, cans_Tm] using this
noncomputable def F344 (q : FuncId) (caps : List V) (bh : Nat → List Tm) (ok : List Int → Prop) : List V → Option V := hF (α := List Int) (fun l => [Is l, .fn (.func q) [] caps]) ok (fun l => Ts (cntL bh l 0))
theorem F344_eq {q caps bh ok} {l : List Int} (h : ok l) : F344 q caps bh ok [Is l, .fn (.func q) [] caps] = some (Ts (cntL bh l 0)) :=
  hF_eq (a := l) (fun a b h => by injection h with h; exact Is_inj h) (by simp only [cans, canIs]; rfl) h
/-- Few numbers that are right. -/
structure numsOk (l : List Int) : Prop where
  len : l.length ≤ 90
  num : ∀ x ∈ l, 0 ≤ x ∧ x < 41
noncomputable abbrev T344 : List (FuncId × (List V → Option V)) := [(31, F331), (27, F327)]
theorem h344 : SoundHand Tryd.prog (hand T344) := sound_cons (hF_sound fun n h => w331o h) <| sound_cons (hF_sound fun l _ => w327 l) sound_nil
abbrev restL (i : Nat) : List Tm := [restT i]
noncomputable def F367 : List V → Option V := hF (α := Nat) (fun n => [I n]) (fun n => n < 100) (fun n => Ts (restL n))
theorem F367_eq {n : Nat} (h : n < 100) : F367 [I n] = some (Ts (restL n)) := hF_eq (a := n) (one_inj' fun _ _ => nat_inj) rfl h
theorem w342 (l : List Int) (h : numsOk l) : SoundPure Tryd.prog 42 [Is l] (.ret (Ts (cntL restL l 0))) := by
  have hT : SoundHand Tryd.prog (hand [(44, F344 67 [] restL numsOk)]) := sound_cons (hF_sound fun l h => w344 (T := (67, F367) :: T344) (sound_cons (hF_sound fun n h => w367 h) h344) restL rfl rfl rfl rfl (fun _ _ => rfl) rfl l (by have := h.len; omega) h.num (fun i hi => F367_eq (by have := h.len; omega)) (fun i hi => by simp)) sound_nil
  refine s342 hT 1 (by simp) rfl ?_
  have e := F344_eq (q := 67) (caps := []) (bh := restL) h
  simp only [c342, Tryd.f42, gets]
  simp only [vmr, vmw, vmp, vza, ↓reduceIte, Nat.reduceBEq, Nat.reduceLT, Nat.reduceAdd, Nat.reduceEqDiff, reduceCtorEq, vmt, vzb, vzc, vlen, vleaf, velems, oks, vst, vmd, ty, Nat.reduceLeDiff, Nat.reduceMul, Nat.reduceSub, vzr, m342, e]
noncomputable def F342 : List V → Option V := hF (α := List Int) (fun l => [Is l]) numsOk (fun l => Ts (cntL restL l 0))
theorem F342_eq {l : List Int} (h : numsOk l) : F342 [Is l] = some (Ts (cntL restL l 0)) := hF_eq (a := l) (one_inj' fun _ _ => Is_inj) (by simp only [cans, canIs]) h
theorem F342_sound : ∀ args v, F342 args = some v → SoundPure Tryd.prog 42 args (.ret v) := hF_sound w342

/-! ### the reference's counters -/
noncomputable abbrev T319 : List (FuncId × (List V → Option V)) := [(25, F325), (48, F348), (21, F321)]
theorem h319 : SoundHand Tryd.prog (hand T319) := sound_cons (hF_sound fun n h => w325o h) <| sound_cons (hF_sound fun n h => w348 h) <| sound_cons (hF_sound fun l _ => w321 l) sound_nil
theorem l319 {n k} (l : List Int) (hl : numsOk l) {P : Option (Ex × St) → Prop} : ∀ r (d : List Tm) v3 n' s, l.drop d.length = r → r.length < n' → tget s.τ 0 = Is l → tget s.τ 3 = .ref ⟨0, 3, 0⟩ v3 0 d.length → lget s.L (3, 0) = some (v3, .arr (sz3 d.length) (d.map tv)) → tget s.τ 4 = I d.length →
    (∀ s' v3 (d' : List Tm), d' = d ++ cntL restL r d.length → tget s'.τ 3 = .ref ⟨0, 3, 0⟩ v3 0 d'.length → lget s'.L (3, 0) = some (v3, .arr (sz3 d'.length) (d'.map tv)) → P (X (M319 (hand T319) n) (.exit 0) k s')) →
    P (L (M319 (hand T319) n) (sub [1, 1, 0, 1, 0, 0] c319) n' k s)
  | [], d, v3, n' + 1, s, hi, hn, h0, h3, h3', h4, hx => by
    have hc := inlt (drop_nil' hi)
    rw [L_succ]
    simp only [vmr, vmw, vmp, vza, ↓reduceIte, Nat.reduceBEq, Nat.reduceLT, Nat.reduceAdd, Nat.reduceEqDiff, reduceCtorEq, vmt, vzb, vzc, vlen, vleaf, velems, oks, vst, vmd, ty, Nat.reduceLeDiff, Nat.reduceMul, Nat.reduceSub, c319, Tryd.f19, m319, h0, h3, h3', h4, hc]
    refine hx _ v3 d (by simp only [cntL, List.append_nil]) ?_ ?_
    all_goals simp only [vmr, vmw, vmp, vza, ↓reduceIte, Nat.reduceBEq, Nat.reduceLT, Nat.reduceAdd, Nat.reduceEqDiff, reduceCtorEq, vmt, vzb, vzc, vlen, vleaf, velems, oks, vst, vmd, ty, Nat.reduceLeDiff, Nat.reduceMul, Nat.reduceSub, m319, h3, h3']
  | x :: r, d, v3, n' + 1, s, hi, hn, h0, h3, h3', h4, hx => by
    obtain ⟨hg, hd, hlt⟩ := drop_cons hi
    have hll := hl.len
    have hc := ilt hlt
    have hw := wsucc hlt (by omega)
    have hx0 := hl.num x (List.mem_of_getElem? hg)
    have e1 := e325 hx0
    have e2 := F348_eq (n := d.length) (by omega)
    have e3 := e321s (List.replicate x.toNat oneT) (99 :: dig d.length)
    have r1 := @room70 (x.toNat + 1) (by omega)
    have r2 := @room70 (d.length + 1) (by omega)
    have sn := map_snoc d (List.replicate x.toNat oneT ++ restL d.length)
    have hz := sz3_or d.length
    have hz2 := sz3_or x.toNat
    have tk1 := List.take_of_length_le (i := x.toNat + 1) (l := (List.replicate x.toNat oneT).map tv ++ [V.agg [I 7, .str (99 :: dig d.length), .nilS]]) (by simp)
    have ih := fun v3 s => l319 (k := k) (n := n) (P := P) l hl r (d ++ [grpT (List.replicate x.toNat oneT ++ restL d.length)]) v3 n' s (by simpa using hd) (by simp at hn; omega)
    simp only [List.length_append, List.length_cons, List.length_nil, sz3_s, Nat.zero_add] at ih
    simp only [sub, c319, Tryd.f19, gets] at ih
    rw [L_succ]
    simp only [vmr, vmw, vmp, vza, ↓reduceIte, Nat.reduceBEq, Nat.reduceLT, Nat.reduceAdd, Nat.reduceEqDiff, reduceCtorEq, vmt, vzb, vzc, vlen, vleaf, velems, oks, vst, vmd, ty, Nat.reduceLeDiff, Nat.reduceMul, Nat.reduceSub, c319, Tryd.f19, m319, h0, h3, h3', h4, hc, hg, hw, e1, e2, e3, r1, r2, room1, fits70s, hz, hz2, sn, tk1, shT, List.length_replicate, List.map_cons, List.map_nil, List.nil_append, List.append_nil]
    refine ih (s.c + 1 + 1 + 1 + 1 + 1) _ ?_ ?_ ?_ ?_ (fun s' v3 d' hd' => hx s' v3 d' (by rw [hd', cntL, List.append_assoc]; rfl))
    all_goals simp only [vmr, vmw, vmp, vza, ↓reduceIte, Nat.reduceBEq, Nat.reduceLT, Nat.reduceAdd, Nat.reduceEqDiff, reduceCtorEq, vmt, vzb, vzc, vlen, vleaf, velems, oks, vst, vmd, ty, Nat.reduceLeDiff, Nat.reduceMul, Nat.reduceSub, m319, h0, sn, hw, List.length_append, List.length_cons, List.length_nil, List.length_map]
theorem w319o (l : List Int) (h : numsOk l) : SoundPure Tryd.prog 19 [Is l] (.ret (oT (sz3 (cntL restL l 0).length) (cntL restL l 0))) := by
  refine s319 h319 (l.length + 1) (by simp) rfl ?_
  have a1 := fun k P s => @l319 (l.length + 1) k l h P l [] 0 (l.length + 1) s rfl (by omega)
  have z : sz3 0 = 0 := rfl
  simp only [sub, c319, Tryd.f19, gets, List.length_nil, List.map_nil, z, z0] at a1 ⊢
  simp only [vmr, vmw, vmp, vza, ↓reduceIte, Nat.reduceBEq, Nat.reduceLT, Nat.reduceAdd, Nat.reduceEqDiff, reduceCtorEq, vmt, vzb, vzc, vlen, vleaf, velems, oks, vst, vmd, ty, Nat.reduceLeDiff, Nat.reduceMul, Nat.reduceSub, m319]
  refine a1 _ (fun x => Fin _ _ x = _) _ ?_ ?_ ?_ ?_ (fun s' v3 d' hd h3 h3' => ?_)
  case refine_5 =>
    simp only [List.nil_append] at hd
    have t1 := tk d' d'.length rfl
    rw [← hd]
    simp only [vmr, vmw, vmp, vza, ↓reduceIte, Nat.reduceBEq, Nat.reduceLT, Nat.reduceAdd, Nat.reduceEqDiff, reduceCtorEq, vmt, vzb, vzc, vlen, vleaf, velems, oks, vst, vmd, ty, Nat.reduceLeDiff, Nat.reduceMul, Nat.reduceSub, vzr, m319, h3, h3', shT, t1]
  all_goals simp only [vmr, vmw, vmp, vza, ↓reduceIte, Nat.reduceBEq, Nat.reduceLT, Nat.reduceAdd, Nat.reduceEqDiff, reduceCtorEq, vmt, vzb, vzc, vlen, vleaf, velems, oks, vst, vmd, ty, Nat.reduceLeDiff, Nat.reduceMul, Nat.reduceSub, m319]
theorem w319 (l : List Int) (h : numsOk l) : SoundPure Tryd.prog 19 [Is l] (.ret (Ts (cntL restL l 0))) := by
  have := sound_imm (w319o l h) rfl
  simpa only [imm, can, cans_Tm] using this
noncomputable def F319 : List V → Option V := hF (α := List Int) (fun l => [Is l]) numsOk (fun l => Ts (cntL restL l 0))
theorem F319_eq {l : List Int} (h : numsOk l) : F319 [Is l] = some (Ts (cntL restL l 0)) := hF_eq (a := l) (one_inj' fun _ _ => Is_inj) (by simp only [cans, canIs]) h
theorem F319_sound : ∀ args v, F319 args = some v → SoundPure Tryd.prog 19 args (.ret v) := hF_sound w319
end Go.Vi
set_option maxRecDepth 100000
set_option maxHeartbeats 1000000
namespace Go.Vi
open Go Go.Proofs

abbrev vT (w : List UInt8) : V := .agg [I 7, .str w, .nilS]
theorem cansN (N : List (List UInt8)) : cans (N.map vT) = (N.map fun w => varT w).map tv := by
  rw [cans_map, List.map_map, List.map_map]
  exact List.map_congr_left fun w _ => by simp only [Function.comp, can, cans, tv_mk, Ts, List.map_nil]
theorem shN (N : List (List UInt8)) : pureRL (N.map vT) = true := by
  induction N with
  | nil => rfl
  | cons w r ih => simp only [List.map_cons, pureRL, pureR, ih, Bool.and_self]
/-- A rule that is right for so many counters. -/
structure rOk (r : Rule) (n : Nat) : Prop where
  n8 : n ≤ 8
  tl : r.take.length = n
  gl : r.give.length = n
  tn : ∀ x ∈ r.take, 0 ≤ x ∧ x < 41
  gn : ∀ x ∈ r.give, 0 ≤ x ∧ x < 41
  cn : ∀ c ∈ r.clear, 0 ≤ c ∧ c < 100
  cl : r.clear.length ≤ 1000
def clrN (i : Nat) (l : List Int) : List (List UInt8) := (l.filter fun c => c != (i : Int)).map fun c => 99 :: dig c.toNat
def bhN (r : Rule) (i : Nat) : List (List UInt8) := (if ((i : Int) == r.into || !hasI r.clear i) = true then [99 :: dig i] else []) ++ (if ((i : Int) == r.into) = true then clrN i r.clear else [])
def bhS (r : Rule) (i : Nat) : List Tm := (bhN r i).map fun w => varT w
theorem e366 {x : Int} (h : 0 ≤ x ∧ x < 100) : F366 [I x] = some (vT (99 :: dig x.toNat)) := by
  have := F366_eq (n := x.toNat) (by omega)
  rwa [show ((x.toNat : Nat) : Int) = x by omega] at this
theorem e348 {x : Int} (h : 0 ≤ x ∧ x < 100) : F348 [I x] = some (vT (99 :: dig x.toNat)) := by
  have := F348_eq (n := x.toNat) (by omega)
  rwa [show ((x.toNat : Nat) : Int) = x by omega] at this
noncomputable abbrev T364 : List (FuncId × (List V → Option V)) := [(65, F365), (66, F366)]
theorem h364 : SoundHand Tryd.prog (hand T364) := sound_cons (hF_sound fun a h => w365 a.1 a.2 h) <| sound_cons (hF_sound fun n h => w366 h) sound_nil
theorem clrN_pos {i : Nat} {c : Int} {q : List Int} (h : (c != (i : Int)) = true) : clrN i (c :: q) = (99 :: dig c.toNat) :: clrN i q := by simp only [clrN, List.filter_cons, h, if_true, List.map_cons]
theorem clrN_neg {i : Nat} {c : Int} {q : List Int} (h : (c != (i : Int)) = false) : clrN i (c :: q) = clrN i q := by simp only [clrN, List.filter_cons, h, Bool.false_eq_true, if_false]
theorem l364 {n k} (r : Rule) (i : Nat) (hc : ∀ c ∈ r.clear, 0 ≤ c ∧ c < 100) {P : Option (Ex × St) → Prop} : ∀ q (N : List (List UInt8)) j v4 n' s, r.clear.drop j = q → q.length < n' → N.length + q.length ≤ 2000 → r.clear.length ≤ 1000 → tget s.τ 0 = I i → tget s.τ 4 = .ref ⟨0, 4, 0⟩ v4 0 N.length → lget s.L (4, 0) = some (v4, .arr (sz3 N.length) (N.map vT)) → tget s.τ 28 = Is r.clear → tget s.τ 29 = I r.clear.length → tget s.τ 30 = I (j : Nat) →
    (∀ s' v4 (N' : List (List UInt8)), N' = N ++ clrN i q → tget s'.τ 4 = .ref ⟨0, 4, 0⟩ v4 0 N'.length → lget s'.L (4, 0) = some (v4, .arr (sz3 N'.length) (N'.map vT)) → P (X (M364 (hand T364) n) (.exit 0) k s')) →
    P (L (M364 (hand T364) n) (sub [1, 1, 1, 0, 1, 0, 1, 0, 0] c364) n' k s)
  | [], N, j, v4, n' + 1, s, hi, hn, hb, hcl, h0, h4, h4', h28, h29, h30, hx => by
    have hc := inlt (drop_nil' hi)
    rw [L_succ]
    simp only [vmr, vmw, vmp, vza, ↓reduceIte, Nat.reduceBEq, Nat.reduceLT, Nat.reduceAdd, Nat.reduceEqDiff, reduceCtorEq, vmt, vzb, vzc, vlen, vleaf, velems, oks, vst, vmd, ty, Nat.reduceLeDiff, Nat.reduceMul, Nat.reduceSub, c364, Tryd.f64, m364, h0, h4, h4', h28, h29, h30, hc]
    refine hx _ v4 N (by simp [clrN]) ?_ ?_
    all_goals simp only [vmr, vmw, vmp, vza, ↓reduceIte, Nat.reduceBEq, Nat.reduceLT, Nat.reduceAdd, Nat.reduceEqDiff, reduceCtorEq, vmt, vzb, vzc, vlen, vleaf, velems, oks, vst, vmd, ty, Nat.reduceLeDiff, Nat.reduceMul, Nat.reduceSub, m364, h4, h4']
  | c :: q, N, j, v4, n' + 1, s, hi, hn, hb, hcl, h0, h4, h4', h28, h29, h30, hx => by
    obtain ⟨hg, hd, hlt⟩ := drop_cons hi
    have hlt' := ilt hlt
    have hw := wsucc hlt (by omega)
    have e1 := e366 (hc c (List.mem_of_getElem? hg))
    have hz := sz3_or N.length
    simp only [List.length_cons] at hb hn
    have r2 := @room70 (N.length + 1) (by omega)
    rw [L_succ]
    cases hp : (c != (i : Int)) with
    | true =>
      have ih := fun v4 s => l364 (k := k) (n := n) (P := P) r i hc q (N ++ [99 :: dig c.toNat]) (j + 1) v4 n' s hd (by omega) (by simp; omega) hcl
      simp only [List.length_append, List.length_cons, List.length_nil, sz3_s, Nat.zero_add, List.map_append, List.map_cons, List.map_nil] at ih
      simp only [sub, c364, Tryd.f64, gets] at ih
      simp only [vmr, vmw, vmp, vza, ↓reduceIte, Nat.reduceBEq, Nat.reduceLT, Nat.reduceAdd, Nat.reduceEqDiff, reduceCtorEq, vmt, vzb, vzc, vlen, vleaf, velems, oks, vst, vmd, ty, Nat.reduceLeDiff, Nat.reduceMul, Nat.reduceSub, c364, Tryd.f64, m364, h0, h4, h4', h28, h29, h30, hlt', hg, hw, hp, e1, r2, room1, hz, List.map_cons, List.map_nil]
      refine ih (s.c + 1 + 1) _ ?_ ?_ ?_ ?_ ?_ ?_ (fun s' v4 N' hN => hx s' v4 N' (by rw [hN, clrN_pos hp, List.append_assoc]; rfl))
      all_goals simp only [vmr, vmw, vmp, vza, ↓reduceIte, Nat.reduceBEq, Nat.reduceLT, Nat.reduceAdd, Nat.reduceEqDiff, reduceCtorEq, vmt, vzb, vzc, vlen, vleaf, velems, oks, vst, vmd, ty, Nat.reduceLeDiff, Nat.reduceMul, Nat.reduceSub, m364, h0, h28, h29, hw, List.length_append, List.length_cons, List.length_nil, List.length_map]
    | false =>
      have ih := fun s => l364 (k := k) (n := n) (P := P) r i hc q N (j + 1) v4 n' s hd (by omega) (by omega) hcl
      simp only [sub, c364, Tryd.f64, gets] at ih
      simp only [vmr, vmw, vmp, vza, ↓reduceIte, Nat.reduceBEq, Nat.reduceLT, Nat.reduceAdd, Nat.reduceEqDiff, reduceCtorEq, vmt, vzb, vzc, vlen, vleaf, velems, oks, vst, vmd, ty, Nat.reduceLeDiff, Nat.reduceMul, Nat.reduceSub, c364, Tryd.f64, m364, h0, h4, h4', h28, h29, h30, hlt', hg, hw, hp]
      refine ih _ ?_ ?_ ?_ ?_ ?_ ?_ (fun s' v4 N' hN => hx s' v4 N' (by rw [hN, clrN_neg hp]))
      all_goals simp only [vmr, vmw, vmp, vza, ↓reduceIte, Nat.reduceBEq, Nat.reduceLT, Nat.reduceAdd, Nat.reduceEqDiff, reduceCtorEq, vmt, vzb, vzc, vlen, vleaf, velems, oks, vst, vmd, ty, Nat.reduceLeDiff, Nat.reduceMul, Nat.reduceSub, m364, h0, h4, h4', h28, h29, hw]
theorem w364 (r : Rule) (i : Nat) (hi : i < 100) (hc : ∀ c ∈ r.clear, 0 ≤ c ∧ c < 100) (hl : r.clear.length ≤ 1000) : SoundPure Tryd.prog 64 [I i, .iptr r.cs] (.ret (Ts (bhS r i))) := by
  have key : SoundPure Tryd.prog 64 [I i, .iptr r.cs] (.ret (.own (sz3 (bhN r i).length) ((bhN r i).map vT))) := by
    refine s364 h364 (r.clear.length + 1) (by simp) rfl ?_
    have e1 := F365_eq (l := r.clear) (i : Int) (by omega)
    have e2 := F366_eq hi
    have z : sz3 0 = 0 := rfl
    have a1 := fun k P N v4 s => @l364 (r.clear.length + 1) k r i hc P r.clear N 0 v4 (r.clear.length + 1) s rfl (by omega)
    simp only [sub, c364, Tryd.f64, gets] at a1 ⊢
    cases h1 : ((i : Int) == r.into) with
    | true =>
      simp only [vmr, vmw, vmp, vza, ↓reduceIte, Nat.reduceBEq, Nat.reduceLT, Nat.reduceAdd, Nat.reduceEqDiff, reduceCtorEq, vmt, vzb, vzc, vlen, vleaf, velems, oks, vst, vmd, ty, Nat.reduceLeDiff, Nat.reduceMul, Nat.reduceSub, m364, h1, e2, room1, List.map_cons, List.map_nil]
      have a2 := fun k s => a1 k (fun x => Fin (M364 (hand T364) (r.clear.length + 1)) [.tmp 3] x = some (.ret (.own (sz3 (bhN r i).length) ((bhN r i).map vT)))) [99 :: dig i] 3 s (by simp; omega) hl
      refine a2 _ _ ?_ ?_ ?_ ?_ ?_ ?_ (fun s' v4 N' hN h4 h4' => ?_)
      case refine_7 =>
        have t1 : (N'.map vT).take N'.length = N'.map vT := take_len vT N'
        rw [show bhN r i = N' by rw [hN]; simp [bhN, h1]]
        simp only [vmr, vmw, vmp, vza, ↓reduceIte, Nat.reduceBEq, Nat.reduceLT, Nat.reduceAdd, Nat.reduceEqDiff, reduceCtorEq, vmt, vzb, vzc, vlen, vleaf, velems, oks, vst, vmd, ty, Nat.reduceLeDiff, Nat.reduceMul, Nat.reduceSub, vzr, m364, h4, h4', shN, t1]
      all_goals simp only [vmr, vmw, vmp, vza, ↓reduceIte, Nat.reduceBEq, Nat.reduceLT, Nat.reduceAdd, Nat.reduceEqDiff, reduceCtorEq, vmt, vzb, vzc, vlen, vleaf, velems, oks, vst, vmd, ty, Nat.reduceLeDiff, Nat.reduceMul, Nat.reduceSub, m364, sz3_s, List.map_cons, List.map_nil]
    | false =>
      cases h2 : hasI r.clear (i : Int) with
      | true =>
        rw [h2] at e1
        rw [show bhN r i = [] by simp [bhN, h1, h2]]
        simp only [vmr, vmw, vmp, vza, ↓reduceIte, Nat.reduceBEq, Nat.reduceLT, Nat.reduceAdd, Nat.reduceEqDiff, reduceCtorEq, vmt, vzb, vzc, vlen, vleaf, velems, oks, vst, vmd, ty, Nat.reduceLeDiff, Nat.reduceMul, Nat.reduceSub, vzr, m364, h1, e1, z, List.map_nil]
      | false =>
        rw [h2] at e1
        rw [show bhN r i = [99 :: dig i] by simp [bhN, h1, h2]]
        simp only [vmr, vmw, vmp, vza, ↓reduceIte, Nat.reduceBEq, Nat.reduceLT, Nat.reduceAdd, Nat.reduceEqDiff, reduceCtorEq, vmt, vzb, vzc, vlen, vleaf, velems, oks, vst, vmd, ty, Nat.reduceLeDiff, Nat.reduceMul, Nat.reduceSub, vzr, m364, h1, e1, e2, room1, sz3_s, List.map_cons, List.map_nil]
  have := sound_imm key rfl
  simp only [imm, can, cansN] at this
  exact this
end Go.Vi
set_option maxRecDepth 100000
set_option maxHeartbeats 4000000
namespace Go.Vi
open Go Go.Proofs

abbrev sRules : List UInt8 := [114, 117, 108, 101, 115]
abbrev sLoop : List UInt8 := [76, 111, 111, 112]
abbrev sMore : List UInt8 := [109, 111, 114, 101]
abbrev sMain : List UInt8 := [77, 97, 105, 110]
abbrev sTest : List UInt8 := [84, 101, 115, 116]
abbrev sBad : List UInt8 := [66, 97, 100]
abbrev sGood : List UInt8 := [71, 111, 111, 100]
theorem cntL_len {bh : Nat → List Tm} : ∀ (l : List Int) (i : Nat), (cntL bh l i).length = l.length
  | [], _ => rfl
  | x :: r, i => by simp only [cntL, List.length_cons, cntL_len r]
theorem tkc (x : V) (l : List Tm) : (x :: l.map tv).take (1 + l.length) = x :: l.map tv := by
  rw [Nat.add_comm]; simp only [List.take_succ_cons, take_len]
noncomputable def F330 : List V → Option V := hF (α := Nat) (fun n => [I n]) (fun n => n < 100) (fun n => .agg [I 3, .str (dig n), .nilS])
theorem F330_eq {n : Nat} (h : n < 100) : F330 [I n] = some (.agg [I 3, .str (dig n), .nilS]) := hF_eq (a := n) (one_inj' fun _ _ => nat_inj) rfl h
theorem str_inj (a b : List UInt8) (h : V.str a = .str b) : a = b := by injection h
noncomputable def F328 : List V → Option V := hF (α := List UInt8) (fun b => [.str b]) (fun _ => True) (fun b => vT b)
theorem F328_eq (b : List UInt8) : F328 [.str b] = some (vT b) := hF_eq (a := b) (one_inj' str_inj) rfl trivial
noncomputable def F324 : List V → Option V := hF (α := List UInt8) (fun b => [.str b]) (fun _ => True) (fun b => vT b)
theorem F324_eq (b : List UInt8) : F324 [.str b] = some (vT b) := hF_eq (a := b) (one_inj' str_inj) rfl trivial
noncomputable def F326 : List V → Option V := hF (α := List UInt8 × List Tm) (fun a => [.str a.1, Ts a.2]) (fun _ => True) (fun a => .own 3 [.agg [I 8, .str a.1, Ts a.2]])
theorem F326_eq {b : List UInt8} {es : List V} {l : List Tm} (h : cans es = l.map tv) : F326 [.str b, .lst es] = some (.own 3 [.agg [I 8, .str b, Ts l]]) :=
  hF_eq (a := (b, l)) (two_inj str_inj (fun _ _ => Ts_inj)) (by simp only [cans, can, h]) trivial
noncomputable def F322 : List V → Option V := hF (α := List UInt8 × List Tm) (fun a => [.str a.1, Ts a.2]) (fun _ => True) (fun a => .own 3 [.agg [I 8, .str a.1, Ts a.2]])
theorem F322_eq {b : List UInt8} {es : List V} {l : List Tm} (h : cans es = l.map tv) : F322 [.str b, .lst es] = some (.own 3 [.agg [I 8, .str b, Ts l]]) :=
  hF_eq (a := (b, l)) (two_inj str_inj (fun _ _ => Ts_inj)) (by simp only [cans, can, h]) trivial
theorem canT1 (x : Tm) (es : List V) (l : List Tm) (h : cans es = l.map tv) (v : V) (hv : can v = tv x) : cans (v :: es) = (x :: l).map tv := by simp only [cans, hv, h, List.map_cons]
theorem canV (w : List UInt8) : can (vT w) = tv (varT w) := by simp only [can, cans, tv_mk, Ts, List.map_nil]
theorem canNum (w : List UInt8) : can (.agg [I 3, .str w, .nilS]) = tv (.mk 3 w []) := by simp only [can, cans, tv_mk, Ts, List.map_nil]
theorem canG (l : List Tm) : can (.agg [I 4, .str [], Ts l]) = tv (grpT l) := by rw [tv_mk]; simp only [can, cans, cans_Tm]
theorem nilCan : cans [] = ([] : List Tm).map tv := rfl
/-- A sentence. -/
abbrev sentV (a b : List Tm) : V := .agg [Ts a, .lst [], Ts b, .lst [], .lst []]
def sentL (r : Rule) (i : Nat) : List Tm := grpT [numT i, varT sRules] :: cntL restL r.take 0
def sentR (r : Rule) : List Tm := [callT sLoop (grpT [varT sRules] :: cntL (bhS r) r.give 0)]
theorem rOk.nums {r n} (h : rOk r n) : numsOk r.take ∧ numsOk r.give := ⟨⟨by have := h.n8; have := h.tl; omega, h.tn⟩, ⟨by have := h.n8; have := h.gl; omega, h.gn⟩⟩
theorem bhS_len (r : Rule) (i : Nat) : (bhS r i).length ≤ r.clear.length + 1 := by
  have h : (clrN i r.clear).length ≤ r.clear.length := by
    unfold clrN; rw [List.length_map]; exact List.length_filter_le ..
  unfold bhS bhN
  rw [List.length_map, List.length_append]
  have h1 : (if ((i : Int) == r.into || !hasI r.clear i) = true then [99 :: dig i] else []).length ≤ 1 := by split <;> simp
  have h2 : (if ((i : Int) == r.into) = true then clrN i r.clear else []).length ≤ r.clear.length := by split <;> simp [h]
  omega
theorem w341 (r : Rule) (i n : Nat) (hi : i < 100) (hr : rOk r n) : SoundPure Tryd.prog 41 [r.v, I i] (.ret (sentV (sentL r i) (sentR r))) := by
  obtain ⟨n1, n2⟩ := hr.nums
  have g8 := hr.n8
  have gl := hr.gl
  have tl := hr.tl
  have hb : ∀ i, i < r.give.length → (bhS r i).length ≤ 1001 := fun i _ => by have := bhS_len r i; have := hr.cl; omega
  have key : SoundPure Tryd.prog 41 [r.v, I i] (.ret (.agg [oT 3 (sentL r i), .nilS, .lst [.agg [I 8, .str sLoop, Ts (grpT [varT sRules] :: cntL (bhS r) r.give 0)]], .nilS, .nilS])) := by
    have hF64 : SoundHand Tryd.prog (hand [(64, hF (α := Nat) (fun i => [I i, .iptr r.cs]) (fun i => i < 100) (fun i => Ts (bhS r i)))]) := sound_cons (hF_sound fun i h => w364 r i h hr.cn hr.cl) sound_nil
    have hT : SoundHand Tryd.prog (hand [(28, F328), (44, F344 64 [.iptr r.cs] (bhS r) (fun l => l = r.give)), (30, F330), (27, F327), (42, F342), (26, F326)]) := by
      refine sound_cons (hF_sound fun b _ => w328 b) <| sound_cons (hF_sound fun l hl => ?_) <| sound_cons (hF_sound fun n h => w330 h) <| sound_cons (hF_sound fun l _ => w327 l) <| sound_cons F342_sound <| sound_cons (hF_sound fun a _ => w326 a.1 a.2) sound_nil
      subst hl
      refine w344 (T := (64, hF (α := Nat) (fun i => [I i, .iptr r.cs]) (fun i => i < 100) (fun i => Ts (bhS r i))) :: T344) (sound_cons (hF_sound fun i h => w364 r i h hr.cn hr.cl) h344) (bhS r) rfl rfl rfl rfl (fun _ _ => rfl) rfl r.give (by omega) hr.gn (fun i hi => ?_) (fun i hi => ?_)
      · exact hF_eq (a := i) (fun a b h => by injection h with h; exact nat_inj h) rfl (by omega)
      · have := bhS_len r i; have := hr.cl; omega
    refine s341 hT 1 (by simp) rfl ?_
    have e1 := F328_eq sRules
    have e2 := F344_eq (q := 64) (caps := [.iptr r.cs]) (bh := bhS r) (ok := fun l => l = r.give) (l := r.give) rfl
    have e3 := F330_eq hi
    have e4 : F327 [.lst [.agg [I 3, .str (dig i), .nilS], vT sRules]] = some (.agg [I 4, .str [], Ts [numT i, varT sRules]]) := F327_eq (canT1 _ _ _ (canT1 _ _ _ nilCan _ (canV _)) _ (canNum _))
    have e5 := F342_eq n1
    have e6 : F327 [.lst [vT sRules]] = some (.agg [I 4, .str [], Ts [varT sRules]]) := F327_eq (canT1 _ _ _ nilCan _ (canV _))
    have e7 : F326 [.str sLoop, .lst (.agg [I 4, .str [], Ts [varT sRules]] :: (cntL (bhS r) r.give 0).map tv)] = some (.own 3 [.agg [I 8, .str sLoop, Ts (grpT [varT sRules] :: cntL (bhS r) r.give 0)]]) := F326_eq (canT1 _ _ _ (cans_Tm _) _ (canG _))
    have hd := @d341_3 (hand [(28, F328), (44, F344 64 [.iptr r.cs] (bhS r) (fun l => l = r.give)), (30, F330), (27, F327), (42, F342), (26, F326)]) 1
    have r1 := @room70 (1 + (cntL restL r.take 0).length) (by rw [cntL_len]; omega)
    have r2 := @room70 (1 + (cntL (bhS r) r.give 0).length) (by rw [cntL_len]; omega)
    have t1 := take_len tv (cntL (bhS r) r.give 0)
    have t2 := take_len tv (cntL restL r.take 0)
    simp only [sub, c341, Tryd.f41, gets, opsAt] at hd ⊢
    simp only [vmr, vmw, vmp, vza, ↓reduceIte, Nat.reduceBEq, Nat.reduceLT, Nat.reduceAdd, Nat.reduceEqDiff, reduceCtorEq, vmt, vzb, vzc, vlen, vleaf, velems, oks, vst, vmd, ty, Nat.reduceLeDiff, Nat.reduceMul, Nat.reduceSub, vzr, m341, e1, e2, e3, e4, e5, e6, e7, hd, r1, r2, room1, room2, tkc, t1, t2, fits70s, List.map_cons, List.map_nil]
    simp only [oT, sentL, List.map_cons, tv_mk]
  have := sound_imm key rfl
  simp only [imm, immL, can, cans, cans_Tm] at this
  simp only [sentR, sentV, Ts, List.map_cons, List.map_nil, tv_mk]
  exact this
/-- Left sides and right sides, as values. -/
noncomputable def F341 : List V → Option V := hF (α := Rule × Nat) (fun a => [a.1.v, I a.2]) (fun a => a.2 < 100 ∧ ∃ n, rOk a.1 n) (fun a => sentV (sentL a.1 a.2) (sentR a.1))
theorem F341_eq {r : Rule} {i : Nat} (hi : i < 100) (hr : ∃ n, rOk r n) : F341 [r.v, I i] = some (sentV (sentL r i) (sentR r)) :=
  hF_eq (a := (r, i)) (two_inj (fun _ _ => Rule_inj) (fun _ _ => nat_inj)) (by simp only [cans, canRulev]; rfl) ⟨hi, hr⟩
theorem F341_sound : ∀ args v, F341 args = some v → SoundPure Tryd.prog 41 args (.ret v) := hF_sound fun a ⟨h1, n, h2⟩ => w341 a.1 a.2 n h1 h2
end Go.Vi
