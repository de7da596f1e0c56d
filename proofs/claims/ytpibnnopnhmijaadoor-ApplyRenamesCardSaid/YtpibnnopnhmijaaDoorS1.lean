/-
  The kit's contract of slices.Grow at this program, as the kit's own tool has laid it in plain words.
-/
import Derived.Shelf.Spec.SlicesGrow
import Derived.KernelRfl
import Derived.Test.YtpibnnopnhmijaaDoorProg
import Derived.Test.YtpibnnopnhmijaaDoorRE
set_option linter.unusedSimpArgs false
set_option linter.unusedVariables false
namespace Go.Proofs
open Go.Shelf
def Tryd.lays8n4_ren : Go.Shelf.Ren := ⟨fun | 4 => 39 | n => n, fun | 22 => 22 | 25 => 35 | 3 => 3 | 4 => 4 | 9 => 9 | 20 => 20 | 0 => 0 | n => n, fun | n => n⟩
theorem Tryd.lays8n4 : Go.Proofs.Lays8.n4 Tryd.prog Tryd.lays8n4_ren := {
  mixed := by kernel_rfl
  f4 := ⟨Tryd.f39.name, by decide, Tryd.func39.trans (congrArg some (by kernel_rfl))⟩
  t0 := Tryd.underlying0
  a0 := Tryd.isAgg0
  z0 := Tryd.sizeOf0
  v0 := Tryd.zeroValue0
  t3 := Tryd.underlying3
  a3 := Tryd.isAgg3
  z3 := Tryd.sizeOf3
  v3 := Tryd.zeroValue3
  t4 := Tryd.underlying4
  a4 := Tryd.isAgg4
  z4 := Tryd.sizeOf4
  v4 := Tryd.zeroValue4
  t9 := Tryd.underlying9
  a9 := Tryd.isAgg9
  z9 := Tryd.sizeOf9
  v9 := Tryd.zeroValue9
  t20 := Tryd.underlying20
  a20 := Tryd.isAgg20
  z20 := Tryd.sizeOf20
  v20 := Tryd.zeroValue20
  t22 := Tryd.underlying22
  a22 := Tryd.isAgg22
  z22 := Tryd.sizeOf22
  v22 := Tryd.zeroValue22 }
end Go.Proofs
set_option maxRecDepth 100000
set_option maxHeartbeats 1000000
namespace Go.Vi
open Go Go.Proofs

mutual
theorem lmT_sz : ∀ (t : Tm) (most n : Int), 0 ≤ n → n + 1 ≤ most → lmT most n t ≤ most → lmT most n t = n + szt t
  | .mk k s c, most, n, h0, h1, h => by
    simp only [lmT] at h ⊢
    have := lmL_sz c (most - (n + 1)) 0 (by omega) (by omega) (by omega)
    rw [this]
    simp only [szt]
    omega
theorem lmL_sz : ∀ (l : List Tm) (most n : Int), 0 ≤ most → 0 ≤ n → lmL most n l ≤ most → lmL most n l = n + szs l
  | [], most, n, h0, h1, h => by simp only [lmL, szs]; omega
  | t :: r, most, n, h0, h1, h => by
    simp only [lmL] at h ⊢
    by_cases q : n + 1 > most
    · rw [if_pos q] at h; omega
    · rw [if_neg q] at h ⊢
      obtain ⟨b1, b2⟩ := szT_le t most n h1 (by omega)
      obtain ⟨b3, b4⟩ := szL_le r most (lmT most n t) h0 (by omega)
      rw [lmL_sz r most _ h0 (by omega) h, lmT_sz t most n h1 (by omega) (by omega)]
      simp only [szs]
      omega
end
theorem few_sz : ∀ (l : List Bn) (most n : Int), 0 ≤ most → 0 ≤ n → fewL most n l ≤ most → n ≤ fewL most n l ∧ ∀ b ∈ l, (szs b.e : Int) ≤ most
  | [], most, n, h0, h1, h => ⟨Int.le_refl _, fun b hb => (by cases hb)⟩
  | b :: r, most, n, h0, h1, h => by
    simp only [fewL] at h ⊢
    by_cases q : n > most
    · rw [if_pos q] at h; omega
    · rw [if_neg q] at h ⊢
      obtain ⟨b1, b2⟩ := szL_le b.e (most - n) 0 (by omega) (by omega)
      obtain ⟨h2, h3⟩ := few_sz r most (n + lmL (most - n) 0 b.e) h0 (by omega) h
      refine ⟨by omega, fun c hc => ?_⟩
      rcases List.mem_cons.1 hc with rfl | hc
      · have := lmL_sz c.e (most - n) 0 (by omega) (by omega) (by omega)
        omega
      · exact h3 c hc
/-- No text of the arguments is longer than memory. -/
def argB (l : List Bn) : Prop := ∀ b ∈ l, b.x.length ≤ 1000000000000000 ∧ txs b.e
theorem bns_of {l : List Bn} {most : Int} (ha : argB l) (hm : 0 ≤ most) (hM : most ≤ 1000) (h : fewL most l.length l ≤ most) : bnsOk l := by
  obtain ⟨h1, h2⟩ := few_sz l most l.length hm (by omega) h
  exact ⟨by omega, fun b hb => ⟨(ha b hb).1, by have := h2 b hb; omega, (ha b hb).2⟩⟩
theorem toB_sz (e : List Tm) (l : List Bn) : szs (toB e l).1 ≤ 4000 := by
  unfold toB toL
  split
  · simp [szs]
  · split
    · simp [szs]
    · split
      · simp [szs]
      · exact nd_sz (by omega)
end Go.Vi
set_option maxRecDepth 100000
set_option maxHeartbeats 1000000
namespace Go.Vi
open Go Go.Proofs Go.RowKit

theorem info35 : ∃ i z, Tryd.prog.info? 35 = some i ∧ i.zero = some z ∧ i.size = 3 ∧ i.bytes = 48 ∧ z.cells.size = 3 := by
  have h1 : (Tryd.prog.info? 35).map (fun i => (i.size, i.bytes)) = some (3, 48) := by kernel_rfl
  have h2 : ((Tryd.prog.info? 35).bind (·.zero)).map (·.cells.size) = some 3 := by kernel_rfl
  obtain ⟨i, hi, h1⟩ := Option.map_eq_some_iff.1 h1
  obtain ⟨z, hz, h2⟩ := Option.map_eq_some_iff.1 h2
  rw [hi] at hz
  injection h1 with h1 h3
  exact ⟨i, z, hi, hz, h1, h3, h2⟩
theorem w39 (n : Nat) (hn : n ≤ 1000000) : SoundPure Tryd.prog 39 [.nilS, I n] (.ret (.own 3 [])) := by
  intro w A cs hJ hA hp
  simp only [PCs, PC] at hp
  obtain ⟨a, d, hcs, rfl, a2, d2, hcs2, rfl, rfl⟩ := hp
  obtain rfl : cs = #[.slice none 0 0, .int .i64 (n : Int)] := by cases cs; simp_all
  by_cases h0 : n = 0
  · subst h0
    refine (Any8.slices_Grow_room Tryd.lays8n4 none 0 0 0 w (Nat.le_refl _) (by omega) (by omega) (by omega)).mono ?_
    rintro e w' ⟨rfl, rfl⟩
    refine ⟨A, ⟨Nat.le_refl _, rfl, rfl, rfl, fun b hb' _ => rfl, fun _ _ _ => rfl, Nat.le_refl _, fun _ h => h, fun _ h => .inl h, fun _ h => .inl h⟩, hA, _, [{ b := none, base := 0, sz := 3, csz := 0 }], rfl, ?_, fun i hi b hb => ?_, List.pairwise_singleton _ _⟩
    · simp only [RC]
      exact ⟨_, rfl, ⟨none, 0, rfl, by simp, by omega, .inr ⟨rfl, rfl⟩⟩, by simp only [OC]⟩
    · simp only [List.mem_singleton] at hi
      subst hi
      cases hb
  · obtain ⟨i0, z, hi0, hz0, hs0, hb0, hc0⟩ := info35
    refine (Any8.slices_Grow_grow Tryd.lays8n4 i0 z hi0 hz0 (by omega) none 0 0 n [] w (Nat.le_refl _) (by omega) (by rw [hb0]; omega) (by omega) (by simp) (fun _ => rfl) (fun a h => by cases h)).mono ?_
    rintro e w' ⟨rfl, rfl⟩
    have hG := grownCap_ge w (0 + n) 0 35
    have hG2 := grownCap_le_maxLen w (0 + n) 0 35 (by unfold maxLen; omega)
    show PureOut w A _ (.returned (.slice (some ⟨w.heap.size, 0, none⟩) 0 (grownCap w (0 + n) 0 35))) (w.drew.alloc (.cells (#[] ++ Builtin.zeroCells z.cells (0 + n - 0) ++ Builtin.zeroCells z.cells (grownCap w (0 + n) 0 35 - (0 + n))) 35))
    generalize grownCap w (0 + n) 0 35 = G at hG hG2 ⊢
    have hsz : (#[] ++ Builtin.zeroCells z.cells (0 + n - 0) ++ Builtin.zeroCells z.cells (G - (0 + n))).size = G * 3 := by
      simp only [Array.size_append, size_zeroCells, hc0, List.size_toArray, List.length_nil]
      omega
    generalize (#[] ++ Builtin.zeroCells z.cells (0 + n - 0) ++ Builtin.zeroCells z.cells (G - (0 + n))) = C at hsz ⊢
    have hb := ((Below.refl w.heap.size w).drew).alloc (Nat.le_refl _) (.cells C 35)
    refine ⟨A, ⟨hb.size, hb.os, hb.tape, hb.output, fun b hb' _ => hb.block b hb', fun _ _ _ => rfl, Nat.le_refl _, fun _ h => h, fun _ h => .inl h, fun _ h => .inl h⟩, fun b hb' => Nat.lt_of_lt_of_le (hA b hb') hb.size, _, [{ b := some w.heap.size, base := 0, sz := 3, csz := G * 3 }], rfl, ?_, fun i hi b hb => ?_, List.pairwise_singleton _ _⟩
    · simp only [RC]
      refine ⟨_, rfl, ⟨some ⟨w.heap.size, 0, none⟩, G, rfl, by simp, by unfold maxLen at hG2; omega, .inl ⟨_, rfl, rfl, by simp⟩⟩, ?_⟩
      simp only [OC, PEs]
      refine ⟨trivial, by omega, by simp, ⟨C, 35, ?_, hsz⟩, trivial⟩
      simp [World.alloc, World.drew, -World.alloc_eq, -World.drew_eq]
    · simp only [List.mem_singleton] at hi
      subst hi
      injection hb with hb
      subst hb
      refine ⟨Nat.le_refl _, ?_, fun h => Nat.lt_irrefl _ (hA _ h)⟩
      simp [World.alloc, World.drew, -World.alloc_eq, -World.drew_eq]
def F39 : List V → Option V
  | [.nilS, .int .i64 n] => if 0 ≤ n ∧ n ≤ 1000000 then some (.own 3 []) else none
  | _ => none
theorem F39_eq {n : Nat} (h : n ≤ 1000000) : F39 [.nilS, I n] = some (.own 3 []) := by
  show (if _ then _ else _) = _
  rw [if_pos (by omega)]
theorem F39_sound : ∀ args v, F39 args = some v → SoundPure Tryd.prog 39 args (.ret v) := fun args v h => by
  unfold F39 at h
  split at h
  · split at h
    · rename_i n hn
      injection h with h
      subst h
      obtain ⟨m, rfl⟩ : ∃ m : Nat, n = m := ⟨n.toNat, by omega⟩
      exact w39 m (by omega)
    · cases h
  · cases h

/-! ### Concat -/
abbrev Tss (l : List (List Tm)) : V := .lst (l.map fun a => Ts a)
def lens (l : List (List Tm)) : Nat := (l.map List.length).sum
noncomputable abbrev T716 : List (FuncId × (List V → Option V)) := [(39, F39)]
def P716 (n : Nat) (v : V) (r : Option (Ex × St)) : Prop := Fin (M716 (hand T716) n) [.tmp 2] r = some (.ret v)
theorem l716a {n k} {P : Option (Ex × St) → Prop} (ls : List (List Tm)) (hl : lens ls ≤ 1000000) (hn0 : ls.length ≤ 1000000) : ∀ r i (x : Nat) n' s, ls.drop i = r → r.length < n' → x + lens r ≤ 1000000 → tget s.τ 0 = Tss ls → tget s.τ 9 = Tss ls → tget s.τ 10 = I ls.length → tget s.τ 11 = I (i : Nat) → tget s.τ 3 = I x →
    (∀ s', tget s'.τ 0 = Tss ls → tget s'.τ 3 = I (x + lens r : Nat) → P (X (M716 (hand T716) n) (.exit 0) k s')) →
    P (L (M716 (hand T716) n) (sub [1, 1, 0, 1, 0, 0] c716) n' k s)
  | [], i, x, n' + 1, s, hi, hn, hx, h0, h9, h10, h11, h3, hq => by
    have hc := inlt (drop_nil' hi)
    rw [L_succ]
    simp only [vmr, vmw, vmp, vza, ↓reduceIte, Nat.reduceBEq, Nat.reduceLT, Nat.reduceAdd, Nat.reduceEqDiff, reduceCtorEq, vmt, vzb, vzc, vlen, vleaf, velems, oks, vst, vmd, ty, Nat.reduceLeDiff, Nat.reduceMul, Nat.reduceSub, c716, Tryd.f16, m716, h9, h10, h11, hc]
    refine hq _ ?_ ?_
    all_goals simp only [vmr, vmw, vmp, vza, ↓reduceIte, Nat.reduceBEq, Nat.reduceLT, Nat.reduceAdd, Nat.reduceEqDiff, reduceCtorEq, vmt, vzb, vzc, vlen, vleaf, velems, oks, vst, vmd, ty, Nat.reduceLeDiff, Nat.reduceMul, Nat.reduceSub, m716, h0, h3, lens, List.map_nil, List.sum_nil, Nat.add_zero]
  | a :: r, i, x, n' + 1, s, hi, hn, hx, h0, h9, h10, h11, h3, hq => by
    obtain ⟨g1, g2, g3⟩ := drop_cons hi
    have hcl := ilt g3
    have ga : (ls.map fun a => Ts a)[i]? = some (Ts a) := by rw [List.getElem?_map, g1, Option.map_some]
    have hls : lens (a :: r) = a.length + lens r := by simp [lens]
    rw [hls] at hx hq
    have w4 := wsuc g3 (by omega)
    have w1 : IntKind.i64.wrap ((x : Int) + (a.length : Int)) = ((x + a.length : Nat) : Int) := by rw [wrap_id] <;> omega
    have c1 : (((x + a.length : Nat) : Int) < 0) = False := eq_false (by omega)
    have ih := fun x s => l716a (n := n) (k := k) (P := P) ls hl hn0 r (i + 1) x n' s g2 (by simp at hn; omega)
    simp only [sub, c716, Tryd.f16, gets] at ih
    rw [L_succ]
    simp only [vmr, vmw, vmp, vza, ↓reduceIte, Nat.reduceBEq, Nat.reduceLT, Nat.reduceAdd, Nat.reduceEqDiff, reduceCtorEq, vmt, vzb, vzc, vlen, vleaf, velems, oks, vst, vmd, ty, Nat.reduceLeDiff, Nat.reduceMul, Nat.reduceSub, c716, Tryd.f16, m716, h9, h10, h11, h3, hcl, ga, w4, w1, c1]
    refine ih (x + a.length) _ (by omega) ?_ ?_ ?_ ?_ ?_ (fun s' e0 e3 => hq s' e0 (by rw [e3, Nat.add_assoc]))
    all_goals simp only [vmr, vmw, vmp, vza, ↓reduceIte, Nat.reduceBEq, Nat.reduceLT, Nat.reduceAdd, Nat.reduceEqDiff, reduceCtorEq, vmt, vzb, vzc, vlen, vleaf, velems, oks, vst, vmd, ty, Nat.reduceLeDiff, Nat.reduceMul, Nat.reduceSub, m716, h0, h9, h10]
/-- What is joined so far. -/
def A16 (s : St) (d : List Tm) : Prop := ∃ v6, tget s.τ 6 = .ref ⟨0, 6, 0⟩ v6 0 d.length ∧ lget s.L (6, 0) = some (v6, .arr 3 (d.map tv))
theorem A16.of {s d} (h : tget s.τ 6 = .ref ⟨0, 6, 0⟩ (ver s (6, 0)) 0 d.length) (h' : lget s.L (6, 0) = some (ver s (6, 0), .arr 3 (d.map tv))) : A16 s d := ⟨_, h, h'⟩
theorem l716b {n k} {P : Option (Ex × St) → Prop} (ls : List (List Tm)) (hn0 : ls.length ≤ 1000000) : ∀ r i d n' s, ls.drop i = r → r.length < n' → d.length + lens r ≤ 1000000 → A16 s d → tget s.τ 25 = Tss ls → tget s.τ 26 = I ls.length → tget s.τ 27 = I (i : Nat) →
    (∀ s', A16 s' (d ++ r.flatten) → P (X (M716 (hand T716) n) (.exit 2) k s')) →
    P (L (M716 (hand T716) n) (sub [1, 1, 1, 1, 0, 1, 0, 0] c716) n' k s)
  | [], i, d, n' + 1, s, hi, hn, hd, ⟨v6, h6, h6'⟩, h25, h26, h27, hq => by
    have hc := inlt (drop_nil' hi)
    rw [L_succ]
    simp only [vmr, vmw, vmp, vza, ↓reduceIte, Nat.reduceBEq, Nat.reduceLT, Nat.reduceAdd, Nat.reduceEqDiff, reduceCtorEq, vmt, vzb, vzc, vlen, vleaf, velems, oks, vst, vmd, ty, Nat.reduceLeDiff, Nat.reduceMul, Nat.reduceSub, c716, Tryd.f16, m716, h25, h26, h27, hc]
    refine hq _ ⟨v6, ?_, ?_⟩
    all_goals simp only [vmr, vmw, vmp, vza, ↓reduceIte, Nat.reduceBEq, Nat.reduceLT, Nat.reduceAdd, Nat.reduceEqDiff, reduceCtorEq, vmt, vzb, vzc, vlen, vleaf, velems, oks, vst, vmd, ty, Nat.reduceLeDiff, Nat.reduceMul, Nat.reduceSub, m716, h6, h6', List.flatten_nil]
  | a :: r, i, d, n' + 1, s, hi, hn, hd, ⟨v6, h6, h6'⟩, h25, h26, h27, hq => by
    obtain ⟨g1, g2, g3⟩ := drop_cons hi
    have hcl := ilt g3
    have ga : (ls.map fun a => Ts a)[i]? = some (Ts a) := by rw [List.getElem?_map, g1, Option.map_some]
    have hls : lens (a :: r) = a.length + lens r := by simp [lens]
    rw [hls] at hd
    have w4 := wsuc g3 (by omega)
    have hr := @room35 (d.length + a.length) (by omega)
    have hf := fits35s a
    have ih := fun d s => l716b (n := n) (k := k) (P := P) ls hn0 r (i + 1) d n' s g2 (by simp at hn; omega)
    simp only [sub, c716, Tryd.f16, gets] at ih
    rw [List.flatten_cons, ← List.append_assoc] at hq
    rw [L_succ]
    simp only [vmr, vmw, vmp, vza, ↓reduceIte, Nat.reduceBEq, Nat.reduceLT, Nat.reduceAdd, Nat.reduceEqDiff, reduceCtorEq, vmt, vzb, vzc, vlen, vleaf, velems, oks, vst, vmd, ty, Nat.reduceLeDiff, Nat.reduceMul, Nat.reduceSub, c716, Tryd.f16, m716, h25, h26, h27, h6, h6', hcl, ga, w4, hr, hf]
    refine ih (d ++ a) _ (by rw [List.length_append]; omega) (A16.of ?_ ?_) ?_ ?_ ?_ hq
    all_goals simp only [vmr, vmw, vmp, vza, ↓reduceIte, Nat.reduceBEq, Nat.reduceLT, Nat.reduceAdd, Nat.reduceEqDiff, reduceCtorEq, vmt, vzb, vzc, vlen, vleaf, velems, oks, vst, vmd, ty, Nat.reduceLeDiff, Nat.reduceMul, Nat.reduceSub, m716, ver, h25, h26, List.length_append, List.map_append]
theorem w16 (ls : List (List Tm)) (hl : lens ls ≤ 1000000) (hn0 : ls.length ≤ 1000000) : SoundPure Tryd.prog 16 [Tss ls] (.ret (Ts ls.flatten)) := by
  have hfl : ls.flatten.length = lens ls := by simp [lens, List.length_flatten]
  have : SoundPure Tryd.prog 16 [Tss ls] (.ret (.own 3 (ls.flatten.map tv))) := by
    refine s716 (H := T716) (sound_cons F39_sound sound_nil) (ls.length + 1) (by simp) (own_pure _ _) ?_
    show P716 _ _ _
    have a1 := fun P k s => @l716a (ls.length + 1) k P ls hl hn0 ls 0 0 (ls.length + 1) s rfl (by omega) (by omega)
    have a2 := fun P k s => @l716b (ls.length + 1) k P ls hn0 ls 0 [] (ls.length + 1) s rfl (by omega) (by simpa using hl)
    have e := F39_eq hl
    simp only [c716, Tryd.f16, gets, sub] at a1 a2 ⊢
    simp only [vmr, vmw, vmp, vza, ↓reduceIte, Nat.reduceBEq, Nat.reduceLT, Nat.reduceAdd, Nat.reduceEqDiff, reduceCtorEq, vmt, vzb, vzc, vlen, vleaf, velems, oks, vst, vmd, ty, Nat.reduceLeDiff, Nat.reduceMul, Nat.reduceSub, m716]
    refine a1 (P716 _ _) _ _ ?_ ?_ ?_ ?_ ?_ (fun s' h0 h3 => ?_)
    case refine_6 =>
      rw [Nat.zero_add] at h3
      simp only [vmr, vmw, vmp, vza, ↓reduceIte, Nat.reduceBEq, Nat.reduceLT, Nat.reduceAdd, Nat.reduceEqDiff, reduceCtorEq, vmt, vzb, vzc, vlen, vleaf, velems, oks, vst, vmd, ty, Nat.reduceLeDiff, Nat.reduceMul, Nat.reduceSub, m716, h0, h3, e]
      refine a2 (P716 _ _) _ _ (A16.of ?_ ?_) ?_ ?_ ?_ (fun s2 hA => ?_)
      case refine_6 =>
        obtain ⟨v6, h6, h6'⟩ := hA
        rw [List.nil_append] at h6 h6'
        simp only [vmr, vmw, vmp, vza, ↓reduceIte, Nat.reduceBEq, Nat.reduceLT, Nat.reduceAdd, Nat.reduceEqDiff, reduceCtorEq, vmt, vzb, vzc, vlen, vleaf, velems, oks, vst, vmd, ty, Nat.reduceLeDiff, Nat.reduceMul, Nat.reduceSub, m716, h6, h6']
        unfold P716
        simp only [vmr, vmw, vmp, vza, ↓reduceIte, Nat.reduceBEq, Nat.reduceLT, Nat.reduceAdd, Nat.reduceEqDiff, reduceCtorEq, vmt, vzb, vzc, vlen, vleaf, velems, oks, vst, vmd, ty, Nat.reduceLeDiff, Nat.reduceMul, Nat.reduceSub, vzr, m716, h6', take_len]
      all_goals simp only [vmr, vmw, vmp, vza, ↓reduceIte, Nat.reduceBEq, Nat.reduceLT, Nat.reduceAdd, Nat.reduceEqDiff, reduceCtorEq, vmt, vzb, vzc, vlen, vleaf, velems, oks, vst, vmd, ty, Nat.reduceLeDiff, Nat.reduceMul, Nat.reduceSub, m716, ver]
    all_goals simp only [vmr, vmw, vmp, vza, ↓reduceIte, Nat.reduceBEq, Nat.reduceLT, Nat.reduceAdd, Nat.reduceEqDiff, reduceCtorEq, vmt, vzb, vzc, vlen, vleaf, velems, oks, vst, vmd, ty, Nat.reduceLeDiff, Nat.reduceMul, Nat.reduceSub, m716]
  have := sound_imm this (own_pure _ _)
  rw [own_imm] at this
  exact this
theorem Tss_inj {a b : List (List Tm)} (h : Tss a = Tss b) : a = b := by
  injection h with h
  exact map_inj (fun _ _ => Ts_inj) h
noncomputable def F16 : List V → Option V := hF (α := List (List Tm)) (fun p => [Tss p]) (fun p => lens p ≤ 1000000 ∧ p.length ≤ 1000000) (fun p => Ts p.flatten)
theorem F16_eq2 {a b : List Tm} (h : a.length + b.length ≤ 1000000) : F16 [.lst [Ts a, Ts b]] = some (Ts (a ++ b)) := by
  have : F16 _ = some (Ts [a, b].flatten) := hF_eq (a := [a, b]) (args := [.lst [Ts a, Ts b]]) (one_inj' fun _ _ => Tss_inj) (by show [V.lst [can (Ts a), can (Ts b)]] = _; rw [can_Ts, can_Ts]; rfl) ⟨by simpa [lens] using h, by simp⟩
  rw [this]
  simp
theorem F16_sound : ∀ args v, F16 args = some v → SoundPure Tryd.prog 16 args (.ret v) := hF_sound fun p hp => w16 p hp.1 hp.2
end Go.Vi
set_option maxRecDepth 100000
set_option maxHeartbeats 1000000
namespace Go.Vi
open Go Go.Proofs

abbrev bnv (x : List UInt8) (e : List Tm) : V := .agg [.str x, Ts e]
theorem can_bnv (x : List UInt8) (e : List Tm) : can (bnv x e) = bnv x e := by show V.agg [.str x, can (Ts e)] = _; rw [can_Ts]
theorem bnv_inj {a b : Bn} (h : bnv a.x a.e = bnv b.x b.e) : a = b := Bn.v_inj a b h
theorem bn_get {a : List Bn} {i : Nat} {b : Bn} (h : a[i]? = some b) : (a.map Bn.v)[i]? = some (bnv b.x b.e) := by rw [List.getElem?_map, h, Option.map_some, Bn.v]
def alB1 (p q : Bn) : Bool := p.x == q.x && eqB p.e q.e
def alB : List Bn → List Bn → Bool
  | [], [] => true
  | p :: r, q :: t => alB1 p q && alB r t
  | _, _ => false
theorem w46 (p q : Bn) (h : szs p.e ≤ 1000000) : SoundPure Tryd.prog 46 [bnv p.x p.e, bnv q.x q.e] (.ret (.bool (alB1 p q))) := by
  refine s746 (H := [(13, F312)]) (sound_cons F312_sound sound_nil) 1 (by simp) rfl ?_
  simp only [c746, Tryd.f46, gets, sub]
  have e := F312_eq (a := p.e) (b := q.e) h
  unfold alB1
  cases hq : p.x == q.x with
  | true => simp only [vmr, vmw, vmp, vza, ↓reduceIte, Nat.reduceBEq, Nat.reduceLT, Nat.reduceAdd, Nat.reduceEqDiff, reduceCtorEq, vmt, vzb, vzc, vlen, vleaf, velems, oks, vst, vmd, ty, Nat.reduceLeDiff, Nat.reduceMul, Nat.reduceSub, vzr, m746, strOp, hq, e]
  | false => simp only [vmr, vmw, vmp, vza, ↓reduceIte, Nat.reduceBEq, Nat.reduceLT, Nat.reduceAdd, Nat.reduceEqDiff, reduceCtorEq, vmt, vzb, vzc, vlen, vleaf, velems, oks, vst, vmd, ty, Nat.reduceLeDiff, Nat.reduceMul, Nat.reduceSub, vzr, m746, strOp, hq]
noncomputable def F46 : List V → Option V := hF (α := Bn × Bn) (fun p => [bnv p.1.x p.1.e, bnv p.2.x p.2.e]) (fun p => szs p.1.e ≤ 1000000) (fun p => .bool (alB1 p.1 p.2))
theorem F46_eq {p q : Bn} (h : szs p.e ≤ 1000000) : F46 [bnv p.x p.e, bnv q.x q.e] = some (.bool (alB1 p q)) :=
  hF_eq (a := (p, q)) (two_inj (fun _ _ => bnv_inj) (fun _ _ => bnv_inj)) (by simp only [cans, can_bnv]) h
theorem F46_sound : ∀ args v, F46 args = some v → SoundPure Tryd.prog 46 args (.ret v) := hF_sound fun p hp => w46 p.1 p.2 hp
abbrev fn46 : V := .fn (.func 46) [] []
def P745 (n : Nat) (v : V) (r : Option (Ex × St)) : Prop := Fin (M745 (hand [(46, F46)]) n) [.tmp 6] r = some (.ret v)
theorem l745 {n k v} (a b : List Bn) (ha : a.length ≤ 1000000) (hb : ∀ p ∈ a, szs p.e ≤ 1000000) : ∀ r t i n' s, a.drop i = r → b.drop i = t → r.length = t.length → r.length < n' → tget s.τ 1 = Bs b → tget s.τ 2 = fn46 → tget s.τ 15 = Bs a → tget s.τ 16 = I a.length → tget s.τ 17 = I (i : Nat) →
    V.bool (alB r t) = v → (∀ s', V.bool true = v → P745 n v (X (M745 (hand [(46, F46)]) n) (.exit 0) k s')) →
    P745 n v (L (M745 (hand [(46, F46)]) n) (sub [1, 1, 0, 1, 0, 0] c745) n' k s)
  | [], [], i, n' + 1, s, hi, hj, hl, hn, h1, h2, h15, h16, h17, hv, hx => by
    have hc := inlt (drop_nil' hi)
    rw [L_succ]
    simp only [vmr, vmw, vmp, vza, ↓reduceIte, Nat.reduceBEq, Nat.reduceLT, Nat.reduceAdd, Nat.reduceEqDiff, reduceCtorEq, vmt, vzb, vzc, vlen, vleaf, velems, oks, vst, vmd, ty, Nat.reduceLeDiff, Nat.reduceMul, Nat.reduceSub, c745, Tryd.f45, m745, h15, h16, h17, hc]
    exact hx _ hv
  | p :: r, q :: t, i, n' + 1, s, hi, hj, hl, hn, h1, h2, h15, h16, h17, hv, hx => by
    obtain ⟨g1, g2, g3⟩ := drop_cons hi
    obtain ⟨g4, g5, g6⟩ := drop_cons hj
    have hcl := ilt g3
    have ga := bn_get g1
    have gb := bn_get g4
    have w4 := wsuc g3 (by omega)
    have e := F46_eq (p := p) (q := q) (hb p (List.mem_of_getElem? g1))
    have ih := fun s => l745 (n := n) (k := k) (v := v) a b ha hb r t (i + 1) n' s g2 g5 (by simpa using hl) (by simp at hn; omega)
    simp only [sub, c745, Tryd.f45, gets] at ih
    rw [L_succ]
    rw [alB] at hv
    cases hq : alB1 p q with
    | true =>
      rw [hq] at e hv
      simp only [vmr, vmw, vmp, vza, ↓reduceIte, Nat.reduceBEq, Nat.reduceLT, Nat.reduceAdd, Nat.reduceEqDiff, reduceCtorEq, vmt, vzb, vzc, vlen, vleaf, velems, oks, vst, vmd, ty, Nat.reduceLeDiff, Nat.reduceMul, Nat.reduceSub, c745, Tryd.f45, m745, h1, h2, h15, h16, h17, hcl, ga, gb, w4, e]
      refine ih _ ?_ ?_ ?_ ?_ ?_ hv hx
      all_goals simp only [vmr, vmw, vmp, vza, ↓reduceIte, Nat.reduceBEq, Nat.reduceLT, Nat.reduceAdd, Nat.reduceEqDiff, reduceCtorEq, vmt, vzb, vzc, vlen, vleaf, velems, oks, vst, vmd, ty, Nat.reduceLeDiff, Nat.reduceMul, Nat.reduceSub, m745, h1, h2, h15, h16]
    | false =>
      rw [hq] at e hv
      rw [← hv]
      simp only [vmr, vmw, vmp, vza, ↓reduceIte, Nat.reduceBEq, Nat.reduceLT, Nat.reduceAdd, Nat.reduceEqDiff, reduceCtorEq, vmt, vzb, vzc, vlen, vleaf, velems, oks, vst, vmd, ty, Nat.reduceLeDiff, Nat.reduceMul, Nat.reduceSub, c745, Tryd.f45, m745, h1, h2, h15, h16, h17, hcl, ga, gb, w4, e]
      unfold P745
      simp only [vmr, vmw, vmp, vza, ↓reduceIte, Nat.reduceBEq, Nat.reduceLT, Nat.reduceAdd, Nat.reduceEqDiff, reduceCtorEq, vmt, vzb, vzc, vlen, vleaf, velems, oks, vst, vmd, ty, Nat.reduceLeDiff, Nat.reduceMul, Nat.reduceSub, vzr, m745]
theorem alB_len : ∀ {a b : List Bn}, a.length ≠ b.length → alB a b = false
  | [], [], h => absurd rfl h
  | [], _ :: _, _ => rfl
  | _ :: _, [], _ => rfl
  | p :: r, q :: t, h => by rw [alB, alB_len (by simpa using h), Bool.and_false]
theorem w45 (a b : List Bn) (ha : a.length ≤ 1000000) (hb : ∀ p ∈ a, szs p.e ≤ 1000000) : SoundPure Tryd.prog 45 [Bs a, Bs b, fn46] (.ret (.bool (alB a b))) := by
  refine s745 (H := [(46, F46)]) (sound_cons F46_sound sound_nil) (a.length + 1) (by simp) rfl ?_
  by_cases hl : a.length = b.length
  · have q : ((a.length : Int) != (b.length : Int)) = false := by simp [hl]
    show P745 _ _ _
    have a1 := fun k s => @l745 (a.length + 1) k (.bool (alB a b)) a b ha hb a b 0 (a.length + 1) s rfl rfl hl (by omega)
    simp only [c745, Tryd.f45, gets, sub] at a1 ⊢
    simp only [vmr, vmw, vmp, vza, ↓reduceIte, Nat.reduceBEq, Nat.reduceLT, Nat.reduceAdd, Nat.reduceEqDiff, reduceCtorEq, vmt, vzb, vzc, vlen, vleaf, velems, oks, vst, vmd, ty, Nat.reduceLeDiff, Nat.reduceMul, Nat.reduceSub, m745, q]
    refine a1 _ _ ?_ ?_ ?_ ?_ ?_ (by first | trivial | rfl) (fun s' e => ?_)
    case refine_6 =>
      simp only [vmr, vmw, vmp, vza, ↓reduceIte, Nat.reduceBEq, Nat.reduceLT, Nat.reduceAdd, Nat.reduceEqDiff, reduceCtorEq, vmt, vzb, vzc, vlen, vleaf, velems, oks, vst, vmd, ty, Nat.reduceLeDiff, Nat.reduceMul, Nat.reduceSub, m745]
      unfold P745
      simp only [vmr, vmw, vmp, vza, ↓reduceIte, Nat.reduceBEq, Nat.reduceLT, Nat.reduceAdd, Nat.reduceEqDiff, reduceCtorEq, vmt, vzb, vzc, vlen, vleaf, velems, oks, vst, vmd, ty, Nat.reduceLeDiff, Nat.reduceMul, Nat.reduceSub, vzr, m745, e]
    all_goals simp only [vmr, vmw, vmp, vza, ↓reduceIte, Nat.reduceBEq, Nat.reduceLT, Nat.reduceAdd, Nat.reduceEqDiff, reduceCtorEq, vmt, vzb, vzc, vlen, vleaf, velems, oks, vst, vmd, ty, Nat.reduceLeDiff, Nat.reduceMul, Nat.reduceSub, m745]
  · have q : ((a.length : Int) != (b.length : Int)) = true := by simp; omega
    rw [alB_len hl]
    simp only [c745, Tryd.f45, gets, sub]
    simp only [vmr, vmw, vmp, vza, ↓reduceIte, Nat.reduceBEq, Nat.reduceLT, Nat.reduceAdd, Nat.reduceEqDiff, reduceCtorEq, vmt, vzb, vzc, vlen, vleaf, velems, oks, vst, vmd, ty, Nat.reduceLeDiff, Nat.reduceMul, Nat.reduceSub, vzr, m745, q]
noncomputable def F45 : List V → Option V := hF (α := List Bn × List Bn) (fun p => [Bs p.1, Bs p.2, fn46]) (fun p => p.1.length ≤ 1000000 ∧ ∀ q ∈ p.1, szs q.e ≤ 1000000) (fun p => .bool (alB p.1 p.2))
theorem F45_eq {a b : List Bn} (ha : a.length ≤ 1000000) (hb : ∀ p ∈ a, szs p.e ≤ 1000000) : F45 [Bs a, Bs b, fn46] = some (.bool (alB a b)) :=
  hF_eq (a := (a, b)) (fun a b h => by
    injection h with h1 h2
    injection h2 with h2
    exact Prod.ext (Bs_inj h1) (Bs_inj h2)) (by simp only [cans, can_Bs]; rfl) ⟨ha, hb⟩
theorem F45_sound : ∀ args v, F45 args = some v → SoundPure Tryd.prog 45 args (.ret v) := hF_sound fun p hp => w45 p.1 p.2 hp.1 hp.2
theorem w20 (a b : List Bn) (ha : a.length ≤ 1000000) (hb : ∀ p ∈ a, szs p.e ≤ 1000000) : SoundPure Tryd.prog 20 [Bs a, Bs b] (.ret (.bool (alB a b))) := by
  refine s720 (H := [(45, F45)]) (sound_cons F45_sound sound_nil) 1 (by simp) rfl ?_
  simp only [c720, Tryd.f20, gets, sub]
  have e := F45_eq (b := b) ha hb
  simp only [vmr, vmw, vmp, vza, ↓reduceIte, Nat.reduceBEq, Nat.reduceLT, Nat.reduceAdd, Nat.reduceEqDiff, reduceCtorEq, vmt, vzb, vzc, vlen, vleaf, velems, oks, vst, vmd, ty, Nat.reduceLeDiff, Nat.reduceMul, Nat.reduceSub, vzr, m720, e]
noncomputable def F20 : List V → Option V := hF (α := List Bn × List Bn) (fun p => [Bs p.1, Bs p.2]) (fun p => p.1.length ≤ 1000000 ∧ ∀ q ∈ p.1, szs q.e ≤ 1000000) (fun p => .bool (alB p.1 p.2))
theorem F20_eq {a b : List Bn} (ha : a.length ≤ 1000000) (hb : ∀ p ∈ a, szs p.e ≤ 1000000) : F20 [Bs a, Bs b] = some (.bool (alB a b)) :=
  hF_eq (a := (a, b)) (two_inj (fun _ _ => Bs_inj) (fun _ _ => Bs_inj)) (by simp only [cans, can_Bs]) ⟨ha, hb⟩
theorem F20_sound : ∀ args v, F20 args = some v → SoundPure Tryd.prog 20 args (.ret v) := hF_sound fun p hp => w20 p.1 p.2 hp.1 hp.2
theorem alB_self : ∀ a : List Bn, alB a a = true
  | [] => rfl
  | p :: r => by rw [alB, alB_self r, alB1, eqB_self]; simp
/-! ### match.Find -/
end Go.Vi
set_option maxRecDepth 100000
set_option maxHeartbeats 1000000
namespace Go.Vi
open Go Go.Proofs

theorem room59 {n : Nat} (h : n ≤ 2000000) : roomOk Tryd.prog 59 n = true := by simp [roomOk, ty, cellsV, leafV]; omega
def A21 (s : St) (d : List Bn) : Prop := ∃ v8 sz, (sz = 2 ∨ sz = 0) ∧ tget s.τ 8 = .ref ⟨0, 8, 0⟩ v8 0 d.length ∧ lget s.L (8, 0) = some (v8, .arr sz (d.map Bn.v))
theorem A21.of {s d} (h : tget s.τ 8 = .ref ⟨0, 8, 0⟩ (ver s (8, 0)) 0 d.length) (h' : lget s.L (8, 0) = some (ver s (8, 0), .arr 2 (d.map Bn.v))) : A21 s d := ⟨_, 2, .inl rfl, h, h'⟩
end Go.Vi
set_option maxRecDepth 100000
set_option maxHeartbeats 1000000
namespace Go.Vi
open Go Go.Proofs

theorem imm_bv (b : Bn) : imm b.v = b.v := rfl
theorem pureLB : ∀ l : List Bn, pureRL (l.map Bn.v) = true
  | [] => rfl
  | ⟨x, e⟩ :: r => by simp only [List.map_cons, pureRL, Bn.v, pureR, pureLB r, Bool.and_self]
end Go.Vi
set_option maxRecDepth 100000
set_option maxHeartbeats 1000000
namespace Go.Vi
open Go Go.Proofs

theorem toB_ok {e : List Tm} {l : List Bn} (h : (toB e l).2 = 0) : (toB e l).1 = unL l e := by
  unfold toB toL at *
  split
  · rename_i q; rw [if_pos q] at h; exact absurd h q
  · rename_i q
    rw [if_neg q] at h
    split
    · rename_i q2; rw [if_pos q2] at h; exact absurd h q2
    · rename_i q2
      rw [if_neg q2] at h
      split
      · rename_i q3; rw [if_pos q3] at h; simp at h
      · rfl
theorem unL_app (l : List Bn) : ∀ a b : List Tm, unL l (a ++ b) = unL l a ++ unL l b
  | [], b => by simp [unL]
  | x :: r, b => by simp only [List.cons_append, unL, unL_app l r b, List.append_assoc]
theorem unL_grp (l : List Bn) (a : List Tm) : unL l [.mk 4 [] a] = [.mk 4 [] (unL l a)] := by
  have : valB l 4 [] = none := by unfold valB isV; rfl
  simp only [unL, unT, this, List.append_nil]
theorem txs_app : ∀ {a b : List Tm}, txs a → txs b → txs (a ++ b)
  | [], b, _, h => h
  | x :: r, b, h, h' => by
    simp only [List.cons_append, txs] at h ⊢
    exact ⟨h.1, txs_app h.2 h'⟩
noncomputable abbrev T704 : List (FuncId × (List V → Option V)) := [(8, F8), (9, F9), (10, F10), (11, Fto), (13, F312), (16, F16)]
theorem h704 : SoundHand Tryd.prog (hand T704) := sound_cons F8_sound <| sound_cons F9_sound <| sound_cons F10_sound <| sound_cons F11_sound <| sound_cons F312_sound <| sound_cons F16_sound sound_nil
theorem w4 (a b : List Tm) (l : List Bn) (ha : txs a) (hb : txs b) (hl : argB l) : SoundPure Tryd.prog 4 [Ts a, Ts b, Bs l] (.ret (.bool true)) := by
  refine s704 h704 1 (by simp) rfl ?_
  simp only [c704, Tryd.f4, gets, sub]
  have e1 := F8_eq (a := a) (k := 61) (by omega) (by omega)
  have e1b := F8_eq (a := b) (k := 61) (by omega) (by omega)
  have e2 := F9_eq (a := l) (k := 100) (by omega) (by omega)
  have e3 := F10_eq
  have n0 : ((0 : Int) != 0) = false := rfl
  by_cases q1 : lmL 61 0 a > 60
  · have q1' := eq_true q1
    simp only [vmr, vmw, vmp, vza, ↓reduceIte, Nat.reduceBEq, Nat.reduceLT, Nat.reduceAdd, Nat.reduceEqDiff, reduceCtorEq, vmt, vzb, vzc, vlen, vleaf, velems, oks, vst, vmd, ty, Nat.reduceLeDiff, Nat.reduceMul, Nat.reduceSub, vzr, m704, e1, e3, q1']
  have q1' := eq_false q1
  by_cases q2 : lmL 61 0 b > 60
  · have q2' := eq_true q2
    simp only [vmr, vmw, vmp, vza, ↓reduceIte, Nat.reduceBEq, Nat.reduceLT, Nat.reduceAdd, Nat.reduceEqDiff, reduceCtorEq, vmt, vzb, vzc, vlen, vleaf, velems, oks, vst, vmd, ty, Nat.reduceLeDiff, Nat.reduceMul, Nat.reduceSub, vzr, m704, e1, e1b, e3, q1', q2']
  have q2' := eq_false q2
  by_cases q3 : fewL 100 l.length l ≤ 100
  case neg =>
    rw [decide_eq_false q3] at e2
    simp only [vmr, vmw, vmp, vza, ↓reduceIte, Nat.reduceBEq, Nat.reduceLT, Nat.reduceAdd, Nat.reduceEqDiff, reduceCtorEq, vmt, vzb, vzc, vlen, vleaf, velems, oks, vst, vmd, ty, Nat.reduceLeDiff, Nat.reduceMul, Nat.reduceSub, vzr, m704, e1, e1b, e2, e3, q1', q2']
  rw [decide_eq_true q3] at e2
  have sa := lmL_sz a 61 0 (by omega) (by omega) (by omega)
  have sb := lmL_sz b 61 0 (by omega) (by omega) (by omega)
  have hbn := bns_of hl (by omega) (by omega) q3
  have e4 : Fto [Ts a, Bs l] = some (.tup [Ts (toB a l).1, I (toB a l).2]) := Fto_eq (e := a) (l := l) (by omega) ha hbn
  have e5 : Fto [Ts b, Bs l] = some (.tup [Ts (toB b l).1, I (toB b l).2]) := Fto_eq (e := b) (l := l) (by omega) hb hbn
  have e6 : Fto [Ts (a ++ b), Bs l] = some (.tup [Ts (toB (a ++ b) l).1, I (toB (a ++ b) l).2]) := Fto_eq (e := a ++ b) (l := l) (by rw [szs_app]; omega) (txs_app ha hb) hbn
  have lna := szs_len a
  have lnb := szs_len b
  have e7 := F16_eq2 (a := a) (b := b) (by omega)
  have r1 : roomOk Tryd.prog 22 2 = true := by simp [roomOk, ty, cellsV, leafV]
  have f1 : ∀ e : List V, fitsE Tryd.prog 22 (.lst e) = true := fun e => by simp [fitsE, ty, leafV]
  by_cases q4 : (toB a l).2 = 0
  case neg =>
    have q4' : ((toB a l).2 != 0) = true := by simpa using q4
    simp only [vmr, vmw, vmp, vza, ↓reduceIte, Nat.reduceBEq, Nat.reduceLT, Nat.reduceAdd, Nat.reduceEqDiff, reduceCtorEq, vmt, vzb, vzc, vlen, vleaf, velems, oks, vst, vmd, ty, Nat.reduceLeDiff, Nat.reduceMul, Nat.reduceSub, vzr, m704, e1, e1b, e2, e3, q1', q2', e4, e5, e6, e7, n0, List.map_cons, List.map_nil, r1, f1, q4']
  by_cases q5 : (toB b l).2 = 0
  case neg =>
    have q5' : ((toB b l).2 != 0) = true := by simpa using q5
    simp only [vmr, vmw, vmp, vza, ↓reduceIte, Nat.reduceBEq, Nat.reduceLT, Nat.reduceAdd, Nat.reduceEqDiff, reduceCtorEq, vmt, vzb, vzc, vlen, vleaf, velems, oks, vst, vmd, ty, Nat.reduceLeDiff, Nat.reduceMul, Nat.reduceSub, vzr, m704, e1, e1b, e2, e3, q1', q2', e4, e5, e6, e7, n0, List.map_cons, List.map_nil, r1, f1, q4, q5']
  by_cases q6 : (toB (a ++ b) l).2 = 0
  case neg =>
    have q6' : ((toB (a ++ b) l).2 != 0) = true := by simpa using q6
    simp only [vmr, vmw, vmp, vza, ↓reduceIte, Nat.reduceBEq, Nat.reduceLT, Nat.reduceAdd, Nat.reduceEqDiff, reduceCtorEq, vmt, vzb, vzc, vlen, vleaf, velems, oks, vst, vmd, ty, Nat.reduceLeDiff, Nat.reduceMul, Nat.reduceSub, vzr, m704, e1, e1b, e2, e3, q1', q2', e4, e5, e6, e7, n0, List.map_cons, List.map_nil, r1, f1, q4, q5, q6']
  have g1 := toB_ok q4
  have g2 := toB_ok q5
  have g3 := toB_ok q6
  have z1 := toB_sz a l
  have z2 := toB_sz b l
  have z3 := toB_sz (a ++ b) l
  rw [g1] at z1 e4
  rw [g2] at z2 e5
  rw [g3] at z3 e6
  have ln1 := szs_len (unL l a)
  have ln2 := szs_len (unL l b)
  have e8 := F16_eq2 (a := unL l a) (b := unL l b) (by omega)
  have e9 := F312_eq (a := unL l (a ++ b)) (b := unL l a ++ unL l b) (by omega)
  rw [← unL_app, eqB_self] at e9
  rw [← unL_app] at e8
  have e10 : Fto [Ts [.mk 4 [] a], Bs l] = some (.tup [Ts (toB [.mk 4 [] a] l).1, I (toB [.mk 4 [] a] l).2]) := Fto_eq (e := [.mk 4 [] a]) (l := l) (by simp only [szs, szt]; omega) (by simp only [txs, txt1, List.length_nil]; exact ⟨⟨by omega, ha⟩, trivial⟩) hbn
  have r2 := @room35 1 (by omega)
  have f2 : ∀ (k : Int) (s : List UInt8) (e : List V), fitsE Tryd.prog 35 (.agg [I k, .str s, .lst e]) = true := fun k s e => by simp [fitsE, ty, leafV]
  rw [q4] at e4
  rw [q5] at e5
  rw [q6] at e6
  by_cases q7 : (toB [.mk 4 [] a] l).2 = 0
  · have g4 := toB_ok q7
    have z4 := toB_sz [.mk 4 [] a] l
    rw [g4] at z4 e10
    rw [q7] at e10
    have e11 := F312_eq (a := unL l [.mk 4 [] a]) (b := unL l [.mk 4 [] a]) (by omega)
    rw [eqB_self] at e11
    rw [unL_grp] at e10 e11
    have vT : ∀ x : List Tm, Ts [.mk 4 [] x] = .lst [.agg [I 4, .str [], Ts x]] := fun x => by simp only [Ts, List.map_cons, List.map_nil, tv_mk]
    rw [vT a, vT (unL l a)] at e10
    rw [vT (unL l a)] at e11
    simp only [vmr, vmw, vmp, vza, ↓reduceIte, Nat.reduceBEq, Nat.reduceLT, Nat.reduceAdd, Nat.reduceEqDiff, reduceCtorEq, vmt, vzb, vzc, vlen, vleaf, velems, oks, vst, vmd, ty, Nat.reduceLeDiff, Nat.reduceMul, Nat.reduceSub, vzr, m704, e1, e1b, e2, e3, q1', q2', e4, e5, e6, e7, n0, List.map_cons, List.map_nil, r1, f1, e8, e9, r2, f2, e10, e11]
  · have q7' : ((toB [.mk 4 [] a] l).2 != 0) = true := by simpa using q7
    have vT : ∀ x : List Tm, Ts [.mk 4 [] x] = .lst [.agg [I 4, .str [], Ts x]] := fun x => by simp only [Ts, List.map_cons, List.map_nil, tv_mk]
    rw [vT a] at e10
    simp only [vmr, vmw, vmp, vza, ↓reduceIte, Nat.reduceBEq, Nat.reduceLT, Nat.reduceAdd, Nat.reduceEqDiff, reduceCtorEq, vmt, vzb, vzc, vlen, vleaf, velems, oks, vst, vmd, ty, Nat.reduceLeDiff, Nat.reduceMul, Nat.reduceSub, vzr, m704, e1, e1b, e2, e3, q1', q2', e4, e5, e6, e7, n0, List.map_cons, List.map_nil, r1, f1, e8, e9, r2, f2, e10, q7']
end Go.Vi
namespace Go.Vi
open Go Go.Proofs

/-! ### composition -/
/-! ### check, in words -/
def bgood (b : Bn) : Prop := ∃ k r, varB b.x = some (k, r) ∧ errB 8 b.e = 0 ∧ fitsB k b.e = true
theorem chkL_of : ∀ (l : List Bn) (W : List (List UInt8)), (∀ b ∈ l, W.contains b.x = false) → nds l → (∀ b ∈ l, bgood b) → chkL W l = 0
  | [], W, _, _, _ => rfl
  | p :: r, W, hW, hd, hg => by
    obtain ⟨k, x, h1, h2, h3⟩ := hg p (by simp)
    have hp := hW p (by simp)
    unfold nds at hd
    rw [List.map_cons, List.nodup_cons] at hd
    unfold chkL
    rw [h1]
    simp only [hp, h2, h3]
    rw [if_neg (by simp), if_neg (by simp), if_pos trivial]
    refine chkL_of r _ (fun b hb => ?_) hd.2 (fun b hb => hg b (by simp [hb]))
    have := hW b (by simp [hb])
    simp only [List.contains_eq_mem, List.mem_append, List.mem_singleton, decide_eq_false_iff_not] at this ⊢
    rintro (h | h)
    · exact this h
    · exact hd.1 (h ▸ List.mem_map.2 ⟨b, hb, rfl⟩)
theorem chkB_of {l : List Bn} (hl : l.length ≤ 4000) (hd : nds l) (hg : ∀ b ∈ l, bgood b) : chkB l = 0 := by
  unfold chkB
  rw [if_neg (by omega)]
  exact chkL_of l [] (fun b _ => rfl) hd hg
theorem errB_iff {e : List Tm} : errB 8 e = 0 ↔ szs e ≤ 4000 ∧ dps e ≤ 100 ∧ fms 8 e = true := by
  unfold errB
  split
  · constructor
    · intro h; cases h
    · intro h; omega
  · split
    · constructor
      · intro h; cases h
      · intro h; omega
    · split
      · rename_i h; exact ⟨fun _ => ⟨by omega, by omega, h⟩, fun _ => rfl⟩
      · rename_i h; exact ⟨fun q => (by cases q), fun q => absurd q.2.2 h⟩
/-! ### form -/
theorem right_c {k : Int} {s : List UInt8} {c c' : List Tm} (h : c = [] → c' = []) (hr : rightB k s c = true) : rightB k s c' = true := by
  unfold rightB at *
  by_cases k4 : k = 4
  · rw [if_pos k4] at hr ⊢; exact hr
  · rw [if_neg k4] at hr ⊢
    by_cases k8 : k = 8
    · rw [if_pos k8] at hr ⊢; exact hr
    · rw [if_neg k8] at hr ⊢
      by_cases hc : c = []
      · rw [if_neg (by simpa using hc)] at hr
        rw [if_neg (by simpa using h hc)]
        exact hr
      · rw [if_pos hc] at hr; cases hr
theorem right_kids {k : Int} {s : List UInt8} {c : List Tm} (hr : rightB k s c = true) : k = 4 ∨ k = 8 ∨ c = [] := by
  by_cases k4 : k = 4
  · exact .inl k4
  · by_cases k8 : k = 8
    · exact .inr (.inl k8)
    · refine .inr (.inr ?_)
      unfold rightB at hr
      rw [if_neg k4, if_neg k8] at hr
      by_cases hc : c = []
      · exact hc
      · rw [if_pos hc] at hr; cases hr
end Go.Vi
namespace Go.Vi
open Go Go.Proofs

theorem dps_app : ∀ a b : List Tm, dps (a ++ b) = max (dps a) (dps b)
  | [], b => by simp [dps]
  | x :: r, b => by simp only [List.cons_append, dps, dps_app r b]; omega
mutual
theorem nd_dpT {l : List Bn} (hg : ∀ b ∈ l, bgood b) {most : Nat} : ∀ t, fmt 8 t = true → (ndT l most t).1 ≤ most + 1 → (ndT l most t).2 = dps (unT l t)
  | .mk k s c, hf, h => by
    rw [ndT_eq] at h ⊢
    rw [unT]
    cases hv : valB l k s with
    | some v => rfl
    | none =>
      rw [hv] at h
      dsimp only at h ⊢
      simp only [fmt, Bool.and_eq_true] at hf
      have h1 : (ndF l most c).1 ≤ most := by omega
      have h2 : (ndL l most 0 0 c).1 ≤ most := by unfold ndF at h1; dsimp only at h1; omega
      have h3 : (ndF l most c).2 = dps (unL l c) := by
        have := nd_dpL hg c 0 0 hf.2 h2
        unfold ndF
        dsimp only
        omega
      rw [h3]
      simp only [dps, dpt]
      rcases right_kids hf.1.1 with hk | hk | hk
      · rw [if_pos (.inl hk), if_pos (.inl hk)]; omega
      · rw [if_pos (.inr hk), if_pos (.inr (.inl hk))]; omega
      · subst hk
        by_cases q : k = 4 ∨ k = 8
        · rw [if_pos q, if_pos (by rcases q with q | q; exact .inl q; exact .inr (.inl q))]; omega
        · rw [if_neg q, if_neg (by rintro (h | h | h); exact q (.inl h); exact q (.inr h); exact h rfl)]; simp [unL, dps]
theorem nd_dpL {l : List Bn} (hg : ∀ b ∈ l, bgood b) {most : Nat} : ∀ (e : List Tm) (n d : Nat), fms 8 e = true → (ndL l most n d e).1 ≤ most → (ndL l most n d e).2 = max d (dps (unL l e))
  | [], n, d, hf, h => by simp [ndL, unL, dps]
  | t :: r, n, d, hf, h => by
    simp only [fms, Bool.and_eq_true] at hf
    rw [ndL] at h ⊢
    by_cases q : n > most
    · rw [if_pos q] at h; dsimp only at h; omega
    · rw [if_neg q] at h ⊢
      have h0 := nd_szL r _ _ h
      have h1 := nd_dpL hg r _ _ hf.2 h
      have h2 : (ndT l most t).1 ≤ most + 1 := by omega
      rw [h1, nd_dpT hg t hf.1 h2, unL, dps_app]
      omega
end
mutual
theorem nd_upT {l : List Bn} {most : Nat} : ∀ t, (ndT l most t).1 ≤ szs (unT l t)
  | .mk k s c => by
    rw [ndT_eq, unT]
    cases hv : valB l k s with
    | some v => exact Nat.le_refl _
    | none =>
      have := @nd_upL l most c 0 0
      simp only [szs, szt]
      unfold ndF
      dsimp only
      omega
theorem nd_upL {l : List Bn} {most : Nat} : ∀ (e : List Tm) (n d : Nat), (ndL l most n d e).1 ≤ n + szs (unL l e)
  | [], n, d => Nat.le_add_right _ _
  | t :: r, n, d => by
    rw [ndL, unL, szs_app]
    split
    · dsimp only; omega
    · have h1 := @nd_upL l most r (n + (ndT l most t).1) (max d (ndT l most t).2)
      have h2 := @nd_upT l most t
      omega
end
theorem toL_eq {l : List Bn} (hg : ∀ b ∈ l, bgood b) {e : List Tm} (hf : fms 8 e = true) : toL e l = if szs (unL l e) > 4000 ∨ dps (unL l e) > 100 then ([], 7) else (unL l e, 0) := by
  have h : ((ndF l 4000 e).1 > 4000 ∨ (ndF l 4000 e).2 > 100) ↔ (szs (unL l e) > 4000 ∨ dps (unL l e) > 100) := by
    have h1 := @nd_upL l 4000 e 0 0
    by_cases q : (ndF l 4000 e).1 > 4000
    · have : (ndL l 4000 0 0 e).1 > 4000 := by unfold ndF at q; dsimp only at q; omega
      constructor
      · intro _; omega
      · intro _; exact .inl q
    · have h2 : (ndL l 4000 0 0 e).1 ≤ 4000 := by unfold ndF at q; dsimp only at q; omega
      have h3 := nd_szL e 0 0 h2
      have h4 := nd_dpL hg e 0 0 hf h2
      have h5 : (ndF l 4000 e).2 = (ndL l 4000 0 0 e).2 := rfl
      rw [h5]
      omega
  unfold toL
  by_cases q : (ndF l 4000 e).1 > 4000 ∨ (ndF l 4000 e).2 > 100
  · rw [if_pos q, if_pos (h.1 q)]
  · rw [if_neg q, if_neg (fun w => q (h.2 w))]
/-! ### Compose -/
end Go.Vi
set_option maxRecDepth 100000
set_option maxHeartbeats 1000000
namespace Go.Vi
open Go Go.Proofs

mutual
theorem txt_un {l : List Bn} (hl : ∀ b ∈ l, txs b.e) : ∀ t : Tm, txt1 t → txs (unT l t)
  | .mk k s c, h => by
    rw [unT]
    cases hv : valB l k s with
    | some v =>
      unfold valB at hv
      split at hv
      · obtain ⟨b, h1, h2⟩ := findB_mem hv
        exact h2 ▸ hl b h1
      · cases hv
    | none =>
      simp only [txt1] at h
      simp only [txs, txt1]
      exact ⟨⟨h.1, txs_un hl c h.2⟩, trivial⟩
theorem txs_un {l : List Bn} (hl : ∀ b ∈ l, txs b.e) : ∀ e : List Tm, txs e → txs (unL l e)
  | [], h => trivial
  | t :: r, h => by
    simp only [txs] at h
    rw [unL]
    exact txs_app (txt_un hl t h.1) (txs_un hl r h.2)
end
theorem toB_of {e : List Tm} {l : List Bn} (h1 : errB 8 e = 0) (h2 : chkB l = 0) : toB e l = toL e l := by
  unfold toB
  rw [if_neg (by simp [h1]), if_neg (by simp [h2])]
end Go.Vi
