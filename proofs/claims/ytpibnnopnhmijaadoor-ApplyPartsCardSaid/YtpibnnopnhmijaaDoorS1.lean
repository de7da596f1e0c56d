/-
  The kit's contract of slices.Grow at this program, as the kit's own tool has laid it in plain words.
-/
import Derived.Shelf.Spec.SlicesGrow
import Derived.KernelRfl
import Derived.Test.YtpibnnopnhmijaaDoorProg
import Derived.Test.YtpibnnopnhmijaaDoorRE
import Derived.Test.YtpibnnopnhmijaaDoorVD
import Derived.WalkKit
import Derived.ProofKit
import Derived.Test.YtpibnnopnhmijaaDoorCards
import Derived.Test.YtpibnnopnhmijaaDoorTie
import Derived.OpenShut
import Derived.Deep.DeepHandedRow
import Derived.Lib.LaidTab
set_option linter.unusedSimpArgs false
set_option linter.unusedVariables false
namespace Go.Proofs
open Go.Shelf
def Tryd.lays8n4_ren : Go.Shelf.Ren := ⟨fun | 4 => 39 | n => n, fun | 22 => 22 | 25 => 35 | 3 => 3 | 4 => 4 | 9 => 9 | 20 => 20 | 0 => 0 | n => n, fun | n => n⟩
theorem Tryd.lays8n4 : Go.Proofs.Lays8.n4 Tryd.prog Tryd.lays8n4_ren := {
  mixed := by kernel_rfl
  f4 := ⟨Tryd.f39.name, by decide, Tryd.func39.trans (congrArg some (by kernel_rfl))⟩
  t0 := Tryd.underlying0
  a0 := Tryd.isAgg0
  z0 := Tryd.sizeOf0
  v0 := Tryd.zeroValue0
  t3 := Tryd.underlying3
  a3 := Tryd.isAgg3
  z3 := Tryd.sizeOf3
  v3 := Tryd.zeroValue3
  t4 := Tryd.underlying4
  a4 := Tryd.isAgg4
  z4 := Tryd.sizeOf4
  v4 := Tryd.zeroValue4
  t9 := Tryd.underlying9
  a9 := Tryd.isAgg9
  z9 := Tryd.sizeOf9
  v9 := Tryd.zeroValue9
  t20 := Tryd.underlying20
  a20 := Tryd.isAgg20
  z20 := Tryd.sizeOf20
  v20 := Tryd.zeroValue20
  t22 := Tryd.underlying22
  a22 := Tryd.isAgg22
  z22 := Tryd.sizeOf22
  v22 := Tryd.zeroValue22 }
end Go.Proofs
set_option maxRecDepth 100000
set_option maxHeartbeats 1000000
namespace Go.Vi
open Go Go.Proofs

mutual
theorem lmT_sz : ∀ (t : Tm) (most n : Int), 0 ≤ n → n + 1 ≤ most → lmT most n t ≤ most → lmT most n t = n + szt t
  | .mk k s c, most, n, h0, h1, h => by
    simp only [lmT] at h ⊢
    have := lmL_sz c (most - (n + 1)) 0 (by omega) (by omega) (by omega)
    rw [this]
    simp only [szt]
    omega
theorem lmL_sz : ∀ (l : List Tm) (most n : Int), 0 ≤ most → 0 ≤ n → lmL most n l ≤ most → lmL most n l = n + szs l
  | [], most, n, h0, h1, h => by simp only [lmL, szs]; omega
  | t :: r, most, n, h0, h1, h => by
    simp only [lmL] at h ⊢
    by_cases q : n + 1 > most
    · rw [if_pos q] at h; omega
    · rw [if_neg q] at h ⊢
      obtain ⟨b1, b2⟩ := szT_le t most n h1 (by omega)
      obtain ⟨b3, b4⟩ := szL_le r most (lmT most n t) h0 (by omega)
      rw [lmL_sz r most _ h0 (by omega) h, lmT_sz t most n h1 (by omega) (by omega)]
      simp only [szs]
      omega
end
theorem few_sz : ∀ (l : List Bn) (most n : Int), 0 ≤ most → 0 ≤ n → fewL most n l ≤ most → n ≤ fewL most n l ∧ ∀ b ∈ l, (szs b.e : Int) ≤ most
  | [], most, n, h0, h1, h => ⟨Int.le_refl _, fun b hb => (by cases hb)⟩
  | b :: r, most, n, h0, h1, h => by
    simp only [fewL] at h ⊢
    by_cases q : n > most
    · rw [if_pos q] at h; omega
    · rw [if_neg q] at h ⊢
      obtain ⟨b1, b2⟩ := szL_le b.e (most - n) 0 (by omega) (by omega)
      obtain ⟨h2, h3⟩ := few_sz r most (n + lmL (most - n) 0 b.e) h0 (by omega) h
      refine ⟨by omega, fun c hc => ?_⟩
      rcases List.mem_cons.1 hc with rfl | hc
      · have := lmL_sz c.e (most - n) 0 (by omega) (by omega) (by omega)
        omega
      · exact h3 c hc
/-- No text of the arguments is longer than memory. -/
def argB (l : List Bn) : Prop := ∀ b ∈ l, b.x.length ≤ 1000000000000000 ∧ txs b.e
theorem bns_of {l : List Bn} {most : Int} (ha : argB l) (hm : 0 ≤ most) (hM : most ≤ 1000) (h : fewL most l.length l ≤ most) : bnsOk l := by
  obtain ⟨h1, h2⟩ := few_sz l most l.length hm (by omega) h
  exact ⟨by omega, fun b hb => ⟨(ha b hb).1, by have := h2 b hb; omega, (ha b hb).2⟩⟩
theorem toB_sz (e : List Tm) (l : List Bn) : szs (toB e l).1 ≤ 4000 := by
  unfold toB toL
  split
  · simp [szs]
  · split
    · simp [szs]
    · split
      · simp [szs]
      · exact nd_sz (by omega)
end Go.Vi
set_option maxRecDepth 100000
set_option maxHeartbeats 1000000
namespace Go.Vi
open Go Go.Proofs Go.RowKit

theorem info35 : ∃ i z, Tryd.prog.info? 35 = some i ∧ i.zero = some z ∧ i.size = 3 ∧ i.bytes = 48 ∧ z.cells.size = 3 := by
  have h1 : (Tryd.prog.info? 35).map (fun i => (i.size, i.bytes)) = some (3, 48) := by kernel_rfl
  have h2 : ((Tryd.prog.info? 35).bind (·.zero)).map (·.cells.size) = some 3 := by kernel_rfl
  obtain ⟨i, hi, h1⟩ := Option.map_eq_some_iff.1 h1
  obtain ⟨z, hz, h2⟩ := Option.map_eq_some_iff.1 h2
  rw [hi] at hz
  injection h1 with h1 h3
  exact ⟨i, z, hi, hz, h1, h3, h2⟩
theorem w39 (n : Nat) (hn : n ≤ 1000000) : SoundPure Tryd.prog 39 [.nilS, I n] (.ret (.own 3 [])) := by
  intro w A cs hJ hA hp
  simp only [PCs, PC] at hp
  obtain ⟨a, d, hcs, rfl, a2, d2, hcs2, rfl, rfl⟩ := hp
  obtain rfl : cs = #[.slice none 0 0, .int .i64 (n : Int)] := by cases cs; simp_all
  by_cases h0 : n = 0
  · subst h0
    refine (Any8.slices_Grow_room Tryd.lays8n4 none 0 0 0 w (Nat.le_refl _) (by omega) (by omega) (by omega)).mono ?_
    rintro e w' ⟨rfl, rfl⟩
    refine ⟨A, ⟨Nat.le_refl _, rfl, rfl, rfl, fun b hb' _ => rfl, fun _ _ _ => rfl, Nat.le_refl _, fun _ h => h, fun _ h => .inl h, fun _ h => .inl h⟩, hA, _, [{ b := none, base := 0, sz := 3, csz := 0 }], rfl, ?_, fun i hi b hb => ?_, List.pairwise_singleton _ _⟩
    · simp only [RC]
      exact ⟨_, rfl, ⟨none, 0, rfl, by simp, by omega, .inr ⟨rfl, rfl⟩⟩, by simp only [OC]⟩
    · simp only [List.mem_singleton] at hi
      subst hi
      cases hb
  · obtain ⟨i0, z, hi0, hz0, hs0, hb0, hc0⟩ := info35
    refine (Any8.slices_Grow_grow Tryd.lays8n4 i0 z hi0 hz0 (by omega) none 0 0 n [] w (Nat.le_refl _) (by omega) (by rw [hb0]; omega) (by omega) (by simp) (fun _ => rfl) (fun a h => by cases h)).mono ?_
    rintro e w' ⟨rfl, rfl⟩
    have hG := grownCap_ge w (0 + n) 0 35
    have hG2 := grownCap_le_maxLen w (0 + n) 0 35 (by unfold maxLen; omega)
    show PureOut w A _ (.returned (.slice (some ⟨w.heap.size, 0, none⟩) 0 (grownCap w (0 + n) 0 35))) (w.drew.alloc (.cells (#[] ++ Builtin.zeroCells z.cells (0 + n - 0) ++ Builtin.zeroCells z.cells (grownCap w (0 + n) 0 35 - (0 + n))) 35))
    generalize grownCap w (0 + n) 0 35 = G at hG hG2 ⊢
    have hsz : (#[] ++ Builtin.zeroCells z.cells (0 + n - 0) ++ Builtin.zeroCells z.cells (G - (0 + n))).size = G * 3 := by
      simp only [Array.size_append, size_zeroCells, hc0, List.size_toArray, List.length_nil]
      omega
    generalize (#[] ++ Builtin.zeroCells z.cells (0 + n - 0) ++ Builtin.zeroCells z.cells (G - (0 + n))) = C at hsz ⊢
    have hb := ((Below.refl w.heap.size w).drew).alloc (Nat.le_refl _) (.cells C 35)
    refine ⟨A, ⟨hb.size, hb.os, hb.tape, hb.output, fun b hb' _ => hb.block b hb', fun _ _ _ => rfl, Nat.le_refl _, fun _ h => h, fun _ h => .inl h, fun _ h => .inl h⟩, fun b hb' => Nat.lt_of_lt_of_le (hA b hb') hb.size, _, [{ b := some w.heap.size, base := 0, sz := 3, csz := G * 3 }], rfl, ?_, fun i hi b hb => ?_, List.pairwise_singleton _ _⟩
    · simp only [RC]
      refine ⟨_, rfl, ⟨some ⟨w.heap.size, 0, none⟩, G, rfl, by simp, by unfold maxLen at hG2; omega, .inl ⟨_, rfl, rfl, by simp⟩⟩, ?_⟩
      simp only [OC, PEs]
      refine ⟨trivial, by omega, by simp, ⟨C, 35, ?_, hsz⟩, trivial⟩
      show (w.heap.push _)[w.heap.size]? = _
      exact Array.getElem?_push_size
    · simp only [List.mem_singleton] at hi
      subst hi
      injection hb with hb
      subst hb
      refine ⟨Nat.le_refl _, ?_, fun h => Nat.lt_irrefl _ (hA _ h)⟩
      show w.heap.size < (w.heap.push _).size
      rw [Array.size_push]
      exact Nat.lt_succ_self _
def F39 : List V → Option V
  | [.nilS, .int .i64 n] => if 0 ≤ n ∧ n ≤ 1000000 then some (.own 3 []) else none
  | _ => none
theorem F39_eq {n : Nat} (h : n ≤ 1000000) : F39 [.nilS, I n] = some (.own 3 []) := by
  show (if _ then _ else _) = _
  rw [if_pos (by omega)]
theorem F39_sound : ∀ args v, F39 args = some v → SoundPure Tryd.prog 39 args (.ret v) := fun args v h => by
  unfold F39 at h
  split at h
  · split at h
    · rename_i n hn
      injection h with h
      subst h
      obtain ⟨m, rfl⟩ : ∃ m : Nat, n = m := ⟨n.toNat, by omega⟩
      exact w39 m (by omega)
    · cases h
  · cases h

/-! ### Concat -/
abbrev Tss (l : List (List Tm)) : V := .lst (l.map fun a => Ts a)
def lens (l : List (List Tm)) : Nat := (l.map List.length).sum
noncomputable abbrev T716 : List (FuncId × (List V → Option V)) := [(39, F39)]
def P716 (n : Nat) (v : V) (r : Option (Ex × St)) : Prop := Fin (M716 (hand T716) n) [.tmp 2] r = some (.ret v)
theorem l716a {n k} {P : Option (Ex × St) → Prop} (ls : List (List Tm)) (hl : lens ls ≤ 1000000) (hn0 : ls.length ≤ 1000000) : ∀ r i (x : Nat) n' s, ls.drop i = r → r.length < n' → x + lens r ≤ 1000000 → tget s.τ 0 = Tss ls → tget s.τ 9 = Tss ls → tget s.τ 10 = I ls.length → tget s.τ 11 = I (i : Nat) → tget s.τ 3 = I x →
    (∀ s', tget s'.τ 0 = Tss ls → tget s'.τ 3 = I (x + lens r : Nat) → P (X (M716 (hand T716) n) (.exit 0) k s')) →
    P (L (M716 (hand T716) n) (sub [1, 1, 0, 1, 0, 0] c716) n' k s)
  | [], i, x, n' + 1, s, hi, hn, hx, h0, h9, h10, h11, h3, hq => by
    have hc := inlt (drop_nil' hi)
    rw [L_succ]
    simp only [vmr, vmw, vmp, vza, ↓reduceIte, Nat.reduceBEq, Nat.reduceLT, Nat.reduceAdd, Nat.reduceEqDiff, reduceCtorEq, vmt, vzb, vzc, vlen, vleaf, velems, oks, vst, vmd, ty, Nat.reduceLeDiff, Nat.reduceMul, Nat.reduceSub, c716, Tryd.f16, m716, h9, h10, h11, hc]
    refine hq _ ?_ ?_
    all_goals simp only [vmr, vmw, vmp, vza, ↓reduceIte, Nat.reduceBEq, Nat.reduceLT, Nat.reduceAdd, Nat.reduceEqDiff, reduceCtorEq, vmt, vzb, vzc, vlen, vleaf, velems, oks, vst, vmd, ty, Nat.reduceLeDiff, Nat.reduceMul, Nat.reduceSub, m716, h0, h3, lens, List.map_nil, List.sum_nil, Nat.add_zero]
  | a :: r, i, x, n' + 1, s, hi, hn, hx, h0, h9, h10, h11, h3, hq => by
    obtain ⟨g1, g2, g3⟩ := drop_cons hi
    have hcl := ilt g3
    have ga : (ls.map fun a => Ts a)[i]? = some (Ts a) := by rw [List.getElem?_map, g1, Option.map_some]
    have hls : lens (a :: r) = a.length + lens r := by simp [lens]
    rw [hls] at hx hq
    have w4 := wsuc g3 (by omega)
    have w1 : IntKind.i64.wrap ((x : Int) + (a.length : Int)) = ((x + a.length : Nat) : Int) := by rw [wrap_id] <;> omega
    have c1 : (((x + a.length : Nat) : Int) < 0) = False := eq_false (by omega)
    have ih := fun x s => l716a (n := n) (k := k) (P := P) ls hl hn0 r (i + 1) x n' s g2 (by simp at hn; omega)
    simp only [sub, c716, Tryd.f16, gets] at ih
    rw [L_succ]
    simp only [vmr, vmw, vmp, vza, ↓reduceIte, Nat.reduceBEq, Nat.reduceLT, Nat.reduceAdd, Nat.reduceEqDiff, reduceCtorEq, vmt, vzb, vzc, vlen, vleaf, velems, oks, vst, vmd, ty, Nat.reduceLeDiff, Nat.reduceMul, Nat.reduceSub, c716, Tryd.f16, m716, h9, h10, h11, h3, hcl, ga, w4, w1, c1]
    refine ih (x + a.length) _ (by omega) ?_ ?_ ?_ ?_ ?_ (fun s' e0 e3 => hq s' e0 (by rw [e3, Nat.add_assoc]))
    all_goals simp only [vmr, vmw, vmp, vza, ↓reduceIte, Nat.reduceBEq, Nat.reduceLT, Nat.reduceAdd, Nat.reduceEqDiff, reduceCtorEq, vmt, vzb, vzc, vlen, vleaf, velems, oks, vst, vmd, ty, Nat.reduceLeDiff, Nat.reduceMul, Nat.reduceSub, m716, h0, h9, h10]
/-- What is joined so far. -/
def A16 (s : St) (d : List Tm) : Prop := ∃ v6, tget s.τ 6 = .ref ⟨0, 6, 0⟩ v6 0 d.length ∧ lget s.L (6, 0) = some (v6, .arr 3 (d.map tv))
theorem A16.of {s d} (h : tget s.τ 6 = .ref ⟨0, 6, 0⟩ (ver s (6, 0)) 0 d.length) (h' : lget s.L (6, 0) = some (ver s (6, 0), .arr 3 (d.map tv))) : A16 s d := ⟨_, h, h'⟩
theorem l716b {n k} {P : Option (Ex × St) → Prop} (ls : List (List Tm)) (hn0 : ls.length ≤ 1000000) : ∀ r i d n' s, ls.drop i = r → r.length < n' → d.length + lens r ≤ 1000000 → A16 s d → tget s.τ 25 = Tss ls → tget s.τ 26 = I ls.length → tget s.τ 27 = I (i : Nat) →
    (∀ s', A16 s' (d ++ r.flatten) → P (X (M716 (hand T716) n) (.exit 2) k s')) →
    P (L (M716 (hand T716) n) (sub [1, 1, 1, 1, 0, 1, 0, 0] c716) n' k s)
  | [], i, d, n' + 1, s, hi, hn, hd, ⟨v6, h6, h6'⟩, h25, h26, h27, hq => by
    have hc := inlt (drop_nil' hi)
    rw [L_succ]
    simp only [vmr, vmw, vmp, vza, ↓reduceIte, Nat.reduceBEq, Nat.reduceLT, Nat.reduceAdd, Nat.reduceEqDiff, reduceCtorEq, vmt, vzb, vzc, vlen, vleaf, velems, oks, vst, vmd, ty, Nat.reduceLeDiff, Nat.reduceMul, Nat.reduceSub, c716, Tryd.f16, m716, h25, h26, h27, hc]
    refine hq _ ⟨v6, ?_, ?_⟩
    all_goals simp only [vmr, vmw, vmp, vza, ↓reduceIte, Nat.reduceBEq, Nat.reduceLT, Nat.reduceAdd, Nat.reduceEqDiff, reduceCtorEq, vmt, vzb, vzc, vlen, vleaf, velems, oks, vst, vmd, ty, Nat.reduceLeDiff, Nat.reduceMul, Nat.reduceSub, m716, h6, h6', List.flatten_nil]
  | a :: r, i, d, n' + 1, s, hi, hn, hd, ⟨v6, h6, h6'⟩, h25, h26, h27, hq => by
    obtain ⟨g1, g2, g3⟩ := drop_cons hi
    have hcl := ilt g3
    have ga : (ls.map fun a => Ts a)[i]? = some (Ts a) := by rw [List.getElem?_map, g1, Option.map_some]
    have hls : lens (a :: r) = a.length + lens r := by simp [lens]
    rw [hls] at hd
    have w4 := wsuc g3 (by omega)
    have hr := @room35 (d.length + a.length) (by omega)
    have hf := fits35s a
    have ih := fun d s => l716b (n := n) (k := k) (P := P) ls hn0 r (i + 1) d n' s g2 (by simp at hn; omega)
    simp only [sub, c716, Tryd.f16, gets] at ih
    rw [List.flatten_cons, ← List.append_assoc] at hq
    rw [L_succ]
    simp only [vmr, vmw, vmp, vza, ↓reduceIte, Nat.reduceBEq, Nat.reduceLT, Nat.reduceAdd, Nat.reduceEqDiff, reduceCtorEq, vmt, vzb, vzc, vlen, vleaf, velems, oks, vst, vmd, ty, Nat.reduceLeDiff, Nat.reduceMul, Nat.reduceSub, c716, Tryd.f16, m716, h25, h26, h27, h6, h6', hcl, ga, w4, hr, hf]
    refine ih (d ++ a) _ (by rw [List.length_append]; omega) (A16.of ?_ ?_) ?_ ?_ ?_ hq
    all_goals simp only [vmr, vmw, vmp, vza, ↓reduceIte, Nat.reduceBEq, Nat.reduceLT, Nat.reduceAdd, Nat.reduceEqDiff, reduceCtorEq, vmt, vzb, vzc, vlen, vleaf, velems, oks, vst, vmd, ty, Nat.reduceLeDiff, Nat.reduceMul, Nat.reduceSub, m716, ver, h25, h26, List.length_append, List.map_append]
theorem w16 (ls : List (List Tm)) (hl : lens ls ≤ 1000000) (hn0 : ls.length ≤ 1000000) : SoundPure Tryd.prog 16 [Tss ls] (.ret (Ts ls.flatten)) := by
  have hfl : ls.flatten.length = lens ls := by simp [lens, List.length_flatten]
  have : SoundPure Tryd.prog 16 [Tss ls] (.ret (.own 3 (ls.flatten.map tv))) := by
    refine s716 (H := T716) (sound_cons F39_sound sound_nil) (ls.length + 1) (by simp) (own_pure _ _) ?_
    show P716 _ _ _
    have a1 := fun P k s => @l716a (ls.length + 1) k P ls hl hn0 ls 0 0 (ls.length + 1) s rfl (by omega) (by omega)
    have a2 := fun P k s => @l716b (ls.length + 1) k P ls hn0 ls 0 [] (ls.length + 1) s rfl (by omega) (by simpa using hl)
    have e := F39_eq hl
    simp only [c716, Tryd.f16, gets, sub] at a1 a2 ⊢
    simp only [vmr, vmw, vmp, vza, ↓reduceIte, Nat.reduceBEq, Nat.reduceLT, Nat.reduceAdd, Nat.reduceEqDiff, reduceCtorEq, vmt, vzb, vzc, vlen, vleaf, velems, oks, vst, vmd, ty, Nat.reduceLeDiff, Nat.reduceMul, Nat.reduceSub, m716]
    refine a1 (P716 _ _) _ _ ?_ ?_ ?_ ?_ ?_ (fun s' h0 h3 => ?_)
    case refine_6 =>
      rw [Nat.zero_add] at h3
      simp only [vmr, vmw, vmp, vza, ↓reduceIte, Nat.reduceBEq, Nat.reduceLT, Nat.reduceAdd, Nat.reduceEqDiff, reduceCtorEq, vmt, vzb, vzc, vlen, vleaf, velems, oks, vst, vmd, ty, Nat.reduceLeDiff, Nat.reduceMul, Nat.reduceSub, m716, h0, h3, e]
      refine a2 (P716 _ _) _ _ (A16.of ?_ ?_) ?_ ?_ ?_ (fun s2 hA => ?_)
      case refine_6 =>
        obtain ⟨v6, h6, h6'⟩ := hA
        rw [List.nil_append] at h6 h6'
        simp only [vmr, vmw, vmp, vza, ↓reduceIte, Nat.reduceBEq, Nat.reduceLT, Nat.reduceAdd, Nat.reduceEqDiff, reduceCtorEq, vmt, vzb, vzc, vlen, vleaf, velems, oks, vst, vmd, ty, Nat.reduceLeDiff, Nat.reduceMul, Nat.reduceSub, m716, h6, h6']
        unfold P716
        simp only [vmr, vmw, vmp, vza, ↓reduceIte, Nat.reduceBEq, Nat.reduceLT, Nat.reduceAdd, Nat.reduceEqDiff, reduceCtorEq, vmt, vzb, vzc, vlen, vleaf, velems, oks, vst, vmd, ty, Nat.reduceLeDiff, Nat.reduceMul, Nat.reduceSub, vzr, m716, h6', take_len]
      all_goals simp only [vmr, vmw, vmp, vza, ↓reduceIte, Nat.reduceBEq, Nat.reduceLT, Nat.reduceAdd, Nat.reduceEqDiff, reduceCtorEq, vmt, vzb, vzc, vlen, vleaf, velems, oks, vst, vmd, ty, Nat.reduceLeDiff, Nat.reduceMul, Nat.reduceSub, m716, ver]
    all_goals simp only [vmr, vmw, vmp, vza, ↓reduceIte, Nat.reduceBEq, Nat.reduceLT, Nat.reduceAdd, Nat.reduceEqDiff, reduceCtorEq, vmt, vzb, vzc, vlen, vleaf, velems, oks, vst, vmd, ty, Nat.reduceLeDiff, Nat.reduceMul, Nat.reduceSub, m716]
  have := sound_imm this (own_pure _ _)
  rw [own_imm] at this
  exact this
theorem Tss_inj {a b : List (List Tm)} (h : Tss a = Tss b) : a = b := by
  injection h with h
  exact map_inj (fun _ _ => Ts_inj) h
noncomputable def F16 : List V → Option V := hF (α := List (List Tm)) (fun p => [Tss p]) (fun p => lens p ≤ 1000000 ∧ p.length ≤ 1000000) (fun p => Ts p.flatten)
theorem F16_eq2 {a b : List Tm} (h : a.length + b.length ≤ 1000000) : F16 [.lst [Ts a, Ts b]] = some (Ts (a ++ b)) := by
  have : F16 _ = some (Ts [a, b].flatten) := hF_eq (a := [a, b]) (args := [.lst [Ts a, Ts b]]) (one_inj' fun _ _ => Tss_inj) (by show [V.lst [can (Ts a), can (Ts b)]] = _; rw [can_Ts, can_Ts]; rfl) ⟨by simpa [lens] using h, by simp⟩
  rw [this]
  simp
theorem F16_sound : ∀ args v, F16 args = some v → SoundPure Tryd.prog 16 args (.ret v) := hF_sound fun p hp => w16 p hp.1 hp.2
end Go.Vi
set_option maxRecDepth 100000
set_option maxHeartbeats 1000000
namespace Go.Vi
open Go Go.Proofs

theorem toB_ok {e : List Tm} {l : List Bn} (h : (toB e l).2 = 0) : (toB e l).1 = unL l e := by
  unfold toB toL at *
  split
  · rename_i q; rw [if_pos q] at h; exact absurd h q
  · rename_i q
    rw [if_neg q] at h
    split
    · rename_i q2; rw [if_pos q2] at h; exact absurd h q2
    · rename_i q2
      rw [if_neg q2] at h
      split
      · rename_i q3; rw [if_pos q3] at h; simp at h
      · rfl
theorem unL_app (l : List Bn) : ∀ a b : List Tm, unL l (a ++ b) = unL l a ++ unL l b
  | [], b => by simp [unL]
  | x :: r, b => by simp only [List.cons_append, unL, unL_app l r b, List.append_assoc]
theorem unL_grp (l : List Bn) (a : List Tm) : unL l [.mk 4 [] a] = [.mk 4 [] (unL l a)] := by
  have : valB l 4 [] = none := by unfold valB isV; rfl
  simp only [unL, unT, this, List.append_nil]
theorem txs_app : ∀ {a b : List Tm}, txs a → txs b → txs (a ++ b)
  | [], b, _, h => h
  | x :: r, b, h, h' => by
    simp only [List.cons_append, txs] at h ⊢
    exact ⟨h.1, txs_app h.2 h'⟩
noncomputable abbrev T704 : List (FuncId × (List V → Option V)) := [(8, F8), (9, F9), (10, F10), (11, Fto), (13, F312), (16, F16)]
theorem h704 : SoundHand Tryd.prog (hand T704) := sound_cons F8_sound <| sound_cons F9_sound <| sound_cons F10_sound <| sound_cons F11_sound <| sound_cons F312_sound <| sound_cons F16_sound sound_nil
theorem w4 (a b : List Tm) (l : List Bn) (ha : txs a) (hb : txs b) (hl : argB l) : SoundPure Tryd.prog 4 [Ts a, Ts b, Bs l] (.ret (.bool true)) := by
  refine s704 h704 1 (by simp) rfl ?_
  simp only [c704, Tryd.f4, gets, sub]
  have e1 := F8_eq (a := a) (k := 61) (by omega) (by omega)
  have e1b := F8_eq (a := b) (k := 61) (by omega) (by omega)
  have e2 := F9_eq (a := l) (k := 100) (by omega) (by omega)
  have e3 := F10_eq
  have n0 : ((0 : Int) != 0) = false := rfl
  by_cases q1 : lmL 61 0 a > 60
  · have q1' := eq_true q1
    simp only [vmr, vmw, vmp, vza, ↓reduceIte, Nat.reduceBEq, Nat.reduceLT, Nat.reduceAdd, Nat.reduceEqDiff, reduceCtorEq, vmt, vzb, vzc, vlen, vleaf, velems, oks, vst, vmd, ty, Nat.reduceLeDiff, Nat.reduceMul, Nat.reduceSub, vzr, m704, e1, e3, q1']
  have q1' := eq_false q1
  by_cases q2 : lmL 61 0 b > 60
  · have q2' := eq_true q2
    simp only [vmr, vmw, vmp, vza, ↓reduceIte, Nat.reduceBEq, Nat.reduceLT, Nat.reduceAdd, Nat.reduceEqDiff, reduceCtorEq, vmt, vzb, vzc, vlen, vleaf, velems, oks, vst, vmd, ty, Nat.reduceLeDiff, Nat.reduceMul, Nat.reduceSub, vzr, m704, e1, e1b, e3, q1', q2']
  have q2' := eq_false q2
  by_cases q3 : fewL 100 l.length l ≤ 100
  case neg =>
    rw [decide_eq_false q3] at e2
    simp only [vmr, vmw, vmp, vza, ↓reduceIte, Nat.reduceBEq, Nat.reduceLT, Nat.reduceAdd, Nat.reduceEqDiff, reduceCtorEq, vmt, vzb, vzc, vlen, vleaf, velems, oks, vst, vmd, ty, Nat.reduceLeDiff, Nat.reduceMul, Nat.reduceSub, vzr, m704, e1, e1b, e2, e3, q1', q2']
  rw [decide_eq_true q3] at e2
  have sa := lmL_sz a 61 0 (by omega) (by omega) (by omega)
  have sb := lmL_sz b 61 0 (by omega) (by omega) (by omega)
  have hbn := bns_of hl (by omega) (by omega) q3
  have e4 : Fto [Ts a, Bs l] = some (.tup [Ts (toB a l).1, I (toB a l).2]) := Fto_eq (e := a) (l := l) (by omega) ha hbn
  have e5 : Fto [Ts b, Bs l] = some (.tup [Ts (toB b l).1, I (toB b l).2]) := Fto_eq (e := b) (l := l) (by omega) hb hbn
  have e6 : Fto [Ts (a ++ b), Bs l] = some (.tup [Ts (toB (a ++ b) l).1, I (toB (a ++ b) l).2]) := Fto_eq (e := a ++ b) (l := l) (by rw [szs_app]; omega) (txs_app ha hb) hbn
  have lna := szs_len a
  have lnb := szs_len b
  have e7 := F16_eq2 (a := a) (b := b) (by omega)
  have r1 : roomOk Tryd.prog 22 2 = true := by simp [roomOk, ty, cellsV, leafV]
  have f1 : ∀ e : List V, fitsE Tryd.prog 22 (.lst e) = true := fun e => by simp [fitsE, ty, leafV]
  by_cases q4 : (toB a l).2 = 0
  case neg =>
    have q4' : ((toB a l).2 != 0) = true := by simpa using q4
    simp only [vmr, vmw, vmp, vza, ↓reduceIte, Nat.reduceBEq, Nat.reduceLT, Nat.reduceAdd, Nat.reduceEqDiff, reduceCtorEq, vmt, vzb, vzc, vlen, vleaf, velems, oks, vst, vmd, ty, Nat.reduceLeDiff, Nat.reduceMul, Nat.reduceSub, vzr, m704, e1, e1b, e2, e3, q1', q2', e4, e5, e6, e7, n0, List.map_cons, List.map_nil, r1, f1, q4']
  by_cases q5 : (toB b l).2 = 0
  case neg =>
    have q5' : ((toB b l).2 != 0) = true := by simpa using q5
    simp only [vmr, vmw, vmp, vza, ↓reduceIte, Nat.reduceBEq, Nat.reduceLT, Nat.reduceAdd, Nat.reduceEqDiff, reduceCtorEq, vmt, vzb, vzc, vlen, vleaf, velems, oks, vst, vmd, ty, Nat.reduceLeDiff, Nat.reduceMul, Nat.reduceSub, vzr, m704, e1, e1b, e2, e3, q1', q2', e4, e5, e6, e7, n0, List.map_cons, List.map_nil, r1, f1, q4, q5']
  by_cases q6 : (toB (a ++ b) l).2 = 0
  case neg =>
    have q6' : ((toB (a ++ b) l).2 != 0) = true := by simpa using q6
    simp only [vmr, vmw, vmp, vza, ↓reduceIte, Nat.reduceBEq, Nat.reduceLT, Nat.reduceAdd, Nat.reduceEqDiff, reduceCtorEq, vmt, vzb, vzc, vlen, vleaf, velems, oks, vst, vmd, ty, Nat.reduceLeDiff, Nat.reduceMul, Nat.reduceSub, vzr, m704, e1, e1b, e2, e3, q1', q2', e4, e5, e6, e7, n0, List.map_cons, List.map_nil, r1, f1, q4, q5, q6']
  have g1 := toB_ok q4
  have g2 := toB_ok q5
  have g3 := toB_ok q6
  have z1 := toB_sz a l
  have z2 := toB_sz b l
  have z3 := toB_sz (a ++ b) l
  rw [g1] at z1 e4
  rw [g2] at z2 e5
  rw [g3] at z3 e6
  have ln1 := szs_len (unL l a)
  have ln2 := szs_len (unL l b)
  have e8 := F16_eq2 (a := unL l a) (b := unL l b) (by omega)
  have e9 := F312_eq (a := unL l (a ++ b)) (b := unL l a ++ unL l b) (by omega)
  rw [← unL_app, eqB_self] at e9
  rw [← unL_app] at e8
  have e10 : Fto [Ts [.mk 4 [] a], Bs l] = some (.tup [Ts (toB [.mk 4 [] a] l).1, I (toB [.mk 4 [] a] l).2]) := Fto_eq (e := [.mk 4 [] a]) (l := l) (by simp only [szs, szt]; omega) (by simp only [txs, txt1, List.length_nil]; exact ⟨⟨by omega, ha⟩, trivial⟩) hbn
  have r2 := @room35 1 (by omega)
  have f2 : ∀ (k : Int) (s : List UInt8) (e : List V), fitsE Tryd.prog 35 (.agg [I k, .str s, .lst e]) = true := fun k s e => by simp [fitsE, ty, leafV]
  rw [q4] at e4
  rw [q5] at e5
  rw [q6] at e6
  by_cases q7 : (toB [.mk 4 [] a] l).2 = 0
  · have g4 := toB_ok q7
    have z4 := toB_sz [.mk 4 [] a] l
    rw [g4] at z4 e10
    rw [q7] at e10
    have e11 := F312_eq (a := unL l [.mk 4 [] a]) (b := unL l [.mk 4 [] a]) (by omega)
    rw [eqB_self] at e11
    rw [unL_grp] at e10 e11
    have vT : ∀ x : List Tm, Ts [.mk 4 [] x] = .lst [.agg [I 4, .str [], Ts x]] := fun x => by simp only [Ts, List.map_cons, List.map_nil, tv_mk]
    rw [vT a, vT (unL l a)] at e10
    rw [vT (unL l a)] at e11
    simp only [vmr, vmw, vmp, vza, ↓reduceIte, Nat.reduceBEq, Nat.reduceLT, Nat.reduceAdd, Nat.reduceEqDiff, reduceCtorEq, vmt, vzb, vzc, vlen, vleaf, velems, oks, vst, vmd, ty, Nat.reduceLeDiff, Nat.reduceMul, Nat.reduceSub, vzr, m704, e1, e1b, e2, e3, q1', q2', e4, e5, e6, e7, n0, List.map_cons, List.map_nil, r1, f1, e8, e9, r2, f2, e10, e11]
  · have q7' : ((toB [.mk 4 [] a] l).2 != 0) = true := by simpa using q7
    have vT : ∀ x : List Tm, Ts [.mk 4 [] x] = .lst [.agg [I 4, .str [], Ts x]] := fun x => by simp only [Ts, List.map_cons, List.map_nil, tv_mk]
    rw [vT a] at e10
    simp only [vmr, vmw, vmp, vza, ↓reduceIte, Nat.reduceBEq, Nat.reduceLT, Nat.reduceAdd, Nat.reduceEqDiff, reduceCtorEq, vmt, vzb, vzc, vlen, vleaf, velems, oks, vst, vmd, ty, Nat.reduceLeDiff, Nat.reduceMul, Nat.reduceSub, vzr, m704, e1, e1b, e2, e3, q1', q2', e4, e5, e6, e7, n0, List.map_cons, List.map_nil, r1, f1, e8, e9, r2, f2, e10, q7']
end Go.Vi
set_option maxRecDepth 100000
namespace Go.Vi
open Go Go.Proofs Go.ChangeShapes Go.WideShapes Go.ChangeAt Go.RowKit

theorem own0 : ownKnob Tryd.prog.godebug = none := by kernel_rfl
theorem kids0 : Kids Tryd.prog (· < Tryd.prog.types.size) := kids_rows (by kernel_rfl) (by kernel_rfl)
theorem full0 : ∀ t e, t < Tryd.prog.types.size → Tryd.prog.underlying t = some (.slice e) → 0 < Tryd.prog.cellsOf e := slices_full_of Tryd.prog (by kernel_rfl)
theorem reach15 {n : Nat} (h : n ≤ reachBytes) : n ≤ 1000000000000000 := by unfold reachBytes at h; omega
theorem OpS.map {α β : Type} {P : Program} {t : TypeId} {f : α → V} {ok : α → Prop} {m : Nat} (h : OpS P t f ok m) (g : α → β) {f' : β → V} {ok' : β → Prop} (e : ∀ a, f' (g a) = f a) (o : ∀ a, ok a → ok' (g a)) : OpS P t f' ok' m := fun hx hz =>
  let ⟨a, ha, hao⟩ := h hx hz
  ⟨g a, by rw [e]; exact ha, o a hao⟩
theorem cells35 : Tryd.prog.cellsOf 35 = 3 := by kernel_rfl
theorem cells59 : Tryd.prog.cellsOf 59 = 2 := by kernel_rfl
theorem len_tv (t : Tm) : (cellsV (tv t)).length = Tryd.prog.cellsOf 35 := by cases t; rw [tv_mk, cells35]; rfl
theorem len_bn (b : Bn) : (cellsV b.v).length = Tryd.prog.cellsOf 59 := by rw [cells59]; rfl
theorem opT : ∀ m, OpS Tryd.prog 35 tv txt1 m ∧ OpS Tryd.prog 22 (fun l : List Tm => V.lst (l.map tv)) txs m := by
  intro m
  induction m using Nat.strongRecOn with
  | ind m IH =>
  refine ⟨?_, ?_⟩
  · refine OpS.map (opS_struct Tryd.underlying35 (fun n hn => opSF_cons rfl (opS_int Tryd.underlying3) (opSF_cons (by kernel_rfl) (opS_str Tryd.underlying9) (opSF_cons (by kernel_rfl) (IH n hn).2 opSF_nil))) (by kernel_rfl)) (fun b => Tm.mk b.1 b.2.1 b.2.2.1) (fun b => ?_) (fun b h => ?_)
    · rw [tv_mk]; rfl
    · exact ⟨reach15 h.2.1, h.2.2.1⟩
  · exact OpS.map (opS_slice Tryd.underlying22 (fun n hn => (IH n hn).1) len_tv (by rw [cells35]; decide)) id (fun _ => rfl) (fun l h => txs_of h)
theorem opB (m : Nat) : OpS Tryd.prog 23 (fun l : List Bn => V.lst (l.map Bn.v)) argB m := by
  have hb : ∀ m, OpS Tryd.prog 59 Bn.v (fun b => b.x.length ≤ 1000000000000000 ∧ txs b.e) m := fun m => by
    refine OpS.map (opS_struct Tryd.underlying59 (fun n hn => opSF_cons rfl (opS_str Tryd.underlying9) (opSF_cons (by kernel_rfl) (opT n).2 opSF_nil)) (by kernel_rfl)) (fun b => Bn.mk b.1 b.2.1) (fun b => rfl) (fun b h => ?_)
    exact ⟨reach15 h.1, h.2.1⟩
  intro H enc w cs x hx hz
  exact opS_slice Tryd.underlying23 (fun n hn => hb n) len_bn (by rw [cells59]; decide) hx hz
theorem argT {H : Type} {enc : TypeId × Value → H} {w : World} {base : Nat} {v : Value} {d : DataW H} {p : List MemPlace} (hv : Value.okWide Tryd.prog w .any base 22 v) (h : DataW.Trod enc Tryd.prog w 0 (fun _ => true) true 22 v d p) (hz : ∀ n ∈ d.weights Tryd.prog 22, n ≤ reachBytes) : ∃ l : List Tm, PC w (oldB w) (Ts l) v ∧ txs l :=
  argS_slice Tryd.underlying22 (fun m => (opT m).2) hv h hz
theorem argBs {H : Type} {enc : TypeId × Value → H} {w : World} {base : Nat} {v : Value} {d : DataW H} {p : List MemPlace} (hv : Value.okWide Tryd.prog w .any base 23 v) (h : DataW.Trod enc Tryd.prog w 0 (fun _ => true) true 23 v d p) (hz : ∀ n ∈ d.weights Tryd.prog 23, n ≤ reachBytes) : ∃ l : List Bn, PC w (oldB w) (Bs l) v ∧ argB l :=
  argS_slice Tryd.underlying23 opB hv h hz
theorem sized_at {H : Type} {ts : List TypeId} {ds : List (DataW H)} (h : (DataW.weightsEach Tryd.prog ts ds).all (· ≤ reachBytes) = true) {j : Nat} {t : TypeId} {d : DataW H} (ht : ts[j]? = some t) (hd : ds[j]? = some d) : ∀ n ∈ d.weights Tryd.prog t, n ≤ reachBytes := fun n hn => by
  have := List.all_eq_true.1 h n (DataW.weights_mem_each ht hd n hn)
  simpa using this
end Go.Vi
set_option maxRecDepth 100000
namespace Go.Vi
open Go Go.Proofs Go.ChangeShapes Go.WideShapes Go.ChangeAt Go.RowKit

theorem contract4 (H : Type) (enc : TypeId × Value → H) (W : World) (base : Nat) (args : Array Value) (ds gs : List (DataW H)) (before : List MemPlace)
    (hval : ∀ (j : Nat) t v, Tryd.f4.params[j]? = some t → args[j]? = some v → Value.okWide Tryd.prog W .any base t v)
    (hW : DataW.Whole enc Tryd.prog Tryd.f4.params.toList YtpibnnopnhmijaaDoor.Rows.applyPartsSpec.vars false W args.toList ds gs before)
    (hsz : (DataW.weightsEach Tryd.prog (Tryd.f4.params.toList ++ (OpenSpec.ofChange YtpibnnopnhmijaaDoor.Rows.applyPartsSpec).bare.plain.varTypes Tryd.prog) (ds ++ gs)).all (· ≤ reachBytes) = true) :
    Calls Tryd.prog 4 args W fun e W' => ∃ v, e = .returned v ∧ YtpibnnopnhmijaaDoor.Rows.applyPartsSpec.post enc Tryd.prog Tryd.f4 false true false false W args v W' := by
  have hW' := hW
  obtain ⟨p, q, hA0, hV, rfl, hfz, hnd⟩ := hW
  have hA : DataW.TrodAll enc Tryd.prog W 0 (fun _ => true) true Tryd.f4.params.toList args.toList ds p := hA0
  rw [Tryd.params4] at hA hval hsz
  obtain ⟨v0, vs0, d0, ds0, p0, q0, e0, rfl, rfl, h0, hA⟩ := trodAll_cons hA
  obtain ⟨v1, vs1, d1, ds1, p1, q1, rfl, rfl, rfl, h1, hA⟩ := trodAll_cons hA
  obtain ⟨v2, vs2, d2, ds2, p2, q2, rfl, rfl, rfl, h2, hA⟩ := trodAll_cons hA
  obtain ⟨rfl, rfl, rfl⟩ := trodAll_nil hA
  obtain rfl : args = #[v0, v1, v2] := by cases args; simp_all
  obtain ⟨rfl, rfl⟩ := trodVars_none hV
  obtain ⟨x, hx, hxo⟩ := argT (hval 0 22 v0 rfl rfl) h0 (sized_at hsz (j := 0) rfl rfl)
  obtain ⟨y, hy, hyo⟩ := argT (hval 1 22 v1 rfl rfl) h1 (sized_at hsz (j := 1) rfl rfl)
  obtain ⟨z, hz, hzo⟩ := argBs (hval 2 23 v2 rfl rfl) h2 (sized_at hsz (j := 2) rfl rfl)
  refine (w4 x y z hxo hyo hzo W (oldB W) #[v0, v1, v2] (fun q hq => by cases hq) (fun _ h => h) ?_).mono fun e W' he => ?_
  · simp only [PCs]
    exact ⟨_, _, rfl, hx, _, _, rfl, hy, _, _, rfl, hz, rfl⟩
  · exact law_post kids0 full0 (by rw [Tryd.params4]; decide +kernel) rfl (by kernel_rfl) Tryd.underlying4 hW' rfl he
def lit1 : DataW Unit → List Value
  | .lit (.int k n) => [.int k n]
  | _ => []
def lits : DataW Unit → Array Value
  | .agg ds => (ds.flatMap lit1).toArray
  | _ => #[]
def setCells (cs : Array Value) : Go.Obj → Go.Obj
  | .cells _ t frozen => .cells cs t frozen
  | o => o
noncomputable def heap0 (os : Os) : Array Go.Obj := (World.holding Tryd.prog os ⟨#[], #[], []⟩).heap
noncomputable def laidWorld (os : Os) : World :=
  { World.holding Tryd.prog os ⟨#[], #[], []⟩ with
    heap := (((heap0 os).modify 1 (setCells (lits YtpibnnopnhmijaaDoor.Rows.laid_internal_strconv_uint64pow10))).modify 2 (setCells (lits YtpibnnopnhmijaaDoor.Rows.laid_math_bits_deBruijn32tab))).modify 3 (setCells (lits YtpibnnopnhmijaaDoor.Rows.laid_math_bits_deBruijn64tab)) }
theorem laid_met (os : Os) : laidMet Tryd.prog YtpibnnopnhmijaaDoor.Rows.applyPartsRow.laid ((laidWorld os).forCall (fun _ _ => 0) ⟨#[], #[.slice none 0 0, .slice none 0 0, .slice none 0 0], []⟩).memory :=
  laidMet_of_run' 8 (by kernel_rfl) (by kernel_rfl)
theorem reads (os : Os) {H : Type} (enc : TypeId × Value → H) : ∃ places, DataW.whole enc Tryd.prog ((laidWorld os).forCall (fun _ _ => 0) ⟨#[], #[.slice none 0 0, .slice none 0 0, .slice none 0 0], []⟩).memory Tryd.f4.params.toList YtpibnnopnhmijaaDoor.Rows.applyPartsSpec.vars false #[Value.slice none 0 0, Value.slice none 0 0, Value.slice none 0 0].toList 8 = some ([.nil, .nil, .nil], [], places) :=
  ⟨[], by kernel_rfl⟩
set_option maxRecDepth 100000 in
theorem lifted4 (os : Os) (started : os.Started) (H : Type) (enc : TypeId × Value → H) (F : Stop.Interp) :
    ReturnsInHanded {} Tryd.checked os 4 .any ((OpenSpec.ofChange YtpibnnopnhmijaaDoor.Rows.applyPartsSpec).preRow enc Tryd.prog Tryd.f4 YtpibnnopnhmijaaDoor.Rows.applyPartsRow.domain false YtpibnnopnhmijaaDoor.Rows.applyPartsRow.laid) (((OpenSpec.ofChange YtpibnnopnhmijaaDoor.Rows.applyPartsSpec).at F).post enc Tryd.prog Tryd.f4 false true false false) := by
  obtain ⟨places, hx⟩ := reads os enc
  refine returnsInHanded_of_row (C := Tryd.checked) (s := OpenSpec.ofChange YtpibnnopnhmijaaDoor.Rows.applyPartsSpec) own0 started (by kernel_rfl) Tryd.func4
    (witness_row_at (enc := enc) (C := Tryd.checked) false (laidWorld os) #[.slice none 0 0, .slice none 0 0, .slice none 0 0] rfl (by kernel_rfl) (by kernel_rfl) (by kernel_rfl)
      (OpenSpec.preRow_of_cond 8 hx (by kernel_rfl) (fun k hk => by cases hk) (by kernel_rfl) (laid_met os))) ?_
  intro W base args ds gs before hval hW _ _ hsz hL _ _
  exact contract4 H enc W base args ds gs before hval hW hsz
end Go.Vi
namespace Go.Proofs.YtpibnnopnhmijaaDoor
open Go.Vi
theorem said4 : Rows.ApplyPartsSaid :=
  OpenClaim.holds_of_cond 4 Tryd.f4 rfl rfl rfl rfl rfl rfl rfl ⟨rfl, rfl, rfl, rfl, rfl⟩ rfl rfl rfl rfl rfl (by kernel_rfl) Tryd.func4 (by kernel_rfl)
    (of_decide_eq_true (by kernel_rfl)) (by unfold Func.isWrapper; first | (rw [if_pos (by decide +kernel)]; kernel_rfl) | (rw [if_neg (by decide +kernel)]; exact ⟨rfl, rfl⟩))
    (fun os started H enc _ F => by rw [OpenClaim.pre_eq_preRow]; exact lifted4 os started H enc F)
theorem plain4 (f : FuncId) (fn : Func) (hf : Tryd.pinned.checked.prog.funcNamed "chiasmus/chiasmuslaw07.ApplyParts" = some f) (hfn : Tryd.pinned.checked.prog.funcs[f]? = some fn) :
    false = Tryd.pinned.checked.prog.looks [] ∧ ∀ (j : Nat) t, fn.params[j]? = some t → Tryd.pinned.checked.prog.wantsStandIn t = false := by
  obtain rfl : f = 4 := Option.some.inj ((show Tryd.prog.funcNamed "chiasmus/chiasmuslaw07.ApplyParts" = some 4 by kernel_rfl).symm.trans hf) |>.symm
  obtain rfl : fn = Tryd.f4 := (Option.some.inj (Tryd.func4.symm.trans hfn)).symm
  refine ⟨by kernel_rfl, fun j t ht => ?_⟩
  rw [Tryd.params4] at ht
  have hm : t = 22 ∨ t = 23 := by
    have := Array.mem_of_getElem? ht
    simp at this
    omega
  rcases hm with rfl | rfl
  · exact (show Tryd.prog.wantsStandIn 22 = false by kernel_rfl)
  · exact (show Tryd.prog.wantsStandIn 23 = false by kernel_rfl)
theorem applyParts_holds : Rows.ApplyPartsCardSaid :=
  Claim7.holds_tied_plain_at .later [] _ _ _ _ said4 (fun _ h => by cases h) (by kernel_rfl) (fun _ h => by cases h) applyParts_row_tie rfl ⟨rfl, rfl⟩ (by kernel_rfl) rfl plain4 (by kernel_rfl)
#print axioms applyParts_holds
end Go.Proofs.YtpibnnopnhmijaaDoor
