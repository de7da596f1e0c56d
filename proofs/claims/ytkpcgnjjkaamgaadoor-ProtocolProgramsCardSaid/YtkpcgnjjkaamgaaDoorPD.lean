/-
  Walk of the reference's sentence of a rule.
-/
import Derived.Test.YtkpcgnjjkaamgaaDoorPC
set_option linter.unusedSimpArgs false
set_option linter.unusedVariables false
set_option maxRecDepth 100000
set_option maxHeartbeats 4000000
namespace Go.Vi
open Go Go.Proofs

structure J20 (s : St) (r : Rule) (v4 v7 : Nat) (lf d : List Tm) (i : Nat) : Prop where
  h2 : tget s.τ 2 = .iptr r.cs
  h4 : tget s.τ 4 = .ptr ⟨0, 4, 0⟩ v4 0 0
  h4' : lget s.L (4, 0) = some (v4, .var [.nilS, .nilS, .nilS, .nilS, .nilS])
  h6 : tget s.τ 6 = Ts lf
  h7 : tget s.τ 7 = .ref ⟨0, 7, 0⟩ v7 0 d.length
  h7' : lget s.L (7, 0) = some (v7, .arr 3 (d.map tv))
  h8 : tget s.τ 8 = I i
noncomputable abbrev T320 : List (FuncId × (List V → Option V)) := [(32, hF (α := Nat) (fun n => [I n]) (fun n => n < 100) (fun n => .str (dig n))), (24, F324), (21, F321), (19, F319), (25, F325), (49, F349), (48, F348), (22, F322)]
theorem h320 : SoundHand Tryd.prog (hand T320) := sound_cons (hF_sound fun n h => w332 h) <| sound_cons (hF_sound fun b _ => w324 b) <| sound_cons (hF_sound fun l _ => w321 l) <| sound_cons F319_sound <| sound_cons (hF_sound fun n h => w325o h) <| sound_cons (hF_sound fun a h => w349 a.1 a.2 h) <| sound_cons (hF_sound fun n h => w348 h) <| sound_cons (hF_sound fun a _ => w322 a.1 a.2) sound_nil
theorem rowLen (x : Nat) (N : List (List UInt8)) : ((List.replicate x oneT).map tv ++ N.map vT).length = x + N.length := by simp
theorem l320b {n k} (r : Rule) (x i : Nat) (hx : x < 100) (v4 v7 : Nat) (lf d : List Tm) (hc : ∀ c ∈ r.clear, 0 ≤ c ∧ c < 100) (hcl : r.clear.length ≤ 1000) {P : Option (Ex × St) → Prop} : ∀ q (N : List (List UInt8)) j v9 n' s, r.clear.drop j = q → q.length < n' → N.length + q.length ≤ 1900 → J20 s r v4 v7 lf d i → tget s.τ 9 = .ref ⟨0, 9, 0⟩ v9 0 (x + N.length) → lget s.L (9, 0) = some (v9, .arr 3 ((List.replicate x oneT).map tv ++ N.map vT)) → tget s.τ 10 = I (j : Nat) →
    (∀ s' v9 (N' : List (List UInt8)), N' = N ++ clrN i q → J20 s' r v4 v7 lf d i → tget s'.τ 9 = .ref ⟨0, 9, 0⟩ v9 0 (x + N'.length) → lget s'.L (9, 0) = some (v9, .arr 3 ((List.replicate x oneT).map tv ++ N'.map vT)) → P (X (M320 (hand T320) n) (.exit 2) k s')) →
    P (L (M320 (hand T320) n) (sub [1, 1, 1, 1, 0, 1, 0, 0, 1, 0, 0, 1, 1, 0, 1, 0, 1, 0, 0] c320) n' k s)
  | [], N, j, v9, n' + 1, s, hi, hn, hb, ⟨h2, h4, h4', h6, h7, h7', h8⟩, h9, h9', h10, hq => by
    have hc := inlt (drop_nil' hi)
    rw [L_succ]
    simp only [vmr, vmw, vmp, vza, ↓reduceIte, Nat.reduceBEq, Nat.reduceLT, Nat.reduceAdd, Nat.reduceEqDiff, reduceCtorEq, vmt, vzb, vzc, vlen, vleaf, velems, oks, vst, vmd, ty, Nat.reduceLeDiff, Nat.reduceMul, Nat.reduceSub, c320, Tryd.f20, m320, h2, h10, hc]
    refine hq _ v9 N (by simp [clrN]) ⟨?_, ?_, ?_, ?_, ?_, ?_, ?_⟩ ?_ ?_
    all_goals simp only [vmr, vmw, vmp, vza, ↓reduceIte, Nat.reduceBEq, Nat.reduceLT, Nat.reduceAdd, Nat.reduceEqDiff, reduceCtorEq, vmt, vzb, vzc, vlen, vleaf, velems, oks, vst, vmd, ty, Nat.reduceLeDiff, Nat.reduceMul, Nat.reduceSub, m320, h2, h4, h4', h6, h7, h7', h8, h9, h9']
  | c :: q, N, j, v9, n' + 1, s, hi, hn, hb, ⟨h2, h4, h4', h6, h7, h7', h8⟩, h9, h9', h10, hq => by
    obtain ⟨hg, hd, hlt⟩ := drop_cons hi
    have hlt' := ilt hlt
    have hw := wsucc hlt (by omega)
    have e1 := e348 (hc c (List.mem_of_getElem? hg))
    simp only [List.length_cons] at hb hn
    have r2 := @room70 (x + N.length + 1) (by omega)
    rw [L_succ]
    cases hp : (c != (i : Int)) with
    | true =>
      have ih := fun v9 s => l320b (k := k) (n := n) (P := P) r x i hx v4 v7 lf d hc hcl q (N ++ [99 :: dig c.toNat]) (j + 1) v9 n' s hd (by omega) (by simp; omega)
      simp only [List.length_append, List.length_cons, List.length_nil, Nat.zero_add, List.map_append, List.map_cons, List.map_nil] at ih
      simp only [sub, c320, Tryd.f20, gets] at ih
      simp only [vmr, vmw, vmp, vza, ↓reduceIte, Nat.reduceBEq, Nat.reduceLT, Nat.reduceAdd, Nat.reduceEqDiff, reduceCtorEq, vmt, vzb, vzc, vlen, vleaf, velems, oks, vst, vmd, ty, Nat.reduceLeDiff, Nat.reduceMul, Nat.reduceSub, c320, Tryd.f20, m320, h2, h8, h9, h9', h10, hlt', hg, hw, hp, e1, r2, room1, rowLen, List.map_cons, List.map_nil]
      refine ih (s.c + 1 + 1) _ ⟨?_, ?_, ?_, ?_, ?_, ?_, ?_⟩ ?_ ?_ ?_ (fun s' v9 N' hN => hq s' v9 N' (by rw [hN, clrN_pos hp, List.append_assoc]; rfl))
      all_goals simp only [vmr, vmw, vmp, vza, ↓reduceIte, Nat.reduceBEq, Nat.reduceLT, Nat.reduceAdd, Nat.reduceEqDiff, reduceCtorEq, vmt, vzb, vzc, vlen, vleaf, velems, oks, vst, vmd, ty, Nat.reduceLeDiff, Nat.reduceMul, Nat.reduceSub, m320, h2, h4, h4', h6, h7, h7', h8, hw, rowLen, List.length_replicate, List.length_append, List.length_cons, List.length_nil, Nat.add_assoc, List.append_assoc]
    | false =>
      have ih := fun s => l320b (k := k) (n := n) (P := P) r x i hx v4 v7 lf d hc hcl q N (j + 1) v9 n' s hd (by omega) (by omega)
      simp only [sub, c320, Tryd.f20, gets] at ih
      simp only [vmr, vmw, vmp, vza, ↓reduceIte, Nat.reduceBEq, Nat.reduceLT, Nat.reduceAdd, Nat.reduceEqDiff, reduceCtorEq, vmt, vzb, vzc, vlen, vleaf, velems, oks, vst, vmd, ty, Nat.reduceLeDiff, Nat.reduceMul, Nat.reduceSub, c320, Tryd.f20, m320, h2, h8, h9, h9', h10, hlt', hg, hw, hp]
      refine ih _ ⟨?_, ?_, ?_, ?_, ?_, ?_, ?_⟩ ?_ ?_ ?_ (fun s' v9 N' hN => hq s' v9 N' (by rw [hN, clrN_neg hp]))
      all_goals simp only [vmr, vmw, vmp, vza, ↓reduceIte, Nat.reduceBEq, Nat.reduceLT, Nat.reduceAdd, Nat.reduceEqDiff, reduceCtorEq, vmt, vzb, vzc, vlen, vleaf, velems, oks, vst, vmd, ty, Nat.reduceLeDiff, Nat.reduceMul, Nat.reduceSub, m320, h2, h4, h4', h6, h7, h7', h8, h9, h9', hw]
theorem e321v (x : Nat) (N : List (List UInt8)) : F321 [.lst ((List.replicate x oneT).map tv ++ N.map vT)] = some (.agg [I 4, .str [], Ts (List.replicate x oneT ++ N.map fun w => varT w)]) := F321_eq (by
  rw [cans_map, List.map_append, ← cans_map, ← cans_map, cans_Tm, cansN, List.map_append])
theorem bhN_eq (r : Rule) (i : Nat) : bhN r i = (if (!hasI r.clear i || (r.into == (i : Int))) = true then [99 :: dig i] else []) ++ (if (r.into == (i : Int)) = true then clrN i r.clear else []) := by
  unfold bhN
  rw [BEq.comm (a := (i : Int)) (b := r.into), Bool.or_comm]
theorem l320a {n k} (r : Rule) (m : Nat) (hr : rOk r m) (v4 : Nat) (lf : List Tm) (hn0 : r.clear.length < n) {P : Option (Ex × St) → Prop} : ∀ q (d : List Tm) i v7 n' s, r.give.drop i = q → q.length < n' → d.length = i + 1 → J20 s r v4 v7 lf d i →
    (∀ s' v7 d' i, d' = d ++ cntL (bhS r) q (d.length - 1) → J20 s' r v4 v7 lf d' i → P (X (M320 (hand T320) n) (.exit 0) k s')) →
    P (L (M320 (hand T320) n) (sub [1, 1, 1, 1, 0, 1, 0, 0] c320) n' k s)
  | [], d, i, v7, n' + 1, s, hi, hn, hdi, ⟨h2, h4, h4', h6, h7, h7', h8⟩, hq => by
    have hc := inlt (n := r.take.length) (i := i) (by have := drop_nil' hi; have := hr.gl; have := hr.tl; omega)
    rw [L_succ]
    simp only [vmr, vmw, vmp, vza, ↓reduceIte, Nat.reduceBEq, Nat.reduceLT, Nat.reduceAdd, Nat.reduceEqDiff, reduceCtorEq, vmt, vzb, vzc, vlen, vleaf, velems, oks, vst, vmd, ty, Nat.reduceLeDiff, Nat.reduceMul, Nat.reduceSub, c320, Tryd.f20, m320, h2, h8, hc]
    refine hq _ v7 d i (by simp [cntL]) ⟨?_, ?_, ?_, ?_, ?_, ?_, ?_⟩
    all_goals simp only [vmr, vmw, vmp, vza, ↓reduceIte, Nat.reduceBEq, Nat.reduceLT, Nat.reduceAdd, Nat.reduceEqDiff, reduceCtorEq, vmt, vzb, vzc, vlen, vleaf, velems, oks, vst, vmd, ty, Nat.reduceLeDiff, Nat.reduceMul, Nat.reduceSub, m320, h2, h4, h4', h6, h7, h7', h8]
  | g :: q, d, i, v7, n' + 1, s, hi, hn, hdi, ⟨h2, h4, h4', h6, h7, h7', h8⟩, hq => by
    obtain ⟨hg, hd, hlt⟩ := drop_cons hi
    have b8 := hr.n8
    have bgl := hr.gl
    have btl := hr.tl
    have bcl := hr.cl
    have hlt' := ilt (i := i) (n := r.take.length) (by omega)
    have hw := wsucc (i := i) (n := r.take.length) (by omega) (by omega)
    have hg0 := hr.gn g (List.mem_of_getElem? hg)
    have e1 := e325 hg0
    have e2 := F349_eq (l := r.clear) (i : Int) (by omega)
    have e3 := F348_eq (n := i) (by omega)
    have hz := sz3_or g.toNat
    have r1 := @room70 (g.toNat + 1) (by omega)
    have r2 := @room70 (d.length + 1) (by omega)
    have rl := rowLen g.toNat
    have ih := fun (N : List (List UInt8)) v7 s => l320a (k := k) (n := n) (P := P) r m hr v4 lf hn0 q (d ++ [grpT (List.replicate g.toNat oneT ++ N.map fun w => varT w)]) (i + 1) v7 n' s hd (by simp at hn; omega) (by simp [hdi])
    have hN : ∀ N, N = bhN r i → ∀ d', d' = d ++ [grpT (List.replicate g.toNat oneT ++ N.map fun w => varT w)] ++ cntL (bhS r) q ((d ++ [grpT (List.replicate g.toNat oneT ++ N.map fun w => varT w)]).length - 1) → d' = d ++ cntL (bhS r) (g :: q) (d.length - 1) := fun N hN d' h => by
      have e : (d ++ [grpT (List.replicate g.toNat oneT ++ N.map fun w => varT w)]).length - 1 = d.length - 1 + 1 := by simp; omega
      rw [h, e, List.append_assoc, hN, cntL]
      have e2 : d.length - 1 = i := by omega
      rw [e2]
      rfl
    have sn := fun l => map_snoc d l
    simp only [List.length_append, List.length_cons, List.length_nil, Nat.zero_add] at ih
    simp only [sub, c320, Tryd.f20, gets] at ih
    rw [L_succ]
    cases hin : (r.into == (i : Int)) with
    | true =>
      have e4 := e321v g.toNat
      have go : ∀ s, J20 s r v4 v7 lf d i → ∀ v9, tget s.τ 9 = .ref ⟨0, 9, 0⟩ v9 0 (g.toNat + 1) → lget s.L (9, 0) = some (v9, .arr 3 ((List.replicate g.toNat oneT).map tv ++ [99 :: dig i].map vT)) → tget s.τ 10 = I 0 → P (L (M320 (hand T320) n) (sub [1, 1, 1, 1, 0, 1, 0, 0, 1, 0, 0, 1, 1, 0, 1, 0, 1, 0, 0] c320) n (.blk 2 (.seq (sub [1, 1, 1, 1, 0, 1, 0, 0, 1, 0, 0, 1, 1, 1] c320) (.blk 1 (.seq (sub [1, 1, 1, 1, 0, 1, 0, 0, 1, 1] c320) (.lp (sub [1, 1, 1, 1, 0, 1, 0, 0] c320) n' k))))) s) := fun s hJ v9 h9 h9' h10 => by
        refine l320b r g.toNat i (by omega) v4 v7 lf d hr.cn hr.cl r.clear [99 :: dig i] 0 v9 n s rfl hn0 (by simp; omega) hJ h9 h9' h10 (fun s' v9 N' hN' hJ' h9 h9' => ?_)
        obtain ⟨h2, h4, h4', h6, h7, h7', h8⟩ := hJ'
        have tk1 : ((List.replicate g.toNat oneT).map tv ++ N'.map vT).take (g.toNat + N'.length) = (List.replicate g.toNat oneT).map tv ++ N'.map vT := List.take_of_length_le (by rw [rl]; exact Nat.le_refl _)
        have e4 := e4 N'
        have hNb : N' = bhN r i := by rw [hN', bhN_eq, hin]; simp
        have sn := sn (List.replicate g.toNat oneT ++ N'.map fun w => varT w)
        simp only [vmr, vmw, vmp, vza, ↓reduceIte, Nat.reduceBEq, Nat.reduceLT, Nat.reduceAdd, Nat.reduceEqDiff, reduceCtorEq, vmt, vzb, vzc, vlen, vleaf, velems, oks, vst, vmd, ty, Nat.reduceLeDiff, Nat.reduceMul, Nat.reduceSub, c320, Tryd.f20, m320, h2, h4, h4', h6, h7, h7', h8, h9, h9', hw, e4, r2, room1, rl, tk1, List.map_cons, List.map_nil]
        refine ih N' (s'.c + 1 + 1) _ ⟨?_, ?_, ?_, ?_, ?_, ?_, ?_⟩ (fun s' v7 d' i' hd' => hq s' v7 d' i' (hN N' hNb d' (by rw [hd']; simp only [List.length_append, List.length_cons, List.length_nil, Nat.zero_add])))
        all_goals simp only [vmr, vmw, vmp, vza, ↓reduceIte, Nat.reduceBEq, Nat.reduceLT, Nat.reduceAdd, Nat.reduceEqDiff, reduceCtorEq, vmt, vzb, vzc, vlen, vleaf, velems, oks, vst, vmd, ty, Nat.reduceLeDiff, Nat.reduceMul, Nat.reduceSub, m320, h2, h4, h4', h6, h8, hw, sn, List.length_append, List.length_cons, List.length_nil, List.length_map]
      simp only [sub, c320, Tryd.f20, gets] at go
      cases hh : hasI r.clear (i : Int) with
      | true =>
        rw [hh] at e2
        simp only [vmr, vmw, vmp, vza, ↓reduceIte, Nat.reduceBEq, Nat.reduceLT, Nat.reduceAdd, Nat.reduceEqDiff, reduceCtorEq, vmt, vzb, vzc, vlen, vleaf, velems, oks, vst, vmd, ty, Nat.reduceLeDiff, Nat.reduceMul, Nat.reduceSub, c320, Tryd.f20, m320, h2, h8, hlt', hg, e1, e2, e3, hin, hz, r1, room1, List.length_replicate, List.map_cons, List.map_nil]
        refine go _ ⟨?_, ?_, ?_, ?_, ?_, ?_, ?_⟩ (s.c + 1 + 1 + 1 + 1) ?_ ?_ ?_
        all_goals simp only [vmr, vmw, vmp, vza, ↓reduceIte, Nat.reduceBEq, Nat.reduceLT, Nat.reduceAdd, Nat.reduceEqDiff, reduceCtorEq, vmt, vzb, vzc, vlen, vleaf, velems, oks, vst, vmd, ty, Nat.reduceLeDiff, Nat.reduceMul, Nat.reduceSub, m320, h2, h4, h4', h6, h7, h7', h8, List.map_cons, List.map_nil, List.length_append, List.length_replicate, List.length_cons, List.length_nil, List.length_map]
      | false =>
        rw [hh] at e2
        simp only [vmr, vmw, vmp, vza, ↓reduceIte, Nat.reduceBEq, Nat.reduceLT, Nat.reduceAdd, Nat.reduceEqDiff, reduceCtorEq, vmt, vzb, vzc, vlen, vleaf, velems, oks, vst, vmd, ty, Nat.reduceLeDiff, Nat.reduceMul, Nat.reduceSub, c320, Tryd.f20, m320, h2, h8, hlt', hg, e1, e2, e3, hin, hz, r1, room1, List.length_replicate, List.map_cons, List.map_nil]
        refine go _ ⟨?_, ?_, ?_, ?_, ?_, ?_, ?_⟩ (s.c + 1 + 1 + 1 + 1) ?_ ?_ ?_
        all_goals simp only [vmr, vmw, vmp, vza, ↓reduceIte, Nat.reduceBEq, Nat.reduceLT, Nat.reduceAdd, Nat.reduceEqDiff, reduceCtorEq, vmt, vzb, vzc, vlen, vleaf, velems, oks, vst, vmd, ty, Nat.reduceLeDiff, Nat.reduceMul, Nat.reduceSub, m320, h2, h4, h4', h6, h7, h7', h8, List.map_cons, List.map_nil, List.length_append, List.length_replicate, List.length_cons, List.length_nil, List.length_map]
    | false =>
      cases hh : hasI r.clear (i : Int) with
      | true =>
        rw [hh] at e2
        have hNb : [] = bhN r i := by rw [bhN_eq, hin, hh]; simp
        have sn := sn (List.replicate g.toNat oneT)
        have e4 := e321v g.toNat []
        have tk1 := take_len tv (List.replicate g.toNat oneT)
        simp only [List.map_nil, List.append_nil, List.length_replicate] at e4 tk1
        have ih := ih []
        simp only [List.map_nil, List.append_nil] at ih
        simp only [vmr, vmw, vmp, vza, ↓reduceIte, Nat.reduceBEq, Nat.reduceLT, Nat.reduceAdd, Nat.reduceEqDiff, reduceCtorEq, vmt, vzb, vzc, vlen, vleaf, velems, oks, vst, vmd, ty, Nat.reduceLeDiff, Nat.reduceMul, Nat.reduceSub, c320, Tryd.f20, m320, h2, h7, h7', h8, hlt', hg, hw, e1, e2, e4, hin, hz, r2, room1, tk1, List.length_replicate, List.map_cons, List.map_nil]
        refine ih (s.c + 1 + 1 + 1 + 1) _ ⟨?_, ?_, ?_, ?_, ?_, ?_, ?_⟩ (fun s' v7 d' i' hd' => hq s' v7 d' i' (hN [] hNb d' (by rw [hd']; simp only [List.length_append, List.length_cons, List.length_nil, Nat.zero_add, List.map_nil, List.append_nil])))
        all_goals simp only [vmr, vmw, vmp, vza, ↓reduceIte, Nat.reduceBEq, Nat.reduceLT, Nat.reduceAdd, Nat.reduceEqDiff, reduceCtorEq, vmt, vzb, vzc, vlen, vleaf, velems, oks, vst, vmd, ty, Nat.reduceLeDiff, Nat.reduceMul, Nat.reduceSub, m320, h2, h4, h4', h6, h8, hw, sn, List.length_append, List.length_cons, List.length_nil, List.length_map]
      | false =>
        rw [hh] at e2
        have hNb : [99 :: dig i] = bhN r i := by rw [bhN_eq, hin, hh]; simp
        have sn := sn (List.replicate g.toNat oneT ++ [varT (99 :: dig i)])
        have e4 := e321v g.toNat [99 :: dig i]
        have tk1 : ((List.replicate g.toNat oneT).map tv ++ [vT (99 :: dig i)]).take (g.toNat + 1) = (List.replicate g.toNat oneT).map tv ++ [vT (99 :: dig i)] := List.take_of_length_le (by simp)
        have ih := ih [99 :: dig i]
        simp only [List.map_nil, List.map_cons] at ih e4
        simp only [vmr, vmw, vmp, vza, ↓reduceIte, Nat.reduceBEq, Nat.reduceLT, Nat.reduceAdd, Nat.reduceEqDiff, reduceCtorEq, vmt, vzb, vzc, vlen, vleaf, velems, oks, vst, vmd, ty, Nat.reduceLeDiff, Nat.reduceMul, Nat.reduceSub, c320, Tryd.f20, m320, h2, h7, h7', h8, hlt', hg, hw, e1, e2, e3, e4, hin, hz, r1, r2, room1, tk1, List.length_replicate, List.map_cons, List.map_nil]
        refine ih (s.c + 1 + 1 + 1 + 1 + 1 + 1 + 1) _ ⟨?_, ?_, ?_, ?_, ?_, ?_, ?_⟩ (fun s' v7 d' i' hd' => hq s' v7 d' i' (hN [99 :: dig i] hNb d' (by rw [hd']; simp only [List.length_append, List.length_cons, List.length_nil, Nat.zero_add, List.map_nil, List.map_cons])))
        all_goals simp only [vmr, vmw, vmp, vza, ↓reduceIte, Nat.reduceBEq, Nat.reduceLT, Nat.reduceAdd, Nat.reduceEqDiff, reduceCtorEq, vmt, vzb, vzc, vlen, vleaf, velems, oks, vst, vmd, ty, Nat.reduceLeDiff, Nat.reduceMul, Nat.reduceSub, m320, h2, h4, h4', h6, h8, hw, sn, List.length_append, List.length_cons, List.length_nil, List.length_map]
theorem w320 (r : Rule) (i n : Nat) (hi : i < 100) (hr : rOk r n) : SoundPure Tryd.prog 20 [r.v, I i] (.ret (sentV (sentL r i) (sentR r))) := by
  obtain ⟨n1, n2⟩ := hr.nums
  have g8 := hr.n8
  have gl := hr.gl
  have tl := hr.tl
  have key : SoundPure Tryd.prog 20 [r.v, I i] (.ret (.agg [Ts (sentL r i), .nilS, .own 3 [.agg [I 8, .str sLoop, Ts (grpT [varT sRules] :: cntL (bhS r) r.give 0)]], .nilS, .nilS])) := by
    refine s320 h320 (r.give.length + r.clear.length + 1) (by simp) rfl ?_
    have e1 : (hF (α := Nat) (fun n => [I n]) (fun n => n < 100) (fun n => V.str (dig n))) [I i] = some (.str (dig i)) := hF_eq (a := i) (one_inj' fun _ _ => nat_inj) rfl hi
    have e2 := F324_eq sRules
    have e4 : F321 [.lst [.agg [I 3, .str (dig i), .nilS], vT sRules]] = some (.agg [I 4, .str [], Ts [numT i, varT sRules]]) := F321_eq (canT1 _ _ _ (canT1 _ _ _ nilCan _ (canV _)) _ (canNum _))
    have e5 := F319_eq n1
    have e6 : F321 [.lst [vT sRules]] = some (.agg [I 4, .str [], Ts [varT sRules]]) := F321_eq (canT1 _ _ _ nilCan _ (canV _))
    have hd := @d320_2 (hand T320) (r.give.length + r.clear.length + 1)
    have r1 := @room70 (1 + (cntL restL r.take 0).length) (by rw [cntL_len]; omega)
    have t2 := take_len tv (cntL restL r.take 0)
    have a1 := fun k => @l320a (r.give.length + r.clear.length + 1) k r n hr 1 (sentL r i) (by omega) (fun x => Fin (M320 (hand T320) (r.give.length + r.clear.length + 1)) [.cell 4 67] x = some (.ret (.agg [Ts (sentL r i), .nilS, .own 3 [.agg [I 8, .str sLoop, Ts (grpT [varT sRules] :: cntL (bhS r) r.give 0)]], .nilS, .nilS]))) r.give [grpT [varT sRules]] 0
    simp only [sub, c320, Tryd.f20, gets, opsAt] at a1 hd ⊢
    simp only [vmr, vmw, vmp, vza, ↓reduceIte, Nat.reduceBEq, Nat.reduceLT, Nat.reduceAdd, Nat.reduceEqDiff, reduceCtorEq, vmt, vzb, vzc, vlen, vleaf, velems, oks, vst, vmd, ty, Nat.reduceLeDiff, Nat.reduceMul, Nat.reduceSub, m320, e1, e2, e4, e5, e6, hd, r1, room1, room2, tkc, t2, fits70s, List.map_cons, List.map_nil]
    refine a1 _ (3 + (slack + slack) + 1 + (slack + slack) + (slack + slack) + 1 + (slack + slack) + 1 + (slack + slack) + (slack + slack) + 1 + 1) _ _ rfl (by omega) rfl ⟨?_, ?_, ?_, ?_, ?_, ?_, ?_⟩ (fun s' v7 d' i' hd' hJ => ?_)
    case refine_8 =>
      obtain ⟨h2, h4, h4', h6, h7, h7', h8⟩ := hJ
      simp only [List.length_cons, List.length_nil, Nat.zero_add, Nat.sub_self, List.cons_append, List.nil_append] at hd'
      have e7 : F322 [.str sLoop, .lst (d'.map tv)] = some (.own 3 [.agg [I 8, .str sLoop, Ts (grpT [varT sRules] :: cntL (bhS r) r.give 0)]]) := by rw [hd']; exact F322_eq (cans_Tm _)
      have t1 := take_len tv d'
      simp only [vmr, vmw, vmp, vza, ↓reduceIte, Nat.reduceBEq, Nat.reduceLT, Nat.reduceAdd, Nat.reduceEqDiff, reduceCtorEq, vmt, vzb, vzc, vlen, vleaf, velems, oks, vst, vmd, ty, Nat.reduceLeDiff, Nat.reduceMul, Nat.reduceSub, vzr, m320, h2, h4, h4', h6, h7, h7', h8, e7, t1, List.map_cons, List.map_nil]
    all_goals simp only [vmr, vmw, vmp, vza, ↓reduceIte, Nat.reduceBEq, Nat.reduceLT, Nat.reduceAdd, Nat.reduceEqDiff, reduceCtorEq, vmt, vzb, vzc, vlen, vleaf, velems, oks, vst, vmd, ty, Nat.reduceLeDiff, Nat.reduceMul, Nat.reduceSub, m320, sentL, tv_mk, Ts, List.map_cons, List.map_nil]
  have := sound_imm key rfl
  simp only [imm, immL, can, cans, cans_Tm] at this
  simp only [sentR, sentV, Ts, List.map_cons, List.map_nil, tv_mk]
  exact this
noncomputable def F320 : List V → Option V := hF (α := Rule × Nat) (fun a => [a.1.v, I a.2]) (fun a => a.2 < 100 ∧ ∃ n, rOk a.1 n) (fun a => sentV (sentL a.1 a.2) (sentR a.1))
theorem F320_eq {r : Rule} {i : Nat} (hi : i < 100) (hr : ∃ n, rOk r n) : F320 [r.v, I i] = some (sentV (sentL r i) (sentR r)) :=
  hF_eq (a := (r, i)) (two_inj (fun _ _ => Rule_inj) (fun _ _ => nat_inj)) (by simp only [cans, canRulev]; rfl) ⟨hi, hr⟩
theorem F320_sound : ∀ args v, F320 args = some v → SoundPure Tryd.prog 20 args (.ret v) := hF_sound fun a ⟨h1, n, h2⟩ => w320 a.1 a.2 n h1 h2
end Go.Vi
set_option maxRecDepth 100000
set_option maxHeartbeats 4000000
namespace Go.Vi
open Go Go.Proofs

/-- The mark of the object at a place. -/
def ver (s : St) (q : Nat × Nat) : Nat := ((lget s.L q).map (·.1)).getD 0
def fldV (t v : Nat) (d : List V) : V := match d with | [] => .nilS | x :: r => .ref ⟨0, t, 3⟩ v 0 (r.length + 1)
def zeros (p : Prot) : List Int := List.replicate p.begin.length 0
def ruleS : List Rule → Nat → List V
  | [], _ => []
  | r :: q, i => sentV (sentL r i) (sentR r) :: ruleS q (i + 1)
theorem ruleS_len : ∀ (q : List Rule) (i : Nat), (ruleS q i).length = q.length
  | [], _ => rfl
  | r :: q, i => by simp only [ruleS, List.length_cons, ruleS_len q]
structure J17f (s : St) (p : Prot) (d4 d5 : List V) (v2 v4 v43 v5 v53 v6 : Nat) : Prop where
  h1 : tget s.τ 1 = .iptr p.cs
  h2 : tget s.τ 2 = .ptr ⟨0, 2, 0⟩ v2 0 0
  h2' : lget s.L (2, 0) = some (v2, .var [.nilS])
  h3 : tget s.τ 3 = Is (zeros p)
  h4 : tget s.τ 4 = .ptr ⟨0, 4, 0⟩ v4 0 0
  h4' : lget s.L (4, 0) = some (v4, .var [.str sLoop, .bool false, fldV 4 v43 d4])
  h43 : d4 ≠ [] → lget s.L (4, 3) = some (v43, .arr 5 d4)
  h5 : tget s.τ 5 = .ptr ⟨0, 5, 0⟩ v5 0 0
  h5' : lget s.L (5, 0) = some (v5, .var [.str sTest, .bool false, fldV 5 v53 d5])
  h53 : d5 ≠ [] → lget s.L (5, 3) = some (v53, .arr 5 d5)
  h6 : tget s.τ 6 = .ptr ⟨0, 6, 0⟩ v6 0 0
  h6' : lget s.L (6, 0) = some (v6, .var [.str sMain, .bool false, .nilS])
def J17 (s : St) (p : Prot) (d4 d5 : List V) : Prop := ∃ v2 v4 v43 v5 v53 v6, J17f s p d4 d5 v2 v4 v43 v5 v53 v6
theorem J17.of {s p d4 d5} (h : J17f s p d4 d5 (ver s (2, 0)) (ver s (4, 0)) (ver s (4, 3)) (ver s (5, 0)) (ver s (5, 3)) (ver s (6, 0))) : J17 s p d4 d5 := ⟨_, _, _, _, _, _, h⟩
theorem room67 {n : Nat} (h : n ≤ 2000) : roomOk Tryd.prog 67 n = true := by simp [roomOk, ty, cellsV, leafV]; omega
theorem room1s : roomOk Tryd.prog 67 1 = true := room67 (by omega)
theorem l64a {T n k} (h41 : hand T 41 = some F341) (p : Prot) (hr : ∀ r ∈ p.rules, ∃ n, rOk r n) (hl : p.rules.length ≤ 12) {P : Option (Ex × St) → Prop} : ∀ (q : List Rule) (i : Nat) (d : List V) n' s, p.rules.drop i = q → q.length < n' → d.length = i → J17 s p d [] → tget s.τ 23 = Rules p.rules → tget s.τ 24 = I p.rules.length → tget s.τ 25 = I i → i ≤ p.rules.length →
    (∀ s' d', d' = d ++ ruleS q i → d'.length ≤ 12 → J17 s' p d' [] → P (X (M64 (hand T) n) (.exit 0) k s')) →
    P (L (M64 (hand T) n) (sub [1, 1, 1, 0, 1, 0, 0] c64) n' k s)
  | [], i, d, n' + 1, s, hi, hn, hd, ⟨v2, v4, v43, v5, v53, v6, ⟨h1, h2, h2', h3, h4, h4', h43, h5, h5', h53, h6, h6'⟩⟩, h23, h24, h25, hib, hq => by
    have hc := inlt (drop_nil' hi)
    rw [L_succ]
    simp only [vmr, vmw, vmp, vza, ↓reduceIte, Nat.reduceBEq, Nat.reduceLT, Nat.reduceAdd, Nat.reduceEqDiff, reduceCtorEq, vmt, vzb, vzc, vlen, vleaf, velems, oks, vst, vmd, ty, Nat.reduceLeDiff, Nat.reduceMul, Nat.reduceSub, c64, Tryd.f17, m64, h23, h24, h25, hc]
    refine hq _ d (by simp [ruleS]) (by omega) ⟨v2, v4, v43, v5, v53, v6, ⟨?_, ?_, ?_, ?_, ?_, ?_, fun h => ?_, ?_, ?_, fun h => ?_, ?_, ?_⟩⟩
    case refine_7 => have := h43 h; simp only [vmr, vmw, vmp, vza, ↓reduceIte, Nat.reduceBEq, Nat.reduceLT, Nat.reduceAdd, Nat.reduceEqDiff, reduceCtorEq, vmt, vzb, vzc, vlen, vleaf, velems, oks, vst, vmd, ty, Nat.reduceLeDiff, Nat.reduceMul, Nat.reduceSub, m64, this]
    case refine_10 => exact absurd rfl h
    all_goals simp only [vmr, vmw, vmp, vza, ↓reduceIte, Nat.reduceBEq, Nat.reduceLT, Nat.reduceAdd, Nat.reduceEqDiff, reduceCtorEq, vmt, vzb, vzc, vlen, vleaf, velems, oks, vst, vmd, ty, Nat.reduceLeDiff, Nat.reduceMul, Nat.reduceSub, m64, h1, h2, h2', h3, h4, h4', h5, h5', h6, h6']
  | r :: q, i, d, n' + 1, s, hi, hn, hd, ⟨v2, v4, v43, v5, v53, v6, ⟨h1, h2, h2', h3, h4, h4', h43, h5, h5', h53, h6, h6'⟩⟩, h23, h24, h25, hib, hq => by
    obtain ⟨hg, hdr, hlt⟩ := drop_cons hi
    have hlt' := ilt hlt
    have hw := wsucc hlt (by omega)
    have e1 := F341_eq (i := i) (by omega) (hr r (List.mem_of_getElem? hg))
    have hdw := @d64_6 (hand T) n
    have r2 := @room67 (d.length + 1) (by omega)
    have ih := fun s => l64a (k := k) (n := n) (P := P) h41 p hr hl q (i + 1) (d ++ [sentV (sentL r i) (sentR r)]) n' s hdr (by simp at hn; omega) (by simp [hd])
    simp only [sub, c64, Tryd.f17, gets, opsAt] at ih hdw
    rw [L_succ]
    cases d with
    | nil =>
      simp only [fldV] at h4'
      simp only [vmr, vmw, vmp, vza, ↓reduceIte, Nat.reduceBEq, Nat.reduceLT, Nat.reduceAdd, Nat.reduceEqDiff, reduceCtorEq, vmt, vzb, vzc, vlen, vleaf, velems, oks, vst, vmd, ty, Nat.reduceLeDiff, Nat.reduceMul, Nat.reduceSub, c64, Tryd.f17, m64, h1, h4, h4', h23, h24, h25, hlt', hg, hw, h41, e1, hdw, room1s, List.map_cons, List.map_nil]
      refine ih _ (J17.of ⟨?_, ?_, ?_, ?_, ?_, ?_, fun _ => ?_, ?_, ?_, fun h => absurd rfl h, ?_, ?_⟩) ?_ ?_ ?_ (by omega) (fun s' d' hd' => hq s' d' (by rw [hd']; simp [ruleS]))
      all_goals simp only [vmr, vmw, vmp, vza, ↓reduceIte, Nat.reduceBEq, Nat.reduceLT, Nat.reduceAdd, Nat.reduceEqDiff, reduceCtorEq, vmt, vzb, vzc, vlen, vleaf, velems, oks, vst, vmd, ty, Nat.reduceLeDiff, Nat.reduceMul, Nat.reduceSub, ver, fldV, m64, h1, h2, h2', h3, h4, h4', h5, h5', h6, h6', h23, h24, hw, List.nil_append, List.length_nil]
    | cons y d =>
      have h43 := h43 (by simp)
      simp only [fldV, List.length_cons] at h4' r2 hd
      simp only [vmr, vmw, vmp, vza, ↓reduceIte, Nat.reduceBEq, Nat.reduceLT, Nat.reduceAdd, Nat.reduceEqDiff, reduceCtorEq, vmt, vzb, vzc, vlen, vleaf, velems, oks, vst, vmd, ty, Nat.reduceLeDiff, Nat.reduceMul, Nat.reduceSub, c64, Tryd.f17, m64, h1, h4, h4', h43, h23, h24, h25, hlt', hg, hw, h41, e1, hdw, r2, room1s, List.map_cons, List.map_nil]
      refine ih _ (J17.of ⟨?_, ?_, ?_, ?_, ?_, ?_, fun _ => ?_, ?_, ?_, fun h => absurd rfl h, ?_, ?_⟩) ?_ ?_ ?_ (by omega) (fun s' d' hd' => hq s' d' (by rw [hd']; simp [ruleS]))
      all_goals simp only [vmr, vmw, vmp, vza, ↓reduceIte, Nat.reduceBEq, Nat.reduceLT, Nat.reduceAdd, Nat.reduceEqDiff, reduceCtorEq, vmt, vzb, vzc, vlen, vleaf, velems, oks, vst, vmd, ty, Nat.reduceLeDiff, Nat.reduceMul, Nat.reduceSub, ver, fldV, m64, h1, h2, h2', h3, h4, h4', h5, h5', h6, h6', h23, h24, hw, List.cons_append, List.length_append, List.length_cons, List.length_nil]

/-! ### the loop over the bad states; the rest -/
abbrev wordL (b : List UInt8) : V := .lst [.agg [I 2, .str b, .nilS]]
def rawT (b : List UInt8) (l : List Int) : V := .agg [Ts (cntL restL l 0), .nilS, wordL b, .nilS, .nilS]
def rawE (p : Prot) : V := .agg [.lst (.agg [I 4, .str [], .lst []] :: (cntL restL (zeros p) 0).map tv), .nilS, .lst [.agg [I 8, .str sTest, Ts (cntL restL (zeros p) 0)]], .nilS, .nilS]
def bg (p : Prot) (i : Nat) : List Tm := if ((i : Int) == p.free) = true then [varT sMore] else []
noncomputable abbrev F343 : List V → Option V := hF (α := List UInt8) (fun b => [.str b]) (fun _ => True) (fun b => .own 3 [.agg [I 2, .str b, .nilS]])
theorem F343_eq (b : List UInt8) : F343 [.str b] = some (.own 3 [.agg [I 2, .str b, .nilS]]) := hF_eq (a := b) (one_inj' str_inj) rfl trivial
theorem w345 (p : Prot) (i : Nat) : SoundPure Tryd.prog 45 [I i, .iptr p.cs] (.ret (Ts (bg p i))) := by
  have e1 := F328_eq sMore
  have hT : SoundHand Tryd.prog (hand [(28, F328)]) := sound_cons (hF_sound fun b _ => w328 b) sound_nil
  cases h : ((i : Int) == p.free) with
  | true =>
    have key : SoundPure Tryd.prog 45 [I i, .iptr p.cs] (.ret (.own 3 [vT sMore])) := by
      refine s345 hT 1 (by simp) rfl ?_
      simp only [c345, Tryd.f45, gets, sub]
      simp only [vmr, vmw, vmp, vza, ↓reduceIte, Nat.reduceBEq, Nat.reduceLT, Nat.reduceAdd, Nat.reduceEqDiff, reduceCtorEq, vmt, vzb, vzc, vlen, vleaf, velems, oks, vst, vmd, ty, Nat.reduceLeDiff, Nat.reduceMul, Nat.reduceSub, vzr, m345, h, e1, room1, List.map_cons, List.map_nil]
    have := sound_imm key rfl
    rw [show Ts (bg p i) = .lst [tv (varT sMore)] by simp [bg, h]]
    simp only [tv_mk, Ts, List.map_nil]
    exact this
  | false =>
    have key : SoundPure Tryd.prog 45 [I i, .iptr p.cs] (.ret .nilS) := by
      refine s345 hT 1 (by simp) rfl ?_
      simp only [c345, Tryd.f45, gets, sub]
      simp only [vmr, vmw, vmp, vza, ↓reduceIte, Nat.reduceBEq, Nat.reduceLT, Nat.reduceAdd, Nat.reduceEqDiff, reduceCtorEq, vmt, vzb, vzc, vlen, vleaf, velems, oks, vst, vmd, ty, Nat.reduceLeDiff, Nat.reduceMul, Nat.reduceSub, vzr, m345, h, e1, room1, List.map_cons, List.map_nil]
    have := sound_imm key rfl
    rw [show Ts (bg p i) = .lst [] by simp [bg, h]]
    exact this
noncomputable abbrev U64 (p : Prot) : List (FuncId × (List V → Option V)) := [(41, F341), (27, F327), (42, F342), (26, F326), (43, F343), (28, F328), (44, F344 45 [.iptr p.cs] (bg p) (fun l => l = p.begin))]
theorem l64b {T n k} (h42 : hand T 42 = some F342) (h43' : hand T 43 = some F343) (p : Prot) (hr : ∀ l ∈ p.bad, numsOk l) (hl : p.bad.length ≤ 8) (d4 : List V) (hd4 : d4 ≠ []) {P : Option (Ex × St) → Prop} : ∀ (q : List (List Int)) (i : Nat) (d : List V) n' s, p.bad.drop i = q → q.length < n' → d.length = i → J17 s p d4 d → tget s.τ 9 = .fn (.func 43) [] [] → tget s.τ 54 = Iss p.bad → tget s.τ 55 = I p.bad.length → tget s.τ 56 = I i → i ≤ p.bad.length →
    (∀ s' d', d' = d ++ q.map (rawT sBad) → d'.length ≤ 8 → tget s'.τ 9 = .fn (.func 43) [] [] → J17 s' p d4 d' → P (X (M64 (hand T) n) (.exit 2) k s')) →
    P (L (M64 (hand T) n) (sub [1, 1, 1, 1, 1, 1, 0, 1, 0, 0] c64) n' k s)
  | [], i, d, n' + 1, s, hi, hn, hd, ⟨v2, v4, v43, v5, v53, v6, ⟨h1, h2, h2', h3, h4, h4', h43, h5, h5', h53, h6, h6'⟩⟩, h9, h54, h55, h56, hib, hq => by
    have hc := inlt (drop_nil' hi)
    have h43 := h43 hd4
    rw [L_succ]
    simp only [vmr, vmw, vmp, vza, ↓reduceIte, Nat.reduceBEq, Nat.reduceLT, Nat.reduceAdd, Nat.reduceEqDiff, reduceCtorEq, vmt, vzb, vzc, vlen, vleaf, velems, oks, vst, vmd, ty, Nat.reduceLeDiff, Nat.reduceMul, Nat.reduceSub, c64, Tryd.f17, m64, h54, h55, h56, hc]
    refine hq _ d (by simp) (by omega) ?_ ⟨v2, v4, v43, v5, v53, v6, ⟨?_, ?_, ?_, ?_, ?_, ?_, fun _ => ?_, ?_, ?_, fun h => ?_, ?_, ?_⟩⟩
    case refine_11 => have := h53 h; simp only [vmr, vmw, vmp, vza, ↓reduceIte, Nat.reduceBEq, Nat.reduceLT, Nat.reduceAdd, Nat.reduceEqDiff, reduceCtorEq, vmt, vzb, vzc, vlen, vleaf, velems, oks, vst, vmd, ty, Nat.reduceLeDiff, Nat.reduceMul, Nat.reduceSub, m64, this]
    all_goals simp only [vmr, vmw, vmp, vza, ↓reduceIte, Nat.reduceBEq, Nat.reduceLT, Nat.reduceAdd, Nat.reduceEqDiff, reduceCtorEq, vmt, vzb, vzc, vlen, vleaf, velems, oks, vst, vmd, ty, Nat.reduceLeDiff, Nat.reduceMul, Nat.reduceSub, m64, h1, h2, h2', h3, h4, h4', h43, h5, h5', h6, h6', h9]
  | l :: q, i, d, n' + 1, s, hi, hn, hd, ⟨v2, v4, v43, v5, v53, v6, ⟨h1, h2, h2', h3, h4, h4', h43, h5, h5', h53, h6, h6'⟩⟩, h9, h54, h55, h56, hib, hq => by
    obtain ⟨hg, hdr, hlt⟩ := drop_cons hi
    have hlt' := ilt hlt
    have hw := wsucc hlt (by omega)
    have h43 := h43 hd4
    have e1 := F342_eq (hr l (List.mem_of_getElem? hg))
    have e2 := F343_eq sBad
    have hdw := @d64_13 (hand T) n
    have r2 := @room67 (d.length + 1) (by omega)
    have ih := fun s => l64b (k := k) (n := n) (P := P) h42 h43' p hr hl d4 hd4 q (i + 1) (d ++ [rawT sBad l]) n' s hdr (by simp at hn; omega) (by simp [hd])
    simp only [sub, c64, Tryd.f17, gets, opsAt] at ih hdw
    rw [L_succ]
    cases d with
    | nil =>
      simp only [fldV] at h5'
      simp only [vmr, vmw, vmp, vza, ↓reduceIte, Nat.reduceBEq, Nat.reduceLT, Nat.reduceAdd, Nat.reduceEqDiff, reduceCtorEq, vmt, vzb, vzc, vlen, vleaf, velems, oks, vst, vmd, ty, Nat.reduceLeDiff, Nat.reduceMul, Nat.reduceSub, c64, Tryd.f17, m64, h1, h5, h5', h9, h54, h55, h56, hlt', hg, hw, h42, h43', e1, e2, hdw, room1s, List.map_cons, List.map_nil]
      refine ih _ (J17.of ⟨?_, ?_, ?_, ?_, ?_, ?_, fun _ => ?_, ?_, ?_, fun _ => ?_, ?_, ?_⟩) ?_ ?_ ?_ ?_ (by omega) (fun s' d' hd' => hq s' d' (by rw [hd']; simp))
      all_goals simp only [vmr, vmw, vmp, vza, ↓reduceIte, Nat.reduceBEq, Nat.reduceLT, Nat.reduceAdd, Nat.reduceEqDiff, reduceCtorEq, vmt, vzb, vzc, vlen, vleaf, velems, oks, vst, vmd, ty, Nat.reduceLeDiff, Nat.reduceMul, Nat.reduceSub, ver, fldV, rawT, m64, h1, h2, h2', h3, h4, h4', h43, h5, h5', h6, h6', h9, h54, h55, hw, List.nil_append, List.length_nil]
    | cons y d =>
      have h53 := h53 (by simp)
      simp only [fldV, List.length_cons] at h5' r2 hd
      simp only [vmr, vmw, vmp, vza, ↓reduceIte, Nat.reduceBEq, Nat.reduceLT, Nat.reduceAdd, Nat.reduceEqDiff, reduceCtorEq, vmt, vzb, vzc, vlen, vleaf, velems, oks, vst, vmd, ty, Nat.reduceLeDiff, Nat.reduceMul, Nat.reduceSub, c64, Tryd.f17, m64, h1, h5, h5', h53, h9, h54, h55, h56, hlt', hg, hw, h42, h43', e1, e2, hdw, r2, room1s, List.map_cons, List.map_nil]
      refine ih _ (J17.of ⟨?_, ?_, ?_, ?_, ?_, ?_, fun _ => ?_, ?_, ?_, fun _ => ?_, ?_, ?_⟩) ?_ ?_ ?_ ?_ (by omega) (fun s' d' hd' => hq s' d' (by rw [hd']; simp))
      all_goals simp only [vmr, vmw, vmp, vza, ↓reduceIte, Nat.reduceBEq, Nat.reduceLT, Nat.reduceAdd, Nat.reduceEqDiff, reduceCtorEq, vmt, vzb, vzc, vlen, vleaf, velems, oks, vst, vmd, ty, Nat.reduceLeDiff, Nat.reduceMul, Nat.reduceSub, ver, fldV, rawT, m64, h1, h2, h2', h3, h4, h4', h43, h5, h5', h6, h6', h9, h54, h55, hw, List.cons_append, List.length_append, List.length_cons, List.length_nil]
end Go.Vi
set_option maxRecDepth 100000
set_option maxHeartbeats 1000000
namespace Go.Vi
open Go Go.Proofs

/-- Sentences, functions, programs as values. -/
abbrev Sn := List Tm × List Tm
abbrev encS (x : Sn) : V := sentV x.1 x.2
abbrev encF (f : List UInt8 × List Sn) : V := .agg [.str f.1, .bool false, .lst (f.2.map encS)]
abbrev progV (fs : List (List UInt8 × List Sn)) : V := .agg [.lst (fs.map encF)]
def ruleP : List Rule → Nat → List Sn
  | [], _ => []
  | r :: q, i => (sentL r i, sentR r) :: ruleP q (i + 1)
def progF (p : Prot) : List (List UInt8 × List Sn) := [(sLoop, ruleP p.rules 0 ++ [(grpT [] :: cntL restL (zeros p) 0, [callT sTest (cntL restL (zeros p) 0)])]), (sTest, p.bad.map (fun l => (cntL restL l 0, [wordT sBad])) ++ [(cntL restL (zeros p) 0, [wordT sGood])]),
  (sMain, [([grpT [varT sRules], grpT [varT sMore]], [callT sLoop (grpT [varT sRules] :: cntL (bg p) p.begin 0)])])]
/-- A protocol that is right. -/
structure pOk (p : Prot) : Prop where
  b8 : p.begin.length ≤ 8
  r12 : p.rules.length ≤ 12
  d8 : p.bad.length ≤ 8
  bn : ∀ x ∈ p.begin, 0 ≤ x ∧ x < 41
  rn : ∀ r ∈ p.rules, ∃ n, rOk r n
  dn : ∀ l ∈ p.bad, numsOk l
theorem zerosOk {p : Prot} (h : pOk p) : numsOk (zeros p) := ⟨by have := h.b8; simp [zeros]; omega, fun x hx => by rw [List.eq_of_mem_replicate hx]; omega⟩
abbrev rawM (p : Prot) : V := .agg [.lst [.agg [I 4, .str [], Ts [varT sRules]], .agg [I 4, .str [], Ts [varT sMore]]], .nilS, .lst [.agg [I 8, .str sLoop, Ts (grpT [varT sRules] :: cntL (bg p) p.begin 0)]], .nilS, .nilS]
abbrev rawG (p : Prot) : V := .agg [Ts (cntL restL (zeros p) 0), .nilS, wordL sGood, .nilS, .nilS]
theorem hU64 (p : Prot) (h : pOk p) : SoundHand Tryd.prog (hand (U64 p)) := by
  refine sound_cons F341_sound <| sound_cons (hF_sound fun l _ => w327 l) <| sound_cons F342_sound <| sound_cons (hF_sound fun a _ => w326 a.1 a.2) <| sound_cons (hF_sound fun b _ => w343 b) <| sound_cons (hF_sound fun b _ => w328 b) <| sound_cons (hF_sound fun l hl => ?_) sound_nil
  subst hl
  have hbg : ∀ i, (bg p i).length ≤ 1 := fun i => by unfold bg; split <;> simp
  refine w344 (T := (45, hF (α := Nat) (fun i => [I i, .iptr p.cs]) (fun i => True) (fun i => Ts (bg p i))) :: T344) (sound_cons (hF_sound fun i _ => w345 p i) h344) (bg p) rfl rfl rfl rfl (fun _ _ => rfl) rfl p.begin (by have := h.b8; omega) h.bn (fun i hi => ?_) (fun i hi => by have := hbg i; omega)
  exact hF_eq (a := i) (fun a b h => by injection h with h; exact nat_inj h) rfl trivial
theorem room64 : roomOk Tryd.prog 64 3 = true := by kernel_rfl
theorem wProg (p : Prot) (h : pOk p) : SoundPure Tryd.prog 17 [p.v] (.ret (.agg [.own 3 [.agg [.str sLoop, .bool false, .lst (ruleS p.rules 0 ++ [rawE p])], .agg [.str sTest, .bool false, .lst (p.bad.map (rawT sBad) ++ [rawG p])], .agg [.str sMain, .bool false, .lst [rawM p]]]])) := by
  have b8 := h.b8
  have r12 := h.r12
  have d8 := h.d8
  refine s64 (hU64 p h) (p.rules.length + p.bad.length + 1) (by simp) rfl ?_
  generalize hout : (COut.ret (V.agg [V.own 3 [V.agg [V.str sLoop, V.bool false, V.lst (ruleS p.rules 0 ++ [rawE p])], V.agg [V.str sTest, V.bool false, V.lst (p.bad.map (rawT sBad) ++ [rawG p])], V.agg [V.str sMain, V.bool false, V.lst [rawM p]]]])) = out
  have r3 : roomOk Tryd.prog 3 p.begin.length = true := room3 (by omega)
  have a1 := fun k => @l64a (U64 p) (p.rules.length + p.bad.length + 1) k rfl p h.rn r12 (fun x => Fin (M64 (hand (U64 p)) (p.rules.length + p.bad.length + 1)) [.cell 2 35] x = some out) p.rules 0 [] (p.rules.length + p.bad.length + 1)
  have a2 := fun k d4 hd4 => @l64b (U64 p) (p.rules.length + p.bad.length + 1) k rfl rfl p h.dn d8 d4 hd4 (fun x => Fin (M64 (hand (U64 p)) (p.rules.length + p.bad.length + 1)) [.cell 2 35] x = some out) p.bad 0 [] (p.rules.length + p.bad.length + 1)
  simp only [sub, c64, Tryd.f17, gets, opsAt] at a1 a2 ⊢
  have m1 : ((p.begin.length : Int) ≤ p.begin.length) = True := eq_true (Int.le_refl _)
  have m2 : ((p.begin.length : Int) ≤ 9223372036854775807) = True := eq_true (by omega)
  simp only [vmr, vmw, vmp, vza, ↓reduceIte, Nat.reduceBEq, Nat.reduceLT, Nat.reduceAdd, Nat.reduceEqDiff, reduceCtorEq, vmt, vzb, vzc, vlen, vleaf, velems, oks, vst, vmd, ty, Nat.reduceLeDiff, Nat.reduceMul, Nat.reduceSub, m64, r3, m1, m2, fitsI, List.map_cons, List.map_nil]
  refine a1 _ _ rfl (by omega) rfl (J17.of ⟨?_, ?_, ?_, ?_, ?_, ?_, fun h => absurd rfl h, ?_, ?_, fun h => absurd rfl h, ?_, ?_⟩) ?_ ?_ ?_ (by omega) (fun s1 d1 hd1 hb1 hJ => ?_)
  case refine_14 =>
    obtain ⟨v2, v4, v43, v5, v53, v6, ⟨h1, h2, h2', h3, h4, h4', h43, h5, h5', h53, h6, h6'⟩⟩ := hJ
    have z := zerosOk h
    have e1 : F327 [.nilS] = some (.agg [I 4, .str [], .lst []]) := hF_eq (a := ([] : List Tm)) (one_inj' fun _ _ => Ts_inj) rfl trivial
    have e2 := F342_eq z
    have e3 : F326 [.str sTest, Ts (cntL restL (zeros p) 0)] = some (.own 3 [.agg [I 8, .str sTest, Ts (cntL restL (zeros p) 0)]]) := F326_eq (cans_Tm _)
    have e4 := F343_eq sGood
    have t1 := take_len tv (cntL restL (zeros p) 0)
    have q1 := @room70 (1 + (cntL restL (zeros p) 0).length) (by rw [cntL_len]; have := z.len; omega)
    have q2 := @room67 (d1.length + 1) (by omega)
    have hd8 := @d64_8 (hand (U64 p)) (p.rules.length + p.bad.length + 1)
    have tail : ∀ s2 d4 d5, d4 = d1 ++ [rawE p] → d5 = p.bad.map (rawT sBad) → J17 s2 p d4 d5 → tget s2.τ 9 = .fn (.func 43) [] [] → Fin (M64 (hand (U64 p)) (p.rules.length + p.bad.length + 1)) [.cell 2 35] (R (M64 (hand (U64 p)) (p.rules.length + p.bad.length + 1)) (sub [1, 1, 1, 1, 1, 1, 1] c64) .top s2) = some out := by
      intro s2 d4 d5 hd4 hd5 ⟨w2, w4, w43, w5, w53, w6, ⟨k1, k2, k2', k3, k4, k4', k43, k5, k5', k53, k6, k6'⟩⟩ k9
      have k43 := k43 (by rw [hd4]; simp)
      have f4 : fldV 4 w43 d4 = .ref ⟨0, 4, 3⟩ w43 0 d4.length := by rw [hd4]; cases d1 <;> rfl
      rw [f4] at k4'
      have e5 := F344_eq (q := 45) (caps := [.iptr p.cs]) (bh := bg p) (ok := fun l => l = p.begin) (l := p.begin) rfl
      have e6 := F328_eq sRules
      have e7 := F328_eq sMore
      have e8 : F327 [.lst [vT sRules]] = some (.agg [I 4, .str [], Ts [varT sRules]]) := F327_eq (canT1 _ _ _ nilCan _ (canV _))
      have e9 : F327 [.lst [vT sMore]] = some (.agg [I 4, .str [], Ts [varT sMore]]) := F327_eq (canT1 _ _ _ nilCan _ (canV _))
      have e10 : F326 [.str sLoop, .lst (.agg [I 4, .str [], Ts [varT sRules]] :: (cntL (bg p) p.begin 0).map tv)] = some (.own 3 [.agg [I 8, .str sLoop, Ts (grpT [varT sRules] :: cntL (bg p) p.begin 0)]]) := F326_eq (canT1 _ _ _ (cans_Tm _) _ (canG _))
      have t2 := take_len tv (cntL (bg p) p.begin 0)
      have q3 := @room70 (1 + (cntL (bg p) p.begin 0).length) (by rw [cntL_len]; omega)
      have q4 := @room67 (d5.length + 1) (by rw [hd5]; simp; omega)
      have hd15 := @d64_15 (hand (U64 p)) (p.rules.length + p.bad.length + 1)
      have hd18 := @d64_18 (hand (U64 p)) (p.rules.length + p.bad.length + 1)
      have t4 : d4.take d4.length = d4 := List.take_length
      simp only [sub, c64, Tryd.f17, gets, opsAt] at hd15 hd18 ⊢
      rw [← hout]
      cases d5 with
      | nil =>
        simp only [fldV] at k5'
        simp only [vmr, vmw, vmp, vza, ↓reduceIte, Nat.reduceBEq, Nat.reduceLT, Nat.reduceAdd, Nat.reduceEqDiff, reduceCtorEq, vmt, vzb, vzc, vlen, vleaf, velems, oks, vst, vmd, ty, Nat.reduceLeDiff, Nat.reduceMul, Nat.reduceSub, vzr, m64, k1, k2, k2', k3, k4, k4', k43, k5, k5', k6, k6', k9, e2, e4, e5, e6, e7, e8, e9, e10, hd15, hd18, t1, t2, t4, tkc, q3, q4, room1, room2, room1s, room64, fits70s, List.map_cons, List.map_nil]
        rw [hd4, hd1, ← hd5]
        simp only [List.nil_append]
      | cons y d5 =>
        have k53 := k53 (by simp)
        have t5 : (y :: d5).take (d5.length + 1) = y :: d5 := by rw [← List.length_cons (a := y), List.take_length]
        simp only [fldV, List.length_cons] at k5' q4
        simp only [vmr, vmw, vmp, vza, ↓reduceIte, Nat.reduceBEq, Nat.reduceLT, Nat.reduceAdd, Nat.reduceEqDiff, reduceCtorEq, vmt, vzb, vzc, vlen, vleaf, velems, oks, vst, vmd, ty, Nat.reduceLeDiff, Nat.reduceMul, Nat.reduceSub, vzr, m64, k1, k2, k2', k3, k4, k4', k43, k5, k5', k53, k6, k6', k9, e2, e4, e5, e6, e7, e8, e9, e10, hd15, hd18, t1, t2, t4, t5, tkc, q3, q4, room1, room2, room1s, room64, fits70s, List.map_cons, List.map_nil]
        rw [hd4, hd1, ← hd5]
        simp only [List.nil_append, List.cons_append]
    have fin := fun s2 d5 hd5 (hb : d5.length ≤ 8) h9 hJ => tail s2 (d1 ++ [rawE p]) d5 rfl hd5 hJ h9
    simp only [sub, c64, Tryd.f17, gets, opsAt] at hd8 fin
    have a2 := a2 (.blk 2 (.seq (sub [1, 1, 1, 1, 1, 1, 1] c64) .top)) (d1 ++ [rawE p]) (by simp)
    simp only [sub, c64, Tryd.f17, gets] at a2
    cases d1 with
    | nil =>
      simp only [fldV] at h4'
      simp only [vmr, vmw, vmp, vza, ↓reduceIte, Nat.reduceBEq, Nat.reduceLT, Nat.reduceAdd, Nat.reduceEqDiff, reduceCtorEq, vmt, vzb, vzc, vlen, vleaf, velems, oks, vst, vmd, ty, Nat.reduceLeDiff, Nat.reduceMul, Nat.reduceSub, m64, h1, h2, h3, h4, h4', e1, e2, e3, hd8, t1, tkc, q1, room1, room1s, fits70s, List.map_cons, List.map_nil]
      refine a2 _ rfl (by omega) rfl (J17.of ⟨?_, ?_, ?_, ?_, ?_, ?_, fun _ => ?_, ?_, ?_, fun h => absurd rfl h, ?_, ?_⟩) ?_ ?_ ?_ ?_ (by omega) (fun s2 d5 hd5 hb h9 hJ => ?_)
      case refine_16 =>
        rw [X_blk_exit, if_pos rfl, X_seq]
        exact fin s2 d5 hd5 hb h9 hJ
      all_goals simp only [vmr, vmw, vmp, vza, ↓reduceIte, Nat.reduceBEq, Nat.reduceLT, Nat.reduceAdd, Nat.reduceEqDiff, reduceCtorEq, vmt, vzb, vzc, vlen, vleaf, velems, oks, vst, vmd, ty, Nat.reduceLeDiff, Nat.reduceMul, Nat.reduceSub, ver, fldV, rawE, m64, Prot.cs, h1, h2, h2', h3, h4, h4', h5, h5', h6, h6', List.nil_append, List.length_nil]
    | cons y d =>
      have h43 := h43 (by simp)
      simp only [fldV, List.length_cons] at h4' q2
      simp only [vmr, vmw, vmp, vza, ↓reduceIte, Nat.reduceBEq, Nat.reduceLT, Nat.reduceAdd, Nat.reduceEqDiff, reduceCtorEq, vmt, vzb, vzc, vlen, vleaf, velems, oks, vst, vmd, ty, Nat.reduceLeDiff, Nat.reduceMul, Nat.reduceSub, m64, h1, h2, h3, h4, h4', h43, e1, e2, e3, hd8, t1, tkc, q1, q2, room1, room1s, fits70s, List.map_cons, List.map_nil]
      refine a2 _ rfl (by omega) rfl (J17.of ⟨?_, ?_, ?_, ?_, ?_, ?_, fun _ => ?_, ?_, ?_, fun h => absurd rfl h, ?_, ?_⟩) ?_ ?_ ?_ ?_ (by omega) (fun s2 d5 hd5 hb h9 hJ => ?_)
      case refine_16 =>
        rw [X_blk_exit, if_pos rfl, X_seq]
        exact fin s2 d5 hd5 hb h9 hJ
      all_goals simp only [vmr, vmw, vmp, vza, ↓reduceIte, Nat.reduceBEq, Nat.reduceLT, Nat.reduceAdd, Nat.reduceEqDiff, reduceCtorEq, vmt, vzb, vzc, vlen, vleaf, velems, oks, vst, vmd, ty, Nat.reduceLeDiff, Nat.reduceMul, Nat.reduceSub, ver, fldV, rawE, m64, Prot.cs, h1, h2, h2', h3, h4, h4', h5, h5', h6, h6', List.cons_append, List.length_append, List.length_cons, List.length_nil]
  all_goals simp only [vmr, vmw, vmp, vza, ↓reduceIte, Nat.reduceBEq, Nat.reduceLT, Nat.reduceAdd, Nat.reduceEqDiff, reduceCtorEq, vmt, vzb, vzc, vlen, vleaf, velems, oks, vst, vmd, ty, Nat.reduceLeDiff, Nat.reduceMul, Nat.reduceSub, ver, fldV, m64, Prot.cs, zeros, Is, List.map_replicate]
end Go.Vi
set_option maxRecDepth 100000
set_option maxHeartbeats 1000000
namespace Go.Vi
open Go Go.Proofs

theorem outB_f {m n : Int} (h : outB m n = false) : 0 ≤ n ∧ n ≤ m := by
  unfold outB at h
  simp only [Bool.or_eq_false_iff, decide_eq_false_iff_not] at h
  omega
theorem within_of {l : List Int} {c m : Int} (h : withinF l c m = true) : (l.length : Int) = c ∧ ∀ x ∈ l, 0 ≤ x ∧ x ≤ m := by
  unfold withinF at h
  simp only [Bool.and_eq_true, beq_iff_eq, Bool.not_eq_true', List.any_eq_false, Bool.not_eq_true] at h
  exact ⟨h.1, fun x hx => outB_f (h.2 x hx)⟩
theorem clrOk_of {cl : List Int} {n : Int} : ∀ {l : List Int} {i : Nat}, clrOk cl n l i = true → ∀ x ∈ l, 0 ≤ x ∧ x < n
  | [], _, _, x, hx => by cases hx
  | y :: r, i, h, x, hx => by
    simp only [clrOk] at h
    split at h
    · cases h
    · rename_i hn
      rcases List.mem_cons.1 hx with rfl | hx
      · omega
      · exact clrOk_of h x hx
theorem rOk_of {r : Rule} {n : Nat} (h8 : n ≤ 8) (hr : r.ok) (h : rightF r n = true) : rOk r n := by
  unfold rightF at h
  simp only [Bool.and_eq_true] at h
  obtain ⟨⟨⟨h1, h2⟩, h3⟩, _⟩ := h
  obtain ⟨a1, a2⟩ := within_of h1
  obtain ⟨b1, b2⟩ := within_of h2
  exact ⟨h8, by omega, by omega, fun x hx => by have := a2 x hx; omega, fun x hx => by have := b2 x hx; omega, fun c hc => by have := clrOk_of h3 c hc; omega, hr.clear⟩
theorem pOk_of {p : Prot} (hp : p.ok) (h : checkF p = 0) : pOk p := by
  unfold checkF at h
  split at h
  · cases h
  rename_i h1
  split at h
  · cases h
  rename_i h2
  simp only [not_or, Bool.not_eq_false, Bool.not_eq_true, List.any_eq_false, Bool.not_eq_true'] at h1 h2
  obtain ⟨a1, a2, a3, a4, a5⟩ := h2
  obtain ⟨_, b2⟩ := within_of a1
  refine ⟨by omega, by omega, by omega, fun x hx => by have := b2 x hx; omega, fun r hr => ⟨p.begin.length, rOk_of (by omega) (hp.rule r hr) ?_⟩, fun l hl => ?_⟩
  · have := a4 r hr; simpa using this
  · have := a5 l hl
    have h2 : withinF l p.begin.length 6 = true := by simpa using this
    obtain ⟨c1, c2⟩ := within_of h2
    exact ⟨by omega, fun x hx => by have := c2 x hx; omega⟩
theorem canSent (a b : List Tm) : can (sentV a b) = sentV a b := by simp only [can, cans, cans_Tm]
theorem can_rules : ∀ (q : List Rule) (i : Nat), cans (ruleS q i) = (ruleP q i).map encS
  | [], _ => rfl
  | r :: q, i => by simp only [ruleS, ruleP, List.map_cons, cans, canSent, can_rules q (i + 1)]
theorem cans_app (a b : List V) : cans (a ++ b) = cans a ++ cans b := by rw [cans_map, cans_map, cans_map, List.map_append]
theorem canE (p : Prot) : can (rawE p) = sentV (grpT [] :: cntL restL (zeros p) 0) [callT sTest (cntL restL (zeros p) 0)] := by
  simp only [rawE, can, cans, cans_Tm, sentV, Ts, List.map_cons, List.map_nil, tv_mk]
theorem canRT (b : List UInt8) (l : List Int) : can (rawT b l) = sentV (cntL restL l 0) [wordT b] := by
  simp only [rawT, can, cans, cans_Tm, sentV, Ts, List.map_cons, List.map_nil, tv_mk]
theorem wProg' (p : Prot) (h : pOk p) : SoundPure Tryd.prog 17 [p.v] (.ret (progV (progF p))) := by
  have := sound_imm (wProg p h) rfl
  have e : cans (p.bad.map (rawT sBad)) = (p.bad.map fun l => (cntL restL l 0, [wordT sBad])).map encS := by
    rw [cans_map, List.map_map, List.map_map]
    exact List.map_congr_left fun l _ => canRT sBad l
  have eg : can (rawG p) = sentV (cntL restL (zeros p) 0) [wordT sGood] := canRT sGood (zeros p)
  simp only [imm, immL, can, cans, cans_app, can_rules, canE, e, cans_Tm] at this
  simp only [progV, progF, encF, encS, sentV, Ts, List.map_cons, List.map_nil, List.map_append, tv_mk] at this ⊢
  exact this
noncomputable def FProg : List V → Option V := hF (α := Prot) (fun a => [a.v]) pOk (fun a => progV (progF a))
theorem FProg_eq {p : Prot} (h : pOk p) : FProg [p.v] = some (progV (progF p)) := hF_eq (a := p) (one_inj' fun _ _ => Prot_inj) (by simp only [cans, canProt]) h
def pf (p : Prot) : List (List UInt8 × List Sn) := if checkF p = 0 then progF p else []
/-! ### Program -/
theorem w307 (p : Prot) (hp : p.ok) : SoundPure Tryd.prog 7 [p.v] (.ret (.tup [progV (pf p), I (checkF p)])) := by
  have hT : SoundHand Tryd.prog (hand [(16, F14), (17, FProg)]) := sound_cons (hF_sound fun a h => w14 a h) <| sound_cons (hF_sound wProg') sound_nil
  have e1 := F14_eq hp
  by_cases h : checkF p = 0
  · have e2 := FProg_eq (pOk_of hp h)
    rw [h] at e1
    rw [show pf p = progF p by simp [pf, h], h]
    refine s307 hT 1 (by simp) rfl ?_
    have d : ((0 : Int) != 0) = false := rfl
    simp only [c307, Tryd.f7, gets, sub]
    simp only [vmr, vmw, vmp, vza, ↓reduceIte, Nat.reduceBEq, Nat.reduceLT, Nat.reduceAdd, Nat.reduceEqDiff, reduceCtorEq, vmt, vzb, vzc, vlen, vleaf, velems, oks, vst, vmd, ty, Nat.reduceLeDiff, Nat.reduceMul, Nat.reduceSub, vzr, m307, e1, e2, d]
  · have d : (checkF p != 0) = true := by simpa using h
    rw [show pf p = [] by simp [pf, h]]
    have key : SoundPure Tryd.prog 7 [p.v] (.ret (.tup [.agg [.nilS], I (checkF p)])) := by
      refine s307 hT 1 (by simp) rfl ?_
      simp only [c307, Tryd.f7, gets, sub]
      simp only [vmr, vmw, vmp, vza, ↓reduceIte, Nat.reduceBEq, Nat.reduceLT, Nat.reduceAdd, Nat.reduceEqDiff, reduceCtorEq, vmt, vzb, vzc, vlen, vleaf, velems, oks, vst, vmd, ty, Nat.reduceLeDiff, Nat.reduceMul, Nat.reduceSub, vzr, m307, e1, d]
    have := sound_imm key rfl
    simpa only [imm, immL, can, cans, progV, List.map_nil] using this
noncomputable def F307 : List V → Option V := hF (α := Prot) (fun a => [a.v]) Prot.ok (fun a => .tup [progV (pf a), I (checkF a)])
theorem F307_eq {p : Prot} (h : p.ok) : F307 [p.v] = some (.tup [progV (pf p), I (checkF p)]) := hF_eq (a := p) (one_inj' fun _ _ => Prot_inj) (by simp only [cans, canProt]) h
/-! ### Config -/
def cfT (p : Prot) : List Tm := if checkF p = 0 then [callT sMain [grpT [varT sRules], grpT [varT sMore]]] else []
theorem w310 (p : Prot) (hp : p.ok) : SoundPure Tryd.prog 10 [p.v] (.ret (.tup [.agg [Ts (cfT p), .lst []], I (checkF p)])) := by
  have hT : SoundHand Tryd.prog (hand [(16, F14), (28, F328), (27, F327), (26, F326)]) := sound_cons (hF_sound fun a h => w14 a h) <| sound_cons (hF_sound fun b _ => w328 b) <| sound_cons (hF_sound fun l _ => w327 l) <| sound_cons (hF_sound fun a _ => w326 a.1 a.2) sound_nil
  have e1 := F14_eq hp
  by_cases h : checkF p = 0
  · rw [h] at e1
    have e6 := F328_eq sRules
    have e7 := F328_eq sMore
    have e8 : F327 [.lst [vT sRules]] = some (.agg [I 4, .str [], Ts [varT sRules]]) := F327_eq (canT1 _ _ _ nilCan _ (canV _))
    have e9 : F327 [.lst [vT sMore]] = some (.agg [I 4, .str [], Ts [varT sMore]]) := F327_eq (canT1 _ _ _ nilCan _ (canV _))
    have e10 : F326 [.str sMain, .lst [.agg [I 4, .str [], Ts [varT sRules]], .agg [I 4, .str [], Ts [varT sMore]]]] = some (.own 3 [.agg [I 8, .str sMain, Ts [grpT [varT sRules], grpT [varT sMore]]]]) := F326_eq (canT1 _ _ _ (canT1 _ _ _ nilCan _ (canG _)) _ (canG _))
    have d : ((0 : Int) != 0) = false := rfl
    have key : SoundPure Tryd.prog 10 [p.v] (.ret (.tup [.agg [.own 3 [.agg [I 8, .str sMain, Ts [grpT [varT sRules], grpT [varT sMore]]]], .nilS], I 0])) := by
      refine s310 hT 1 (by simp) rfl ?_
      simp only [c310, Tryd.f10, gets, sub]
      simp only [vmr, vmw, vmp, vza, ↓reduceIte, Nat.reduceBEq, Nat.reduceLT, Nat.reduceAdd, Nat.reduceEqDiff, reduceCtorEq, vmt, vzb, vzc, vlen, vleaf, velems, oks, vst, vmd, ty, Nat.reduceLeDiff, Nat.reduceMul, Nat.reduceSub, vzr, m310, e1, e6, e7, e8, e9, e10, d, room1, room2, List.map_cons, List.map_nil]
    have := sound_imm key rfl
    rw [show cfT p = [callT sMain [grpT [varT sRules], grpT [varT sMore]]] by simp [cfT, h], h]
    simp only [imm, immL, can, cans, cans_Tm] at this
    simp only [Ts, List.map_cons, List.map_nil, tv_mk] at this ⊢
    exact this
  · have d : (checkF p != 0) = true := by simpa using h
    have key : SoundPure Tryd.prog 10 [p.v] (.ret (.tup [.agg [.nilS, .nilS], I (checkF p)])) := by
      refine s310 hT 1 (by simp) rfl ?_
      simp only [c310, Tryd.f10, gets, sub]
      simp only [vmr, vmw, vmp, vza, ↓reduceIte, Nat.reduceBEq, Nat.reduceLT, Nat.reduceAdd, Nat.reduceEqDiff, reduceCtorEq, vmt, vzb, vzc, vlen, vleaf, velems, oks, vst, vmd, ty, Nat.reduceLeDiff, Nat.reduceMul, Nat.reduceSub, vzr, m310, e1, d]
    have := sound_imm key rfl
    rw [show cfT p = [] by simp [cfT, h]]
    simpa only [imm, immL, can, cans, Ts, List.map_nil] using this
noncomputable def F310 : List V → Option V := hF (α := Prot) (fun a => [a.v]) Prot.ok (fun a => .tup [.agg [Ts (cfT a), .lst []], I (checkF a)])
theorem F310_eq {p : Prot} (h : p.ok) : F310 [p.v] = some (.tup [.agg [Ts (cfT p), .lst []], I (checkF p)]) := hF_eq (a := p) (one_inj' fun _ _ => Prot_inj) (by simp only [cans, canProt]) h
theorem w311 (p : Prot) (hp : p.ok) : SoundPure Tryd.prog 11 [p.v] (.ret (.tup [.agg [Ts (cfT p), .lst []], I (checkF p)])) := by
  have hT : SoundHand Tryd.prog (hand [(18, F15), (24, F324), (21, F321), (22, F322)]) := sound_cons (hF_sound fun a h => w15 a h) <| sound_cons (hF_sound fun b _ => w324 b) <| sound_cons (hF_sound fun l _ => w321 l) <| sound_cons (hF_sound fun a _ => w322 a.1 a.2) sound_nil
  have e1 := F15_eq hp
  by_cases h : checkF p = 0
  · rw [h] at e1
    have e6 := F324_eq sRules
    have e7 := F324_eq sMore
    have e8 : F321 [.lst [vT sRules]] = some (.agg [I 4, .str [], Ts [varT sRules]]) := F321_eq (canT1 _ _ _ nilCan _ (canV _))
    have e9 : F321 [.lst [vT sMore]] = some (.agg [I 4, .str [], Ts [varT sMore]]) := F321_eq (canT1 _ _ _ nilCan _ (canV _))
    have e10 : F322 [.str sMain, .lst [.agg [I 4, .str [], Ts [varT sRules]], .agg [I 4, .str [], Ts [varT sMore]]]] = some (.own 3 [.agg [I 8, .str sMain, Ts [grpT [varT sRules], grpT [varT sMore]]]]) := F322_eq (canT1 _ _ _ (canT1 _ _ _ nilCan _ (canG _)) _ (canG _))
    have d : ((0 : Int) != 0) = false := rfl
    have key : SoundPure Tryd.prog 11 [p.v] (.ret (.tup [.agg [.own 3 [.agg [I 8, .str sMain, Ts [grpT [varT sRules], grpT [varT sMore]]]], .nilS], I 0])) := by
      refine s311 hT 1 (by simp) rfl ?_
      simp only [c311, Tryd.f11, gets, sub]
      simp only [vmr, vmw, vmp, vza, ↓reduceIte, Nat.reduceBEq, Nat.reduceLT, Nat.reduceAdd, Nat.reduceEqDiff, reduceCtorEq, vmt, vzb, vzc, vlen, vleaf, velems, oks, vst, vmd, ty, Nat.reduceLeDiff, Nat.reduceMul, Nat.reduceSub, vzr, m311, e1, e6, e7, e8, e9, e10, d, room1, room2, List.map_cons, List.map_nil]
    have := sound_imm key rfl
    rw [show cfT p = [callT sMain [grpT [varT sRules], grpT [varT sMore]]] by simp [cfT, h], h]
    simp only [imm, immL, can, cans, cans_Tm] at this
    simp only [Ts, List.map_cons, List.map_nil, tv_mk] at this ⊢
    exact this
  · have d : (checkF p != 0) = true := by simpa using h
    have key : SoundPure Tryd.prog 11 [p.v] (.ret (.tup [.agg [.nilS, .nilS], I (checkF p)])) := by
      refine s311 hT 1 (by simp) rfl ?_
      simp only [c311, Tryd.f11, gets, sub]
      simp only [vmr, vmw, vmp, vza, ↓reduceIte, Nat.reduceBEq, Nat.reduceLT, Nat.reduceAdd, Nat.reduceEqDiff, reduceCtorEq, vmt, vzb, vzc, vlen, vleaf, velems, oks, vst, vmd, ty, Nat.reduceLeDiff, Nat.reduceMul, Nat.reduceSub, vzr, m311, e1, d]
    have := sound_imm key rfl
    rw [show cfT p = [] by simp [cfT, h]]
    simpa only [imm, immL, can, cans, Ts, List.map_nil] using this
noncomputable def F311 : List V → Option V := hF (α := Prot) (fun a => [a.v]) Prot.ok (fun a => .tup [.agg [Ts (cfT a), .lst []], I (checkF a)])
theorem F311_eq {p : Prot} (h : p.ok) : F311 [p.v] = some (.tup [.agg [Ts (cfT p), .lst []], I (checkF p)]) := hF_eq (a := p) (one_inj' fun _ _ => Prot_inj) (by simp only [cans, canProt]) h
end Go.Vi
set_option maxRecDepth 100000
set_option maxHeartbeats 1000000
namespace Go.Vi
open Go Go.Proofs

abbrev nV (w : List UInt8) : V := .agg [I 3, .str w, .nilS]
def badN (p : Prot) (n : Int) : Bool := decide (n < 0) || decide (n ≥ p.rules.length)
def digs (l : List Int) : List (List UInt8) := l.map fun n => dig n.toNat
theorem cansD (N : List (List UInt8)) : cans (N.map nV) = (N.map fun w => Tm.mk 3 w []).map tv := by
  rw [cans_map, List.map_map, List.map_map]
  exact List.map_congr_left fun w _ => by simp only [Function.comp, can, cans, tv_mk, Ts, List.map_nil]
theorem e330 {x : Int} (h : 0 ≤ x ∧ x < 100) : F330 [I x] = some (nV (dig x.toNat)) := by
  have := F330_eq (n := x.toNat) (by omega)
  rwa [show ((x.toNat : Nat) : Int) = x by omega] at this
theorem badN_f {p : Prot} {x : Int} (h : badN p x = false) : 0 ≤ x ∧ x < p.rules.length := by
  unfold badN at h
  simp only [Bool.or_eq_false_iff, decide_eq_false_iff_not] at h
  omega
noncomputable abbrev U313 : List (FuncId × (List V → Option V)) := [(16, F14), (30, F330), (27, F327), (31, F331), (26, F326)]
theorem hU313 : SoundHand Tryd.prog (hand U313) := sound_cons (hF_sound fun a h => w14 a h) <| sound_cons (hF_sound fun n h => w330 h) <| sound_cons (hF_sound fun l _ => w327 l) <| sound_cons (hF_sound fun n h => w331o h) <| sound_cons (hF_sound fun a _ => w326 a.1 a.2) sound_nil
theorem l313 {n k out} (p : Prot) (rules : List Int) (more : Int) (hl : p.rules.length ≤ 12) (hrl : rules.length ≤ 1000) : ∀ (q : List Int) (N : List (List UInt8)) i v9 n' s, rules.drop i = q → q.length < n' → N.length = i → tget s.τ 2 = I more → tget s.τ 3 = .iptr p.cs → tget s.τ 9 = .ref ⟨0, 9, 0⟩ v9 0 N.length → lget s.L (9, 0) = some (v9, .arr (sz3 N.length) (N.map nV)) → tget s.τ 20 = Is rules → tget s.τ 21 = I rules.length → tget s.τ 22 = I i →
    (q.any (badN p) = true → out = some (.ret (.tup [.nilS, I 4]))) →
    (q.any (badN p) = false → ∀ s' v9 (N' : List (List UInt8)), N' = N ++ digs q → tget s'.τ 2 = I more → tget s'.τ 9 = .ref ⟨0, 9, 0⟩ v9 0 N'.length → lget s'.L (9, 0) = some (v9, .arr (sz3 N'.length) (N'.map nV)) → Fin (M313 (hand U313) n) [.tmp 6, .tmp 7] (X (M313 (hand U313) n) (.exit 0) k s') = out) →
    Fin (M313 (hand U313) n) [.tmp 6, .tmp 7] (L (M313 (hand U313) n) (sub [1, 1, 1, 1, 0, 1, 0, 0] c313) n' k s) = out
  | [], N, i, v9, n' + 1, s, hi, hn, hNi, h2, h3, h9, h9', h20, h21, h22, ho, hx => by
    have hc := inlt (drop_nil' hi)
    rw [L_succ]
    simp only [vmr, vmw, vmp, vza, ↓reduceIte, Nat.reduceBEq, Nat.reduceLT, Nat.reduceAdd, Nat.reduceEqDiff, reduceCtorEq, vmt, vzb, vzc, vlen, vleaf, velems, oks, vst, vmd, ty, Nat.reduceLeDiff, Nat.reduceMul, Nat.reduceSub, c313, Tryd.f13, m313, h20, h21, h22, hc]
    refine hx rfl _ v9 N (by simp [digs]) ?_ ?_ ?_
    all_goals simp only [vmr, vmw, vmp, vza, ↓reduceIte, Nat.reduceBEq, Nat.reduceLT, Nat.reduceAdd, Nat.reduceEqDiff, reduceCtorEq, vmt, vzb, vzc, vlen, vleaf, velems, oks, vst, vmd, ty, Nat.reduceLeDiff, Nat.reduceMul, Nat.reduceSub, m313, h2, h9, h9']
  | x :: q, N, i, v9, n' + 1, s, hi, hn, hNi, h2, h3, h9, h9', h20, h21, h22, ho, hx => by
    obtain ⟨hg, hd, hlt⟩ := drop_cons hi
    have hlt' := ilt hlt
    have hw := wsucc hlt (by omega)
    rw [L_succ]
    cases hb : badN p x with
    | true =>
      rw [ho (by simp [hb])]
      by_cases q1 : x < 0
      · have q1' := eq_true q1
        simp only [vmr, vmw, vmp, vza, ↓reduceIte, Nat.reduceBEq, Nat.reduceLT, Nat.reduceAdd, Nat.reduceEqDiff, reduceCtorEq, vmt, vzb, vzc, vlen, vleaf, velems, oks, vst, vmd, ty, Nat.reduceLeDiff, Nat.reduceMul, Nat.reduceSub, vzr, c313, Tryd.f13, m313, h3, h20, h21, h22, hlt', hg, q1']
      · have q1' := eq_false q1
        have q2' : (x ≥ (p.rules.length : Int)) = True := eq_true (by unfold badN at hb; simp only [Bool.or_eq_true, decide_eq_true_eq] at hb; omega)
        simp only [vmr, vmw, vmp, vza, ↓reduceIte, Nat.reduceBEq, Nat.reduceLT, Nat.reduceAdd, Nat.reduceEqDiff, reduceCtorEq, vmt, vzb, vzc, vlen, vleaf, velems, oks, vst, vmd, ty, Nat.reduceLeDiff, Nat.reduceMul, Nat.reduceSub, vzr, c313, Tryd.f13, m313, h3, h20, h21, h22, hlt', hg, q1', q2']
    | false =>
      have hb2 := badN_f hb
      have q1' : (x < 0) = False := eq_false (by omega)
      have q2' : (x ≥ (p.rules.length : Int)) = False := eq_false (by omega)
      have e1 := e330 (x := x) (by omega)
      have hz := sz3_or N.length
      have r2 := @room70 (N.length + 1) (by omega)
      simp only [List.any_cons, hb, Bool.false_or] at ho hx
      have ih := fun v9 s => l313 (k := k) (n := n) (out := out) p rules more hl hrl q (N ++ [dig x.toNat]) (i + 1) v9 n' s hd (by simp at hn; omega) (by simp [hNi])
      simp only [List.length_append, List.length_cons, List.length_nil, sz3_s, Nat.zero_add, List.map_append, List.map_cons, List.map_nil] at ih
      simp only [sub, c313, Tryd.f13, gets] at ih
      simp only [vmr, vmw, vmp, vza, ↓reduceIte, Nat.reduceBEq, Nat.reduceLT, Nat.reduceAdd, Nat.reduceEqDiff, reduceCtorEq, vmt, vzb, vzc, vlen, vleaf, velems, oks, vst, vmd, ty, Nat.reduceLeDiff, Nat.reduceMul, Nat.reduceSub, c313, Tryd.f13, m313, h3, h9, h9', h20, h21, h22, hlt', hg, hw, q1', q2', e1, hz, r2, room1, List.map_cons, List.map_nil]
      refine ih (s.c + 1 + 1) _ ?_ ?_ ?_ ?_ ?_ ?_ ?_ ho (fun hq s' v9 N' hN => hx hq s' v9 N' (by rw [hN]; simp [digs]))
      all_goals simp only [vmr, vmw, vmp, vza, ↓reduceIte, Nat.reduceBEq, Nat.reduceLT, Nat.reduceAdd, Nat.reduceEqDiff, reduceCtorEq, vmt, vzb, vzc, vlen, vleaf, velems, oks, vst, vmd, ty, Nat.reduceLeDiff, Nat.reduceMul, Nat.reduceSub, m313, h2, h3, h20, h21, hw, List.length_append, List.length_cons, List.length_nil, List.length_map]
def callT' (p : Prot) (rules : List Int) (more : Int) : List Tm × Int :=
  if checkF p ≠ 0 then ([], checkF p) else if rules.length > 1000 then ([], 5) else if rules.any (badN p) = true then ([], 4) else if more < 0 ∨ more > 1000 then ([], 4)
  else ([callT sMain [grpT ((digs rules).map fun w => .mk 3 w []), grpT (List.replicate more.toNat oneT)]], 0)
structure cOk (p : Prot) (rules : List Int) (more : Int) : Prop where
  ok : p.ok
  few : rules.length ≤ 2000
  more : more < 41 ∨ more > 1000
theorem imm_tup {v : V} {e : Int} : can (imm (.tup [v, I e])) = .tup [can (imm v), I e] := by simp only [imm, immL, can, cans]
theorem w313 (p : Prot) (rules : List Int) (more : Int) (h : cOk p rules more) : SoundPure Tryd.prog 13 [p.v, Is rules, I more] (.ret (.tup [Ts (callT' p rules more).1, I (callT' p rules more).2])) := by
  obtain ⟨hp, hr, hm⟩ := h
  have e1 := F14_eq hp
  have key : ∃ v e, can (imm v) = Ts (callT' p rules more).1 ∧ e = (callT' p rules more).2 ∧ pureR v = true ∧ SoundPure Tryd.prog 13 [p.v, Is rules, I more] (.ret (.tup [v, I e])) := by
    by_cases h0 : checkF p = 0
    · rw [h0] at e1
      have pk := pOk_of hp h0
      have d : ((0 : Int) != 0) = false := rfl
      by_cases h1 : rules.length > 1000
      · have q1 : ((rules.length : Int) > 1000) = True := eq_true (by omega)
        refine ⟨.nilS, 5, by simp [callT', h0, h1, imm, can], by simp [callT', h0, h1], rfl, ?_⟩
        refine s313 hU313 1 (by simp) rfl ?_
        simp only [c313, Tryd.f13, gets, sub]
        simp only [vmr, vmw, vmp, vza, ↓reduceIte, Nat.reduceBEq, Nat.reduceLT, Nat.reduceAdd, Nat.reduceEqDiff, reduceCtorEq, vmt, vzb, vzc, vlen, vleaf, velems, oks, vst, vmd, ty, Nat.reduceLeDiff, Nat.reduceMul, Nat.reduceSub, vzr, m313, e1, d, q1]
      · have q1 : ((rules.length : Int) > 1000) = False := eq_false (by omega)
        have a1 := fun k out => @l313 (rules.length + 1) k out p rules more pk.r12 (by omega) rules [] 0
        simp only [sub, c313, Tryd.f13, gets, sz3, if_true, List.length_nil, List.map_nil] at a1
        cases h2 : rules.any (badN p) with
        | true =>
          refine ⟨.nilS, 4, by simp [callT', h0, h1, h2, imm, can], by simp [callT', h0, h1, h2], rfl, ?_⟩
          refine s313 hU313 (rules.length + 1) (by simp) rfl ?_
          simp only [c313, Tryd.f13, gets, sub]
          simp only [vmr, vmw, vmp, vza, ↓reduceIte, Nat.reduceBEq, Nat.reduceLT, Nat.reduceAdd, Nat.reduceEqDiff, reduceCtorEq, vmt, vzb, vzc, vlen, vleaf, velems, oks, vst, vmd, ty, Nat.reduceLeDiff, Nat.reduceMul, Nat.reduceSub, m313, e1, d, q1]
          refine a1 _ _ 1 _ _ rfl (by omega) trivial ?_ ?_ ?_ ?_ ?_ ?_ ?_ (fun _ => rfl) (fun hf => by rw [h2] at hf; cases hf)
          all_goals simp only [vmr, vmw, vmp, vza, ↓reduceIte, Nat.reduceBEq, Nat.reduceLT, Nat.reduceAdd, Nat.reduceEqDiff, reduceCtorEq, vmt, vzb, vzc, vlen, vleaf, velems, oks, vst, vmd, ty, Nat.reduceLeDiff, Nat.reduceMul, Nat.reduceSub, m313, Prot.cs]
        | false =>
          by_cases h3 : more < 0 ∨ more > 1000
          · refine ⟨.nilS, 4, by simp only [callT', h0, h1, h2, h3]; simp [imm, can], by simp only [callT', h0, h1, h2, h3]; simp, rfl, ?_⟩
            refine s313 hU313 (rules.length + 1) (by simp) rfl ?_
            simp only [c313, Tryd.f13, gets, sub]
            simp only [vmr, vmw, vmp, vza, ↓reduceIte, Nat.reduceBEq, Nat.reduceLT, Nat.reduceAdd, Nat.reduceEqDiff, reduceCtorEq, vmt, vzb, vzc, vlen, vleaf, velems, oks, vst, vmd, ty, Nat.reduceLeDiff, Nat.reduceMul, Nat.reduceSub, m313, e1, d, q1]
            refine a1 _ _ 1 _ _ rfl (by omega) trivial ?_ ?_ ?_ ?_ ?_ ?_ ?_ (fun _ => rfl) (fun _ s' v9 N' hN g2 g9 g9' => ?_)
            case refine_8 =>
              by_cases h4 : more < 0
              · have q4 := eq_true h4
                simp only [vmr, vmw, vmp, vza, ↓reduceIte, Nat.reduceBEq, Nat.reduceLT, Nat.reduceAdd, Nat.reduceEqDiff, reduceCtorEq, vmt, vzb, vzc, vlen, vleaf, velems, oks, vst, vmd, ty, Nat.reduceLeDiff, Nat.reduceMul, Nat.reduceSub, vzr, m313, g2, g9, g9', q4]
              · have q4 := eq_false h4
                have q5 : (more > 1000) = True := eq_true (by omega)
                simp only [vmr, vmw, vmp, vza, ↓reduceIte, Nat.reduceBEq, Nat.reduceLT, Nat.reduceAdd, Nat.reduceEqDiff, reduceCtorEq, vmt, vzb, vzc, vlen, vleaf, velems, oks, vst, vmd, ty, Nat.reduceLeDiff, Nat.reduceMul, Nat.reduceSub, vzr, m313, g2, g9, g9', q4, q5]
            all_goals simp only [vmr, vmw, vmp, vza, ↓reduceIte, Nat.reduceBEq, Nat.reduceLT, Nat.reduceAdd, Nat.reduceEqDiff, reduceCtorEq, vmt, vzb, vzc, vlen, vleaf, velems, oks, vst, vmd, ty, Nat.reduceLeDiff, Nat.reduceMul, Nat.reduceSub, m313, Prot.cs]
          · have hm1 : 0 ≤ more ∧ more < 41 := by omega
            have q4 : (more < 0) = False := eq_false (by omega)
            have q5 : (more > 1000) = False := eq_false (by omega)
            have e2 := e331 hm1
            have e3 : F327 [.lst ((digs rules).map nV)] = some (.agg [I 4, .str [], Ts ((digs rules).map fun w => .mk 3 w [])]) := F327_eq (cansD _)
            have e4 : F327 [.lst ((List.replicate more.toNat oneT).map tv)] = some (.agg [I 4, .str [], Ts (List.replicate more.toNat oneT)]) := F327_eq (cans_Tm _)
            have e5 : F326 [.str sMain, .lst [.agg [I 4, .str [], Ts ((digs rules).map fun w => .mk 3 w [])], .agg [I 4, .str [], Ts (List.replicate more.toNat oneT)]]] = some (.own 3 [.agg [I 8, .str sMain, Ts [grpT ((digs rules).map fun w => .mk 3 w []), grpT (List.replicate more.toNat oneT)]]]) := F326_eq (canT1 _ _ _ (canT1 _ _ _ nilCan _ (canG _)) _ (canG _))
            have hc : callT' p rules more = ([callT sMain [grpT ((digs rules).map fun w => .mk 3 w []), grpT (List.replicate more.toNat oneT)]], 0) := by simp only [callT', h0, h1, h2, h3]; simp
            refine ⟨.own 3 [.agg [I 8, .str sMain, Ts [grpT ((digs rules).map fun w => .mk 3 w []), grpT (List.replicate more.toNat oneT)]]], 0, ?_, by rw [hc], rfl, ?_⟩
            · rw [hc]
              simp only [imm, can, cans, cans_Tm]
              simp only [Ts, List.map_cons, List.map_nil, tv_mk]
            refine s313 hU313 (rules.length + 1) (by simp) rfl ?_
            simp only [c313, Tryd.f13, gets, sub]
            simp only [vmr, vmw, vmp, vza, ↓reduceIte, Nat.reduceBEq, Nat.reduceLT, Nat.reduceAdd, Nat.reduceEqDiff, reduceCtorEq, vmt, vzb, vzc, vlen, vleaf, velems, oks, vst, vmd, ty, Nat.reduceLeDiff, Nat.reduceMul, Nat.reduceSub, m313, e1, d, q1]
            refine a1 _ _ 1 _ _ rfl (by omega) trivial ?_ ?_ ?_ ?_ ?_ ?_ ?_ (fun hf => by rw [h2] at hf; cases hf) (fun _ s' v9 N' hN g2 g9 g9' => ?_)
            case refine_8 =>
              have t1 := take_len nV N'
              have t2 := take_len tv (List.replicate more.toNat oneT)
              rw [List.length_replicate] at t2
              rw [show digs rules = N' by rw [hN]; rfl] at e3 e5 ⊢
              simp only [vmr, vmw, vmp, vza, ↓reduceIte, Nat.reduceBEq, Nat.reduceLT, Nat.reduceAdd, Nat.reduceEqDiff, reduceCtorEq, vmt, vzb, vzc, vlen, vleaf, velems, oks, vst, vmd, ty, Nat.reduceLeDiff, Nat.reduceMul, Nat.reduceSub, vzr, m313, g2, g9, g9', q4, q5, e2, e3, e4, e5, t1, t2, room1, room2, List.length_replicate, List.map_cons, List.map_nil]
            all_goals simp only [vmr, vmw, vmp, vza, ↓reduceIte, Nat.reduceBEq, Nat.reduceLT, Nat.reduceAdd, Nat.reduceEqDiff, reduceCtorEq, vmt, vzb, vzc, vlen, vleaf, velems, oks, vst, vmd, ty, Nat.reduceLeDiff, Nat.reduceMul, Nat.reduceSub, m313, Prot.cs]
    · have d : (checkF p != 0) = true := by simpa using h0
      refine ⟨.nilS, checkF p, by simp [callT', h0, imm, can], by simp [callT', h0], rfl, ?_⟩
      refine s313 hU313 1 (by simp) rfl ?_
      simp only [c313, Tryd.f13, gets, sub]
      simp only [vmr, vmw, vmp, vza, ↓reduceIte, Nat.reduceBEq, Nat.reduceLT, Nat.reduceAdd, Nat.reduceEqDiff, reduceCtorEq, vmt, vzb, vzc, vlen, vleaf, velems, oks, vst, vmd, ty, Nat.reduceLeDiff, Nat.reduceMul, Nat.reduceSub, vzr, m313, e1, d]
  obtain ⟨v, e, hv, he, hpv, hs⟩ := key
  have := sound_imm hs (by simp only [pureR, pureRL, hpv, Bool.and_self])
  rw [imm_tup, hv, he] at this
  exact this
end Go.Vi
