/-
  The law ApplyTo.
-/
import Derived.Test.YtpibnnopnhmijaaGreatDoorRE
set_option linter.unusedSimpArgs false
set_option linter.unusedVariables false
set_option maxRecDepth 100000
set_option maxHeartbeats 1000000
namespace Go.Vi
open Go Go.Proofs

mutual
theorem lmT_sz : ∀ (t : Tm) (most n : Int), 0 ≤ n → n + 1 ≤ most → lmT most n t ≤ most → lmT most n t = n + szt t
  | .mk k s c, most, n, h0, h1, h => by
    simp only [lmT] at h ⊢
    have := lmL_sz c (most - (n + 1)) 0 (by omega) (by omega) (by omega)
    rw [this]
    simp only [szt]
    omega
theorem lmL_sz : ∀ (l : List Tm) (most n : Int), 0 ≤ most → 0 ≤ n → lmL most n l ≤ most → lmL most n l = n + szs l
  | [], most, n, h0, h1, h => by simp only [lmL, szs]; omega
  | t :: r, most, n, h0, h1, h => by
    simp only [lmL] at h ⊢
    by_cases q : n + 1 > most
    · rw [if_pos q] at h; omega
    · rw [if_neg q] at h ⊢
      obtain ⟨b1, b2⟩ := szT_le t most n h1 (by omega)
      obtain ⟨b3, b4⟩ := szL_le r most (lmT most n t) h0 (by omega)
      rw [lmL_sz r most _ h0 (by omega) h, lmT_sz t most n h1 (by omega) (by omega)]
      simp only [szs]
      omega
end
theorem few_sz : ∀ (l : List Bn) (most n : Int), 0 ≤ most → 0 ≤ n → fewL most n l ≤ most → n ≤ fewL most n l ∧ ∀ b ∈ l, (szs b.e : Int) ≤ most
  | [], most, n, h0, h1, h => ⟨Int.le_refl _, fun b hb => (by cases hb)⟩
  | b :: r, most, n, h0, h1, h => by
    simp only [fewL] at h ⊢
    by_cases q : n > most
    · rw [if_pos q] at h; omega
    · rw [if_neg q] at h ⊢
      obtain ⟨b1, b2⟩ := szL_le b.e (most - n) 0 (by omega) (by omega)
      obtain ⟨h2, h3⟩ := few_sz r most (n + lmL (most - n) 0 b.e) h0 (by omega) h
      refine ⟨by omega, fun c hc => ?_⟩
      rcases List.mem_cons.1 hc with rfl | hc
      · have := lmL_sz c.e (most - n) 0 (by omega) (by omega) (by omega)
        omega
      · exact h3 c hc
/-- No text of the arguments is longer than memory. -/
def argB (l : List Bn) : Prop := ∀ b ∈ l, b.x.length ≤ 1000000000000000 ∧ txs b.e
theorem bns_of {l : List Bn} {most : Int} (ha : argB l) (hm : 0 ≤ most) (hM : most ≤ 1000) (h : fewL most l.length l ≤ most) : bnsOk l := by
  obtain ⟨h1, h2⟩ := few_sz l most l.length hm (by omega) h
  exact ⟨by omega, fun b hb => ⟨(ha b hb).1, by have := h2 b hb; omega, (ha b hb).2⟩⟩
end Go.Vi
set_option maxRecDepth 100000
set_option maxHeartbeats 1000000
namespace Go.Vi
open Go Go.Proofs

abbrev bnv (x : List UInt8) (e : List Tm) : V := .agg [.str x, Ts e]
theorem can_bnv (x : List UInt8) (e : List Tm) : can (bnv x e) = bnv x e := by show V.agg [.str x, can (Ts e)] = _; rw [can_Ts]
theorem bnv_inj {a b : Bn} (h : bnv a.x a.e = bnv b.x b.e) : a = b := Bn.v_inj a b h
theorem bn_get {a : List Bn} {i : Nat} {b : Bn} (h : a[i]? = some b) : (a.map Bn.v)[i]? = some (bnv b.x b.e) := by rw [List.getElem?_map, h, Option.map_some, Bn.v]
def alB1 (p q : Bn) : Bool := p.x == q.x && eqB p.e q.e
def alB : List Bn → List Bn → Bool
  | [], [] => true
  | p :: r, q :: t => alB1 p q && alB r t
  | _, _ => false
theorem w46 (p q : Bn) (h : szs p.e ≤ 1000000) : SoundPure Tryz.prog 47 [bnv p.x p.e, bnv q.x q.e] (.ret (.bool (alB1 p q))) := by
  refine s746 (H := [(23, F312)]) (sound_cons F312_sound sound_nil) 1 (by simp) rfl ?_
  simp only [c746, Tryz.f47, gets, sub]
  have e := F312_eq (a := p.e) (b := q.e) h
  unfold alB1
  cases hq : p.x == q.x with
  | true => simp only [vmr, vmw, vmp, vza, ↓reduceIte, Nat.reduceBEq, Nat.reduceLT, Nat.reduceAdd, Nat.reduceEqDiff, reduceCtorEq, vmt, vzb, vzc, vlen, vleaf, velems, oks, vst, vmd, ty, Nat.reduceLeDiff, Nat.reduceMul, Nat.reduceSub, vzr, m746, strOp, hq, e]
  | false => simp only [vmr, vmw, vmp, vza, ↓reduceIte, Nat.reduceBEq, Nat.reduceLT, Nat.reduceAdd, Nat.reduceEqDiff, reduceCtorEq, vmt, vzb, vzc, vlen, vleaf, velems, oks, vst, vmd, ty, Nat.reduceLeDiff, Nat.reduceMul, Nat.reduceSub, vzr, m746, strOp, hq]
noncomputable def F46 : List V → Option V := hF (α := Bn × Bn) (fun p => [bnv p.1.x p.1.e, bnv p.2.x p.2.e]) (fun p => szs p.1.e ≤ 1000000) (fun p => .bool (alB1 p.1 p.2))
theorem F46_eq {p q : Bn} (h : szs p.e ≤ 1000000) : F46 [bnv p.x p.e, bnv q.x q.e] = some (.bool (alB1 p q)) :=
  hF_eq (a := (p, q)) (two_inj (fun _ _ => bnv_inj) (fun _ _ => bnv_inj)) (by simp only [cans, can_bnv]) h
theorem F46_sound : ∀ args v, F46 args = some v → SoundPure Tryz.prog 47 args (.ret v) := hF_sound fun p hp => w46 p.1 p.2 hp
abbrev fn46 : V := .fn (.func 47) [] []
def P745 (n : Nat) (v : V) (r : Option (Ex × St)) : Prop := Fin (M745 (hand [(47, F46)]) n) [.tmp 6] r = some (.ret v)
theorem l745 {n k v} (a b : List Bn) (ha : a.length ≤ 1000000) (hb : ∀ p ∈ a, szs p.e ≤ 1000000) : ∀ r t i n' s, a.drop i = r → b.drop i = t → r.length = t.length → r.length < n' → tget s.τ 1 = Bs b → tget s.τ 2 = fn46 → tget s.τ 15 = Bs a → tget s.τ 16 = I a.length → tget s.τ 17 = I (i : Nat) →
    V.bool (alB r t) = v → (∀ s', V.bool true = v → P745 n v (X (M745 (hand [(47, F46)]) n) (.exit 0) k s')) →
    P745 n v (L (M745 (hand [(47, F46)]) n) (sub [1, 1, 0, 1, 0, 0] c745) n' k s)
  | [], [], i, n' + 1, s, hi, hj, hl, hn, h1, h2, h15, h16, h17, hv, hx => by
    have hc := inlt (drop_nil' hi)
    rw [L_succ]
    simp only [vmr, vmw, vmp, vza, ↓reduceIte, Nat.reduceBEq, Nat.reduceLT, Nat.reduceAdd, Nat.reduceEqDiff, reduceCtorEq, vmt, vzb, vzc, vlen, vleaf, velems, oks, vst, vmd, ty, Nat.reduceLeDiff, Nat.reduceMul, Nat.reduceSub, c745, Tryz.f46, m745, h15, h16, h17, hc]
    exact hx _ hv
  | p :: r, q :: t, i, n' + 1, s, hi, hj, hl, hn, h1, h2, h15, h16, h17, hv, hx => by
    obtain ⟨g1, g2, g3⟩ := drop_cons hi
    obtain ⟨g4, g5, g6⟩ := drop_cons hj
    have hcl := ilt g3
    have ga := bn_get g1
    have gb := bn_get g4
    have w4 := wsuc g3 (by omega)
    have e := F46_eq (p := p) (q := q) (hb p (List.mem_of_getElem? g1))
    have ih := fun s => l745 (n := n) (k := k) (v := v) a b ha hb r t (i + 1) n' s g2 g5 (by simpa using hl) (by simp at hn; omega)
    simp only [sub, c745, Tryz.f46, gets] at ih
    rw [L_succ]
    rw [alB] at hv
    cases hq : alB1 p q with
    | true =>
      rw [hq] at e hv
      simp only [vmr, vmw, vmp, vza, ↓reduceIte, Nat.reduceBEq, Nat.reduceLT, Nat.reduceAdd, Nat.reduceEqDiff, reduceCtorEq, vmt, vzb, vzc, vlen, vleaf, velems, oks, vst, vmd, ty, Nat.reduceLeDiff, Nat.reduceMul, Nat.reduceSub, c745, Tryz.f46, m745, h1, h2, h15, h16, h17, hcl, ga, gb, w4, e]
      refine ih _ ?_ ?_ ?_ ?_ ?_ hv hx
      all_goals simp only [vmr, vmw, vmp, vza, ↓reduceIte, Nat.reduceBEq, Nat.reduceLT, Nat.reduceAdd, Nat.reduceEqDiff, reduceCtorEq, vmt, vzb, vzc, vlen, vleaf, velems, oks, vst, vmd, ty, Nat.reduceLeDiff, Nat.reduceMul, Nat.reduceSub, m745, h1, h2, h15, h16]
    | false =>
      rw [hq] at e hv
      rw [← hv]
      simp only [vmr, vmw, vmp, vza, ↓reduceIte, Nat.reduceBEq, Nat.reduceLT, Nat.reduceAdd, Nat.reduceEqDiff, reduceCtorEq, vmt, vzb, vzc, vlen, vleaf, velems, oks, vst, vmd, ty, Nat.reduceLeDiff, Nat.reduceMul, Nat.reduceSub, c745, Tryz.f46, m745, h1, h2, h15, h16, h17, hcl, ga, gb, w4, e]
      unfold P745
      simp only [vmr, vmw, vmp, vza, ↓reduceIte, Nat.reduceBEq, Nat.reduceLT, Nat.reduceAdd, Nat.reduceEqDiff, reduceCtorEq, vmt, vzb, vzc, vlen, vleaf, velems, oks, vst, vmd, ty, Nat.reduceLeDiff, Nat.reduceMul, Nat.reduceSub, vzr, m745]
theorem alB_len : ∀ {a b : List Bn}, a.length ≠ b.length → alB a b = false
  | [], [], h => absurd rfl h
  | [], _ :: _, _ => rfl
  | _ :: _, [], _ => rfl
  | p :: r, q :: t, h => by rw [alB, alB_len (by simpa using h), Bool.and_false]
theorem w45 (a b : List Bn) (ha : a.length ≤ 1000000) (hb : ∀ p ∈ a, szs p.e ≤ 1000000) : SoundPure Tryz.prog 46 [Bs a, Bs b, fn46] (.ret (.bool (alB a b))) := by
  refine s745 (H := [(47, F46)]) (sound_cons F46_sound sound_nil) (a.length + 1) (by simp) rfl ?_
  by_cases hl : a.length = b.length
  · have q : ((a.length : Int) != (b.length : Int)) = false := by simp [hl]
    show P745 _ _ _
    have a1 := fun k s => @l745 (a.length + 1) k (.bool (alB a b)) a b ha hb a b 0 (a.length + 1) s rfl rfl hl (by omega)
    simp only [c745, Tryz.f46, gets, sub] at a1 ⊢
    simp only [vmr, vmw, vmp, vza, ↓reduceIte, Nat.reduceBEq, Nat.reduceLT, Nat.reduceAdd, Nat.reduceEqDiff, reduceCtorEq, vmt, vzb, vzc, vlen, vleaf, velems, oks, vst, vmd, ty, Nat.reduceLeDiff, Nat.reduceMul, Nat.reduceSub, m745, q]
    refine a1 _ _ ?_ ?_ ?_ ?_ ?_ (by first | trivial | rfl) (fun s' e => ?_)
    case refine_6 =>
      simp only [vmr, vmw, vmp, vza, ↓reduceIte, Nat.reduceBEq, Nat.reduceLT, Nat.reduceAdd, Nat.reduceEqDiff, reduceCtorEq, vmt, vzb, vzc, vlen, vleaf, velems, oks, vst, vmd, ty, Nat.reduceLeDiff, Nat.reduceMul, Nat.reduceSub, m745]
      unfold P745
      simp only [vmr, vmw, vmp, vza, ↓reduceIte, Nat.reduceBEq, Nat.reduceLT, Nat.reduceAdd, Nat.reduceEqDiff, reduceCtorEq, vmt, vzb, vzc, vlen, vleaf, velems, oks, vst, vmd, ty, Nat.reduceLeDiff, Nat.reduceMul, Nat.reduceSub, vzr, m745, e]
    all_goals simp only [vmr, vmw, vmp, vza, ↓reduceIte, Nat.reduceBEq, Nat.reduceLT, Nat.reduceAdd, Nat.reduceEqDiff, reduceCtorEq, vmt, vzb, vzc, vlen, vleaf, velems, oks, vst, vmd, ty, Nat.reduceLeDiff, Nat.reduceMul, Nat.reduceSub, m745]
  · have q : ((a.length : Int) != (b.length : Int)) = true := by simp; omega
    rw [alB_len hl]
    simp only [c745, Tryz.f46, gets, sub]
    simp only [vmr, vmw, vmp, vza, ↓reduceIte, Nat.reduceBEq, Nat.reduceLT, Nat.reduceAdd, Nat.reduceEqDiff, reduceCtorEq, vmt, vzb, vzc, vlen, vleaf, velems, oks, vst, vmd, ty, Nat.reduceLeDiff, Nat.reduceMul, Nat.reduceSub, vzr, m745, q]
noncomputable def F45 : List V → Option V := hF (α := List Bn × List Bn) (fun p => [Bs p.1, Bs p.2, fn46]) (fun p => p.1.length ≤ 1000000 ∧ ∀ q ∈ p.1, szs q.e ≤ 1000000) (fun p => .bool (alB p.1 p.2))
theorem F45_eq {a b : List Bn} (ha : a.length ≤ 1000000) (hb : ∀ p ∈ a, szs p.e ≤ 1000000) : F45 [Bs a, Bs b, fn46] = some (.bool (alB a b)) :=
  hF_eq (a := (a, b)) (fun a b h => by
    injection h with h1 h2
    injection h2 with h2
    exact Prod.ext (Bs_inj h1) (Bs_inj h2)) (by simp only [cans, can_Bs]; rfl) ⟨ha, hb⟩
theorem F45_sound : ∀ args v, F45 args = some v → SoundPure Tryz.prog 46 args (.ret v) := hF_sound fun p hp => w45 p.1 p.2 hp.1 hp.2
theorem w20 (a b : List Bn) (ha : a.length ≤ 1000000) (hb : ∀ p ∈ a, szs p.e ≤ 1000000) : SoundPure Tryz.prog 18 [Bs a, Bs b] (.ret (.bool (alB a b))) := by
  refine s720 (H := [(46, F45)]) (sound_cons F45_sound sound_nil) 1 (by simp) rfl ?_
  simp only [c720, Tryz.f18, gets, sub]
  have e := F45_eq (b := b) ha hb
  simp only [vmr, vmw, vmp, vza, ↓reduceIte, Nat.reduceBEq, Nat.reduceLT, Nat.reduceAdd, Nat.reduceEqDiff, reduceCtorEq, vmt, vzb, vzc, vlen, vleaf, velems, oks, vst, vmd, ty, Nat.reduceLeDiff, Nat.reduceMul, Nat.reduceSub, vzr, m720, e]
noncomputable def F20 : List V → Option V := hF (α := List Bn × List Bn) (fun p => [Bs p.1, Bs p.2]) (fun p => p.1.length ≤ 1000000 ∧ ∀ q ∈ p.1, szs q.e ≤ 1000000) (fun p => .bool (alB p.1 p.2))
theorem F20_eq {a b : List Bn} (ha : a.length ≤ 1000000) (hb : ∀ p ∈ a, szs p.e ≤ 1000000) : F20 [Bs a, Bs b] = some (.bool (alB a b)) :=
  hF_eq (a := (a, b)) (two_inj (fun _ _ => Bs_inj) (fun _ _ => Bs_inj)) (by simp only [cans, can_Bs]) ⟨ha, hb⟩
theorem F20_sound : ∀ args v, F20 args = some v → SoundPure Tryz.prog 18 args (.ret v) := hF_sound fun p hp => w20 p.1 p.2 hp.1 hp.2
theorem alB_self : ∀ a : List Bn, alB a a = true
  | [] => rfl
  | p :: r => by rw [alB, alB_self r, alB1, eqB_self]; simp
/-! ### match.Find -/
theorem w72 (p : Bn) (x : List UInt8) : SoundPure Tryz.prog 72 [bnv p.x p.e, .iptr [.str x]] (.ret (.bool (p.x == x))) := by
  refine s772 (H := []) sound_nil 1 (by simp) rfl ?_
  simp only [c772, Tryz.f72, gets, sub]
  simp only [vmr, vmw, vmp, vza, ↓reduceIte, Nat.reduceBEq, Nat.reduceLT, Nat.reduceAdd, Nat.reduceEqDiff, reduceCtorEq, vmt, vzb, vzc, vlen, vleaf, velems, oks, vst, vmd, ty, Nat.reduceLeDiff, Nat.reduceMul, Nat.reduceSub, vzr, m772, strOp]
noncomputable def F72 : List V → Option V := hF (α := Bn × List UInt8) (fun p => [bnv p.1.x p.1.e, .iptr [.str p.2]]) (fun _ => True) (fun p => .bool (p.1.x == p.2))
theorem ipS_inj {a b : List UInt8} (h : V.iptr [.str a] = V.iptr [.str b]) : a = b := by
  injection h with h
  injection h with h
  exact Str_inj h
theorem F72_eq (p : Bn) (x : List UInt8) : F72 [bnv p.x p.e, .iptr [.str x]] = some (.bool (p.x == x)) :=
  hF_eq (a := (p, x)) (two_inj (fun _ _ => bnv_inj) (fun _ _ => ipS_inj)) (by simp only [cans, can_bnv]; rfl) trivial
theorem F72_sound : ∀ args v, F72 args = some v → SoundPure Tryz.prog 72 args (.ret v) := hF_sound fun p _ => w72 p.1 p.2
/-- Where the first of this name stands. -/
def idxB (x : List UInt8) : List Bn → Nat → Int
  | [], _ => -1
  | b :: r, i => if b.x == x then (i : Int) else idxB x r (i + 1)
abbrev fn72 (x : List UInt8) : V := .fn (.func 72) [] [.iptr [.str x]]
def P771 (n : Nat) (v : V) (r : Option (Ex × St)) : Prop := Fin (M771 (hand [(72, F72)]) n) [.tmp 4] r = some (.ret v)
theorem l771 {n k v} {x : List UInt8} (a : List Bn) (ha : a.length ≤ 1000000) : ∀ r i n' s, a.drop i = r → r.length < n' → tget s.τ 0 = Bs a → tget s.τ 1 = fn72 x → tget s.τ 7 = I a.length → tget s.τ 8 = I (i : Nat) →
    I (idxB x r i) = v → (∀ s', I (-1) = v → P771 n v (X (M771 (hand [(72, F72)]) n) (.exit 0) k s')) →
    P771 n v (L (M771 (hand [(72, F72)]) n) (sub [1, 0, 1, 0, 0] c771) n' k s)
  | [], i, n' + 1, s, hi, hn, h0, h1, h7, h8, hv, hx => by
    have hc := inlt (drop_nil' hi)
    rw [L_succ]
    simp only [vmr, vmw, vmp, vza, ↓reduceIte, Nat.reduceBEq, Nat.reduceLT, Nat.reduceAdd, Nat.reduceEqDiff, reduceCtorEq, vmt, vzb, vzc, vlen, vleaf, velems, oks, vst, vmd, ty, Nat.reduceLeDiff, Nat.reduceMul, Nat.reduceSub, c771, Tryz.f71, m771, h0, h1, h7, h8, hc]
    exact hx _ hv
  | p :: r, i, n' + 1, s, hi, hn, h0, h1, h7, h8, hv, hx => by
    obtain ⟨g1, g2, g3⟩ := drop_cons hi
    have hcl := ilt g3
    have ga := bn_get g1
    have w4 := wsuc g3 (by omega)
    have e := F72_eq p x
    have ih := fun s => l771 (n := n) (k := k) (v := v) (x := x) a ha r (i + 1) n' s g2 (by simp at hn; omega)
    simp only [sub, c771, Tryz.f71, gets] at ih
    rw [L_succ]
    rw [idxB] at hv
    cases hq : p.x == x with
    | true =>
      rw [hq] at e
      rw [hq, if_pos rfl] at hv
      rw [← hv]
      simp only [vmr, vmw, vmp, vza, ↓reduceIte, Nat.reduceBEq, Nat.reduceLT, Nat.reduceAdd, Nat.reduceEqDiff, reduceCtorEq, vmt, vzb, vzc, vlen, vleaf, velems, oks, vst, vmd, ty, Nat.reduceLeDiff, Nat.reduceMul, Nat.reduceSub, c771, Tryz.f71, m771, h0, h1, h7, h8, hcl, ga, w4, e]
      unfold P771
      simp only [vmr, vmw, vmp, vza, ↓reduceIte, Nat.reduceBEq, Nat.reduceLT, Nat.reduceAdd, Nat.reduceEqDiff, reduceCtorEq, vmt, vzb, vzc, vlen, vleaf, velems, oks, vst, vmd, ty, Nat.reduceLeDiff, Nat.reduceMul, Nat.reduceSub, vzr, m771]
    | false =>
      rw [hq] at e
      rw [hq, if_neg (by simp)] at hv
      simp only [vmr, vmw, vmp, vza, ↓reduceIte, Nat.reduceBEq, Nat.reduceLT, Nat.reduceAdd, Nat.reduceEqDiff, reduceCtorEq, vmt, vzb, vzc, vlen, vleaf, velems, oks, vst, vmd, ty, Nat.reduceLeDiff, Nat.reduceMul, Nat.reduceSub, c771, Tryz.f71, m771, h0, h1, h7, h8, hcl, ga, w4, e]
      refine ih _ ?_ ?_ ?_ ?_ hv hx
      all_goals simp only [vmr, vmw, vmp, vza, ↓reduceIte, Nat.reduceBEq, Nat.reduceLT, Nat.reduceAdd, Nat.reduceEqDiff, reduceCtorEq, vmt, vzb, vzc, vlen, vleaf, velems, oks, vst, vmd, ty, Nat.reduceLeDiff, Nat.reduceMul, Nat.reduceSub, m771, h0, h1, h7]
theorem w71 (a : List Bn) (x : List UInt8) (ha : a.length ≤ 1000000) : SoundPure Tryz.prog 71 [Bs a, fn72 x] (.ret (I (idxB x a 0))) := by
  refine s771 (H := [(72, F72)]) (sound_cons F72_sound sound_nil) (a.length + 1) (by simp) rfl ?_
  show P771 _ _ _
  have a1 := fun k s => @l771 (a.length + 1) k (I (idxB x a 0)) x a ha a 0 (a.length + 1) s rfl (by omega)
  simp only [c771, Tryz.f71, gets, sub] at a1 ⊢
  simp only [vmr, vmw, vmp, vza, ↓reduceIte, Nat.reduceBEq, Nat.reduceLT, Nat.reduceAdd, Nat.reduceEqDiff, reduceCtorEq, vmt, vzb, vzc, vlen, vleaf, velems, oks, vst, vmd, ty, Nat.reduceLeDiff, Nat.reduceMul, Nat.reduceSub, m771]
  refine a1 _ _ ?_ ?_ ?_ ?_ (by first | trivial | rfl) (fun s' e => ?_)
  case refine_5 =>
    simp only [vmr, vmw, vmp, vza, ↓reduceIte, Nat.reduceBEq, Nat.reduceLT, Nat.reduceAdd, Nat.reduceEqDiff, reduceCtorEq, vmt, vzb, vzc, vlen, vleaf, velems, oks, vst, vmd, ty, Nat.reduceLeDiff, Nat.reduceMul, Nat.reduceSub, m771]
    unfold P771
    simp only [vmr, vmw, vmp, vza, ↓reduceIte, Nat.reduceBEq, Nat.reduceLT, Nat.reduceAdd, Nat.reduceEqDiff, reduceCtorEq, vmt, vzb, vzc, vlen, vleaf, velems, oks, vst, vmd, ty, Nat.reduceLeDiff, Nat.reduceMul, Nat.reduceSub, vzr, m771, e]
  all_goals simp only [vmr, vmw, vmp, vza, ↓reduceIte, Nat.reduceBEq, Nat.reduceLT, Nat.reduceAdd, Nat.reduceEqDiff, reduceCtorEq, vmt, vzb, vzc, vlen, vleaf, velems, oks, vst, vmd, ty, Nat.reduceLeDiff, Nat.reduceMul, Nat.reduceSub, m771]
theorem fn72_inj {a b : List UInt8} (h : fn72 a = fn72 b) : a = b := by
  injection h with _ _ h
  injection h with h
  exact ipS_inj h
noncomputable def F71 : List V → Option V := hF (α := List Bn × List UInt8) (fun p => [Bs p.1, fn72 p.2]) (fun p => p.1.length ≤ 1000000) (fun p => I (idxB p.2 p.1 0))
theorem F71_eq {a : List Bn} {x : List UInt8} (ha : a.length ≤ 1000000) : F71 [Bs a, fn72 x] = some (I (idxB x a 0)) :=
  hF_eq (a := (a, x)) (two_inj (fun _ _ => Bs_inj) (fun _ _ => fn72_inj)) (by simp only [cans, can_Bs]; rfl) ha
theorem F71_sound : ∀ args v, F71 args = some v → SoundPure Tryz.prog 71 args (.ret v) := hF_sound fun p hp => w71 p.1 p.2 hp
theorem idx_find (x : List UInt8) : ∀ (l : List Bn) (i : Nat), (∃ j b, l[j]? = some b ∧ b.x = x ∧ findB x l = some b.e ∧ idxB x l i = ((i + j : Nat) : Int)) ∨ (findB x l = none ∧ idxB x l i = -1)
  | [], i => .inr ⟨rfl, rfl⟩
  | b :: r, i => by
    simp only [findB, idxB]
    cases h : b.x == x with
    | true => exact .inl ⟨0, b, rfl, by simpa using h, rfl, rfl⟩
    | false =>
      rw [if_neg (by simp), if_neg (by simp)]
      rcases idx_find x r (i + 1) with ⟨j, c, h1, h2, h3, h4⟩ | ⟨h1, h2⟩
      · exact .inl ⟨j + 1, c, h1, h2, h3, by rw [h4]; omega⟩
      · exact .inr ⟨h1, h2⟩
noncomputable abbrev T747 : List (FuncId × (List V → Option V)) := [(42, Fcopy), (71, F71)]
theorem h747 : SoundHand Tryz.prog (hand T747) := sound_cons F48_sound (sound_cons F71_sound sound_nil)
theorem w47 (a : List Bn) (x : List UInt8) (h : bnsOk a) : SoundPure Tryz.prog 41 [Bs a, .str x] (.ret (valR (findB x a))) := by
  refine s747 h747 1 (by simp) (by cases findB x a <;> rfl) ?_
  simp only [c747, Tryz.f41, gets, sub]
  have e := F71_eq (x := x) h.1
  rcases idx_find x a 0 with ⟨j, b, h1, h2, h3, h4⟩ | ⟨h3, h4⟩
  · rw [h4, Nat.zero_add] at e
    rw [h3]
    have ga := bn_get h1
    have q : (((j : Nat) : Int) < 0) = False := eq_false (by omega)
    have e2 := Fcopy_eq (a := b.e) (h.2 b (List.mem_of_getElem? h1)).2.1
    simp only [vmr, vmw, vmp, vza, ↓reduceIte, Nat.reduceBEq, Nat.reduceLT, Nat.reduceAdd, Nat.reduceEqDiff, reduceCtorEq, vmt, vzb, vzc, vlen, vleaf, velems, oks, vst, vmd, ty, Nat.reduceLeDiff, Nat.reduceMul, Nat.reduceSub, vzr, m747, e, q, ga, e2, valR]
  · rw [h4] at e
    rw [h3]
    simp only [vmr, vmw, vmp, vza, ↓reduceIte, Nat.reduceBEq, Nat.reduceLT, Nat.reduceAdd, Nat.reduceEqDiff, reduceCtorEq, vmt, vzb, vzc, vlen, vleaf, velems, oks, vst, vmd, ty, Nat.reduceLeDiff, Nat.reduceMul, Nat.reduceSub, vzr, m747, e, valR, show ((-1 : Int) < 0) = True from eq_true (by decide)]
noncomputable def F47 : List V → Option V := hF (α := List Bn × List UInt8) (fun p => [Bs p.1, .str p.2]) (fun p => bnsOk p.1) (fun p => findI (findB p.2 p.1))
theorem F47_eq {a : List Bn} {x : List UInt8} (h : bnsOk a) : F47 [Bs a, .str x] = some (findI (findB x a)) := hF_eq (a := (a, x)) (two_inj (fun _ _ => Bs_inj) (fun _ _ => Str_inj)) (by simp only [cans, can_Bs, canStr]) h
theorem can_valR (o : Option (List Tm)) : can (imm (valR o)) = findI o := by
  cases o with
  | none => rfl
  | some e => show V.tup [can (imm (Ts e)), .bool true] = _; rw [show imm (Ts e) = Ts e from by simp only [imm], can_Ts]; rfl
theorem F47_sound : ∀ args v, F47 args = some v → SoundPure Tryz.prog 41 args (.ret v) := hF_sound fun p hp => by
  have := sound_imm (w47 p.1 p.2 hp) (by cases findB p.2 p.1 <;> rfl)
  rw [can_valR] at this
  exact this
end Go.Vi
set_option maxRecDepth 100000
set_option maxHeartbeats 1000000
namespace Go.Vi
open Go Go.Proofs

def toOk (b : List Bn) (p : Bn) : Bool := (toL p.e b).2 == 0
def unB (b : List Bn) (p : Bn) : Bn := ⟨p.x, unL b p.e⟩
def comR (a b : List Bn) : List Bn := b.filter fun q => !(findB q.x a).isSome
def comL (a b : List Bn) : List Bn := a.map (unB b) ++ comR a b
def comB (a b : List Bn) : List Bn × Int := if chkB a ≠ 0 then ([], chkB a) else if chkB b ≠ 0 then ([], chkB b) else if a.all (toOk b) = false then ([], 7) else if (comL a b).length > 4000 then ([], 5) else (comL a b, 0)
theorem toL_bad {e b} (h : (toL e b).2 ≠ 0) : toL e b = ([], 7) := by
  unfold toL at *
  split
  · rfl
  · rename_i q; rw [if_neg q] at h; exact absurd rfl h
theorem toL_good {e b} (h : (toL e b).2 = 0) : toL e b = (unL b e, 0) := by
  unfold toL at *
  split
  · rename_i q; rw [if_pos q] at h; simp at h
  · rfl
theorem room59 {n : Nat} (h : n ≤ 2000000) : roomOk Tryz.prog 57 n = true := by simp [roomOk, ty, cellsV, leafV]; omega
theorem fits59 (x : List UInt8) (e : List Tm) : fitsE Tryz.prog 57 (bnv x e) = true := by simp [fitsE, ty, leafV]
noncomputable abbrev T721 : List (FuncId × (List V → Option V)) := [(39, Fchk), (40, Fto0), (41, F47), (42, Fcopy)]
theorem h721 : SoundHand Tryz.prog (hand T721) := sound_cons F14_sound <| sound_cons F30_sound <| sound_cons F47_sound <| sound_cons F48_sound sound_nil
def A21 (s : St) (d : List Bn) : Prop := ∃ v8 sz, (sz = 2 ∨ sz = 0) ∧ tget s.τ 8 = .ref ⟨0, 8, 0⟩ v8 0 d.length ∧ lget s.L (8, 0) = some (v8, .arr sz (d.map Bn.v))
theorem A21.of {s d} (h : tget s.τ 8 = .ref ⟨0, 8, 0⟩ (ver s (8, 0)) 0 d.length) (h' : lget s.L (8, 0) = some (ver s (8, 0), .arr 2 (d.map Bn.v))) : A21 s d := ⟨_, 2, .inl rfl, h, h'⟩
def P721 (n : Nat) (v : V) (r : Option (Ex × St)) : Prop := Fin (M721 (hand T721) n) [.tmp 4, .tmp 5] r = some (.ret v)
theorem l721a {n k} {P : Option (Ex × St) → Prop} (a b : List Bn) (ha : bnsOk a) (hb : bnsOk b) (hd : nds b) : ∀ r i d n' s, a.drop i = r → r.length < n' → d.length + r.length ≤ 1000000 → A21 s d → tget s.τ 0 = Bs a → tget s.τ 1 = Bs b → tget s.τ 27 = Bs a → tget s.τ 28 = I a.length → tget s.τ 29 = I (i : Nat) →
    (∀ s', r.all (toOk b) = true → A21 s' (d ++ r.map (unB b)) → tget s'.τ 0 = Bs a → tget s'.τ 1 = Bs b → P (X (M721 (hand T721) n) (.exit 0) k s')) →
    (∀ s', r.all (toOk b) = false → tget s'.τ 4 = .nilS → tget s'.τ 5 = I 7 → P (some (.ret, s'))) →
    P (L (M721 (hand T721) n) (sub [1, 1, 1, 1, 0, 1, 0, 0] c721) n' k s)
  | [], i, d, n' + 1, s, hi, hn, hl, ⟨v8, sz, hz, h8, h8'⟩, h0, h1, h27, h28, h29, hq, hf => by
    have hc := inlt (drop_nil' hi)
    rw [L_succ]
    simp only [vmr, vmw, vmp, vza, ↓reduceIte, Nat.reduceBEq, Nat.reduceLT, Nat.reduceAdd, Nat.reduceEqDiff, reduceCtorEq, vmt, vzb, vzc, vlen, vleaf, velems, oks, vst, vmd, ty, Nat.reduceLeDiff, Nat.reduceMul, Nat.reduceSub, c721, Tryz.f16, m721, h27, h28, h29, hc]
    refine hq _ rfl ⟨v8, sz, hz, ?_, ?_⟩ ?_ ?_
    all_goals simp only [vmr, vmw, vmp, vza, ↓reduceIte, Nat.reduceBEq, Nat.reduceLT, Nat.reduceAdd, Nat.reduceEqDiff, reduceCtorEq, vmt, vzb, vzc, vlen, vleaf, velems, oks, vst, vmd, ty, Nat.reduceLeDiff, Nat.reduceMul, Nat.reduceSub, m721, h0, h1, h8, h8', List.map_nil, List.append_nil]
  | p :: r, i, d, n' + 1, s, hi, hn, hl, ⟨v8, sz, hz, h8, h8'⟩, h0, h1, h27, h28, h29, hq, hf => by
    obtain ⟨g1, g2, g3⟩ := drop_cons hi
    have hcl := ilt g3
    have ga := bn_get g1
    have hm := List.mem_of_getElem? g1
    have hz' := eq_true hz
    have w4 := wsuc g3 (by have := ha.1; omega)
    have e1 : Fto0 [Ts p.e, Bs b] = some (.tup [Ts (toL p.e b).1, I (toL p.e b).2]) := Fto0_eq (ha.2 p hm).2.1 (ha.2 p hm).2.2 hb hd
    have ih := fun d s => l721a (n := n) (k := k) (P := P) a b ha hb hd r (i + 1) d n' s g2 (by simp at hn; omega)
    simp only [sub, c721, Tryz.f16, gets] at ih
    rw [L_succ]
    by_cases q : (toL p.e b).2 = 0
    · have ho : toOk b p = true := by simp [toOk, q]
      rw [toL_good q] at e1
      have n0 : ((0 : Int) != 0) = false := rfl
      have r1 := @room59 1 (by omega)
      have r2 := @room59 (d.length + 1) (by simp at hl; omega)
      have f1 := fits59 p.x (unL b p.e)
      rw [List.all_cons, ho, Bool.true_and, List.map_cons, List.append_cons] at hq
      rw [List.all_cons, ho, Bool.true_and] at hf
      simp only [vmr, vmw, vmp, vza, ↓reduceIte, Nat.reduceBEq, Nat.reduceLT, Nat.reduceAdd, Nat.reduceEqDiff, reduceCtorEq, vmt, vzb, vzc, vlen, vleaf, velems, oks, vst, vmd, ty, Nat.reduceLeDiff, Nat.reduceMul, Nat.reduceSub, c721, Tryz.f16, m721, h0, h1, h27, h28, h29, h8, h8', hcl, ga, w4, e1, n0, r1, r2, f1, hz', List.map_cons, List.map_nil]
      refine ih (d ++ [unB b p]) _ (by simp at hl ⊢; omega) (A21.of ?_ ?_) ?_ ?_ ?_ ?_ ?_ hq hf
      all_goals simp only [vmr, vmw, vmp, vza, ↓reduceIte, Nat.reduceBEq, Nat.reduceLT, Nat.reduceAdd, Nat.reduceEqDiff, reduceCtorEq, vmt, vzb, vzc, vlen, vleaf, velems, oks, vst, vmd, ty, Nat.reduceLeDiff, Nat.reduceMul, Nat.reduceSub, m721, ver, h0, h1, h27, h28, List.length_append, List.map_append, List.map_cons, List.map_nil, unB, Bn.v]
    · have ho : toOk b p = false := by simpa [toOk] using q
      rw [toL_bad q] at e1
      have n0 : ((7 : Int) != 0) = true := rfl
      rw [List.all_cons, ho, Bool.false_and] at hf
      simp only [vmr, vmw, vmp, vza, ↓reduceIte, Nat.reduceBEq, Nat.reduceLT, Nat.reduceAdd, Nat.reduceEqDiff, reduceCtorEq, vmt, vzb, vzc, vlen, vleaf, velems, oks, vst, vmd, ty, Nat.reduceLeDiff, Nat.reduceMul, Nat.reduceSub, c721, Tryz.f16, m721, h0, h1, h27, h28, h29, hcl, ga, w4, e1, n0]
      refine hf _ rfl ?_ ?_
      all_goals simp only [vmr, vmw, vmp, vza, ↓reduceIte, Nat.reduceBEq, Nat.reduceLT, Nat.reduceAdd, Nat.reduceEqDiff, reduceCtorEq, vmt, vzb, vzc, vlen, vleaf, velems, oks, vst, vmd, ty, Nat.reduceLeDiff, Nat.reduceMul, Nat.reduceSub, m721]
theorem l721b {n k} {P : Option (Ex × St) → Prop} (a b : List Bn) (ha : bnsOk a) (hb : bnsOk b) : ∀ r i d n' s, b.drop i = r → r.length < n' → d.length + r.length ≤ 2000000 → A21 s d → tget s.τ 0 = Bs a → tget s.τ 51 = Bs b → tget s.τ 52 = I b.length → tget s.τ 53 = I (i : Nat) →
    (∀ s', A21 s' (d ++ comR a r) → P (X (M721 (hand T721) n) (.exit 2) k s')) →
    P (L (M721 (hand T721) n) (sub [1, 1, 1, 1, 1, 0, 1, 0, 0] c721) n' k s)
  | [], i, d, n' + 1, s, hi, hn, hl, ⟨v8, sz, hz, h8, h8'⟩, h0, h51, h52, h53, hq => by
    have hc := inlt (drop_nil' hi)
    rw [L_succ]
    simp only [vmr, vmw, vmp, vza, ↓reduceIte, Nat.reduceBEq, Nat.reduceLT, Nat.reduceAdd, Nat.reduceEqDiff, reduceCtorEq, vmt, vzb, vzc, vlen, vleaf, velems, oks, vst, vmd, ty, Nat.reduceLeDiff, Nat.reduceMul, Nat.reduceSub, c721, Tryz.f16, m721, h51, h52, h53, hc]
    refine hq _ ⟨v8, sz, hz, ?_, ?_⟩
    all_goals simp only [vmr, vmw, vmp, vza, ↓reduceIte, Nat.reduceBEq, Nat.reduceLT, Nat.reduceAdd, Nat.reduceEqDiff, reduceCtorEq, vmt, vzb, vzc, vlen, vleaf, velems, oks, vst, vmd, ty, Nat.reduceLeDiff, Nat.reduceMul, Nat.reduceSub, m721, h8, h8', comR, List.filter_nil, List.append_nil]
  | p :: r, i, d, n' + 1, s, hi, hn, hl, ⟨v8, sz, hz, h8, h8'⟩, h0, h51, h52, h53, hq => by
    obtain ⟨g1, g2, g3⟩ := drop_cons hi
    have hcl := ilt g3
    have ga := bn_get g1
    have hm := List.mem_of_getElem? g1
    have hz' := eq_true hz
    have w4 := wsuc g3 (by have := hb.1; omega)
    have e1 := F47_eq (x := p.x) ha
    have hdw := @d721_21 (hand T721) n
    have ih := fun d s => l721b (n := n) (k := k) (P := P) a b ha hb r (i + 1) d n' s g2 (by simp at hn; omega)
    simp only [sub, c721, Tryz.f16, gets, opsAt] at ih hdw
    rw [L_succ]
    cases hv : findB p.x a with
    | some w =>
      have hr : comR a (p :: r) = comR a r := by simp [comR, hv]
      rw [hr] at hq
      rw [hv] at e1
      simp only [findI] at e1
      simp only [vmr, vmw, vmp, vza, ↓reduceIte, Nat.reduceBEq, Nat.reduceLT, Nat.reduceAdd, Nat.reduceEqDiff, reduceCtorEq, vmt, vzb, vzc, vlen, vleaf, velems, oks, vst, vmd, ty, Nat.reduceLeDiff, Nat.reduceMul, Nat.reduceSub, c721, Tryz.f16, m721, h0, h51, h52, h53, h8, h8', hcl, ga, w4, e1]
      refine ih d _ (by simp at hl; omega) ⟨v8, sz, hz, ?_, ?_⟩ ?_ ?_ ?_ ?_ hq
      all_goals simp only [vmr, vmw, vmp, vza, ↓reduceIte, Nat.reduceBEq, Nat.reduceLT, Nat.reduceAdd, Nat.reduceEqDiff, reduceCtorEq, vmt, vzb, vzc, vlen, vleaf, velems, oks, vst, vmd, ty, Nat.reduceLeDiff, Nat.reduceMul, Nat.reduceSub, m721, h0, h51, h52, h8, h8']
    | none =>
      have hr : comR a (p :: r) = p :: comR a r := by simp [comR, hv]
      rw [hr, List.append_cons] at hq
      rw [hv] at e1
      simp only [findI] at e1
      have e2 := Fcopy_eq (a := p.e) (hb.2 p hm).2.1
      have r1 := @room59 1 (by omega)
      have r2 := @room59 (d.length + 1) (by simp at hl; omega)
      have f1 := fits59 p.x p.e
      simp only [vmr, vmw, vmp, vza, ↓reduceIte, Nat.reduceBEq, Nat.reduceLT, Nat.reduceAdd, Nat.reduceEqDiff, reduceCtorEq, vmt, vzb, vzc, vlen, vleaf, velems, oks, vst, vmd, ty, Nat.reduceLeDiff, Nat.reduceMul, Nat.reduceSub, c721, Tryz.f16, m721, h0, h51, h52, h53, h8, h8', hcl, ga, w4, e1, e2, r1, r2, f1, hz', hdw, List.map_cons, List.map_nil]
      refine ih (d ++ [p]) _ (by simp at hl ⊢; omega) (A21.of ?_ ?_) ?_ ?_ ?_ ?_ hq
      all_goals simp only [vmr, vmw, vmp, vza, ↓reduceIte, Nat.reduceBEq, Nat.reduceLT, Nat.reduceAdd, Nat.reduceEqDiff, reduceCtorEq, vmt, vzb, vzc, vlen, vleaf, velems, oks, vst, vmd, ty, Nat.reduceLeDiff, Nat.reduceMul, Nat.reduceSub, m721, ver, h0, h51, h52, List.length_append, List.map_append, List.map_cons, List.map_nil, Bn.v]
end Go.Vi
set_option maxRecDepth 100000
set_option maxHeartbeats 1000000
namespace Go.Vi
open Go Go.Proofs

theorem imm_bv (b : Bn) : imm b.v = b.v := rfl
theorem pureLB : ∀ l : List Bn, pureRL (l.map Bn.v) = true
  | [] => rfl
  | ⟨x, e⟩ :: r => by simp only [List.map_cons, pureRL, Bn.v, pureR, pureLB r, Bool.and_self]
abbrev comV (p : List Bn × Int) : V := .tup [Bs p.1, I p.2]
theorem can_comO (sz : Nat) (d : List Bn) (k : Int) : can (imm (.tup [.own sz (d.map Bn.v), I k])) = .tup [Bs d, I k] := by
  show V.tup [can (imm (.own sz (d.map Bn.v))), _] = _
  rw [show imm (.own sz (d.map Bn.v)) = V.lst (d.map Bn.v) by simp only [imm, imms_map imm_bv], can_Bs]
  rfl
theorem w21 (a b : List Bn) (ha : bnsOk a) (hb : bnsOk b) : SoundPure Tryz.prog 16 [Bs a, Bs b] (.ret (comV (comB a b))) := by
  have e1 := Fchk_eq ha
  have e2 := Fchk_eq hb
  have n0 : ((0 : Int) != 0) = false := rfl
  unfold comB
  by_cases q1 : chkB a = 0
  case neg =>
    have q1' : (chkB a != 0) = true := by simpa using q1
    rw [if_pos q1]
    have : SoundPure Tryz.prog 16 [Bs a, Bs b] (.ret (.tup [.nilS, I (chkB a)])) := by
      refine s721 h721 1 (by simp) rfl ?_
      simp only [c721, Tryz.f16, gets, sub]
      simp only [vmr, vmw, vmp, vza, ↓reduceIte, Nat.reduceBEq, Nat.reduceLT, Nat.reduceAdd, Nat.reduceEqDiff, reduceCtorEq, vmt, vzb, vzc, vlen, vleaf, velems, oks, vst, vmd, ty, Nat.reduceLeDiff, Nat.reduceMul, Nat.reduceSub, vzr, m721, e1, q1']
    exact sound_imm this rfl
  rw [if_neg (by simp [q1])]
  rw [q1] at e1
  by_cases q2 : chkB b = 0
  case neg =>
    have q2' : (chkB b != 0) = true := by simpa using q2
    rw [if_pos q2]
    have : SoundPure Tryz.prog 16 [Bs a, Bs b] (.ret (.tup [.nilS, I (chkB b)])) := by
      refine s721 h721 1 (by simp) rfl ?_
      simp only [c721, Tryz.f16, gets, sub]
      simp only [vmr, vmw, vmp, vza, ↓reduceIte, Nat.reduceBEq, Nat.reduceLT, Nat.reduceAdd, Nat.reduceEqDiff, reduceCtorEq, vmt, vzb, vzc, vlen, vleaf, velems, oks, vst, vmd, ty, Nat.reduceLeDiff, Nat.reduceMul, Nat.reduceSub, vzr, m721, e1, n0, e2, q2']
    exact sound_imm this rfl
  rw [if_neg (by simp [q2])]
  rw [q2] at e2
  have hd := chkB_nds q2
  have lf : (comR a b).length ≤ b.length := List.length_filter_le ..
  have lc : (comL a b).length = a.length + (comR a b).length := by simp [comL]
  have l1 := ha.1
  have l2 := hb.1
  let Po : Option (Ex × St) → Prop := fun r => ∃ v, pureR v = true ∧ can (imm v) = comV (if a.all (toOk b) = false then ([], 7) else if (comL a b).length > 4000 then ([], 5) else (comL a b, 0)) ∧ P721 (a.length + b.length + 1) v r
  have key : Po (R (M721 (hand T721) (a.length + b.length + 1)) c721 .top ⟨params 0 [Bs a, Bs b], [], fun _ => none, 0⟩) := by
    have a1 := fun k s => @l721a (a.length + b.length + 1) k Po a b ha hb hd a 0 [] (a.length + b.length + 1) s rfl (by omega) (by simpa using l1)
    have a2 := fun k s => @l721b (a.length + b.length + 1) k Po a b ha hb b 0 (a.map (unB b)) (a.length + b.length + 1) s rfl (by omega) (by simp; omega)
    simp only [c721, Tryz.f16, gets, sub] at a1 a2 ⊢
    simp only [vmr, vmw, vmp, vza, ↓reduceIte, Nat.reduceBEq, Nat.reduceLT, Nat.reduceAdd, Nat.reduceEqDiff, reduceCtorEq, vmt, vzb, vzc, vlen, vleaf, velems, oks, vst, vmd, ty, Nat.reduceLeDiff, Nat.reduceMul, Nat.reduceSub, m721, e1, e2, n0]
    refine a1 _ _ ⟨0, 0, .inr rfl, ?_, ?_⟩ ?_ ?_ ?_ ?_ ?_ (fun s' ho hA h0 h1 => ?_) (fun s' ho h4 h5 => ?_)
    case refine_8 =>
      rw [List.nil_append] at hA
      simp only [vmr, vmw, vmp, vza, ↓reduceIte, Nat.reduceBEq, Nat.reduceLT, Nat.reduceAdd, Nat.reduceEqDiff, reduceCtorEq, vmt, vzb, vzc, vlen, vleaf, velems, oks, vst, vmd, ty, Nat.reduceLeDiff, Nat.reduceMul, Nat.reduceSub, m721, h0, h1]
      refine a2 _ _ ?_ ?_ ?_ ?_ ?_ (fun s2 hB => ?_)
      case refine_1 =>
        obtain ⟨v8, sz, hz, h8, h8'⟩ := hA
        refine ⟨v8, sz, hz, ?_, ?_⟩
        all_goals simp only [vmr, vmw, vmp, vza, ↓reduceIte, Nat.reduceBEq, Nat.reduceLT, Nat.reduceAdd, Nat.reduceEqDiff, reduceCtorEq, vmt, vzb, vzc, vlen, vleaf, velems, oks, vst, vmd, ty, Nat.reduceLeDiff, Nat.reduceMul, Nat.reduceSub, m721, h8, h8']
      case refine_6 =>
        change A21 s2 (comL a b) at hB
        obtain ⟨v8, sz, hz, h8, h8'⟩ := hB
        by_cases q : (comL a b).length > 4000
        · have q' : (((comL a b).length : Int) > 4000) = True := eq_true (by omega)
          refine ⟨.tup [.nilS, I 5], rfl, ?_, ?_⟩
          · rw [if_neg (by simp [ho]), if_pos q]; rfl
          · simp only [vmr, vmw, vmp, vza, ↓reduceIte, Nat.reduceBEq, Nat.reduceLT, Nat.reduceAdd, Nat.reduceEqDiff, reduceCtorEq, vmt, vzb, vzc, vlen, vleaf, velems, oks, vst, vmd, ty, Nat.reduceLeDiff, Nat.reduceMul, Nat.reduceSub, m721, h8, h8', q']
            unfold P721
            simp only [vmr, vmw, vmp, vza, ↓reduceIte, Nat.reduceBEq, Nat.reduceLT, Nat.reduceAdd, Nat.reduceEqDiff, reduceCtorEq, vmt, vzb, vzc, vlen, vleaf, velems, oks, vst, vmd, ty, Nat.reduceLeDiff, Nat.reduceMul, Nat.reduceSub, vzr, m721]
        · have q' : (((comL a b).length : Int) > 4000) = False := eq_false (by omega)
          refine ⟨.tup [.own sz ((comL a b).map Bn.v), I 0], by simp only [pureR, pureRL, pureLB, Bool.and_self], ?_, ?_⟩
          · rw [if_neg (by simp [ho]), if_neg q]; exact can_comO ..
          · simp only [vmr, vmw, vmp, vza, ↓reduceIte, Nat.reduceBEq, Nat.reduceLT, Nat.reduceAdd, Nat.reduceEqDiff, reduceCtorEq, vmt, vzb, vzc, vlen, vleaf, velems, oks, vst, vmd, ty, Nat.reduceLeDiff, Nat.reduceMul, Nat.reduceSub, m721, h8, h8', q']
            unfold P721
            simp only [vmr, vmw, vmp, vza, ↓reduceIte, Nat.reduceBEq, Nat.reduceLT, Nat.reduceAdd, Nat.reduceEqDiff, reduceCtorEq, vmt, vzb, vzc, vlen, vleaf, velems, oks, vst, vmd, ty, Nat.reduceLeDiff, Nat.reduceMul, Nat.reduceSub, vzr, m721, h8', take_len]
      all_goals simp only [vmr, vmw, vmp, vza, ↓reduceIte, Nat.reduceBEq, Nat.reduceLT, Nat.reduceAdd, Nat.reduceEqDiff, reduceCtorEq, vmt, vzb, vzc, vlen, vleaf, velems, oks, vst, vmd, ty, Nat.reduceLeDiff, Nat.reduceMul, Nat.reduceSub, m721, h0, h1]
    case refine_9 =>
      refine ⟨.tup [.nilS, I 7], rfl, ?_, ?_⟩
      · rw [if_pos ho]; rfl
      · unfold P721
        simp only [vmr, vmw, vmp, vza, ↓reduceIte, Nat.reduceBEq, Nat.reduceLT, Nat.reduceAdd, Nat.reduceEqDiff, reduceCtorEq, vmt, vzb, vzc, vlen, vleaf, velems, oks, vst, vmd, ty, Nat.reduceLeDiff, Nat.reduceMul, Nat.reduceSub, vzr, m721, h4, h5]
    all_goals simp only [vmr, vmw, vmp, vza, ↓reduceIte, Nat.reduceBEq, Nat.reduceLT, Nat.reduceAdd, Nat.reduceEqDiff, reduceCtorEq, vmt, vzb, vzc, vlen, vleaf, velems, oks, vst, vmd, ty, Nat.reduceLeDiff, Nat.reduceMul, Nat.reduceSub, m721]
    all_goals rfl
  obtain ⟨v, hp, hc, hk⟩ := key
  have := sound_imm (s721 h721 (a.length + b.length + 1) (by simp) hp hk) hp
  rw [hc] at this
  exact this
noncomputable def F21 : List V → Option V := hF (α := List Bn × List Bn) (fun p => [Bs p.1, Bs p.2]) (fun p => bnsOk p.1 ∧ bnsOk p.2) (fun p => comV (comB p.1 p.2))
theorem F21_eq {a b : List Bn} (ha : bnsOk a) (hb : bnsOk b) : F21 [Bs a, Bs b] = some (.tup [Bs (comB a b).1, I (comB a b).2]) :=
  hF_eq (a := (a, b)) (two_inj (fun _ _ => Bs_inj) (fun _ _ => Bs_inj)) (by simp only [cans, can_Bs]) ⟨ha, hb⟩
theorem F21_sound : ∀ args v, F21 args = some v → SoundPure Tryz.prog 16 args (.ret v) := hF_sound fun p hp => w21 p.1 p.2 hp.1 hp.2
end Go.Vi
set_option maxRecDepth 100000
set_option maxHeartbeats 1000000
namespace Go.Vi
open Go Go.Proofs

end Go.Vi
namespace Go.Vi
open Go Go.Proofs

/-! ### composition -/
/-! ### check, in words -/
def bgood (b : Bn) : Prop := ∃ k r, varB b.x = some (k, r) ∧ errB 8 b.e = 0 ∧ fitsB k b.e = true
theorem chkL_good : ∀ (l : List Bn) (W : List (List UInt8)), chkL W l = 0 → ∀ b ∈ l, bgood b
  | [], W, _, b, h => by cases h
  | p :: r, W, h, b, hb => by
    unfold chkL at h
    split at h
    · cases h
    · rename_i k x hx
      split at h
      · cases h
      · split at h
        · rename_i he; exact absurd h he
        · rename_i he
          split at h
          · rename_i hf
            rcases List.mem_cons.1 hb with rfl | hb
            · exact ⟨k, x, hx, by simpa using he, hf⟩
            · exact chkL_good r _ h b hb
          · cases h
theorem chkB_good {l : List Bn} (h : chkB l = 0) : l.length ≤ 4000 ∧ ∀ b ∈ l, bgood b := by
  unfold chkB at h
  split at h
  · cases h
  · exact ⟨by omega, chkL_good l [] h⟩
theorem errB_iff {e : List Tm} : errB 8 e = 0 ↔ szs e ≤ 4000 ∧ dps e ≤ 100 ∧ fms 8 e = true := by
  unfold errB
  split
  · constructor
    · intro h; cases h
    · intro h; omega
  · split
    · constructor
      · intro h; cases h
      · intro h; omega
    · split
      · rename_i h; exact ⟨fun _ => ⟨by omega, by omega, h⟩, fun _ => rfl⟩
      · rename_i h; exact ⟨fun q => (by cases q), fun q => absurd q.2.2 h⟩
/-- Every value found is right, and fits its kind. -/
theorem varB_name {k : Int} {s : List UInt8} (hk : isV k = true) {k' : Int} {r : List UInt8} (h : varB (nameV k s) = some (k', r)) : k' = k := by
  have h3 : k = 5 ∨ k = 6 ∨ k = 7 := by simp [isV] at hk; omega
  unfold nameV at h
  rcases h3 with rfl | rfl | rfl
  · simp only [if_true, List.cons_append, List.nil_append, varB] at h
    split at h
    · injection h with h; injection h with h _; exact h.symm
    · cases h
  · simp only [if_true, List.cons_append, List.nil_append, varB, if_neg (show ¬ (6 : Int) = 5 by decide)] at h
    split at h
    · injection h with h; injection h with h _; exact h.symm
    · cases h
  · simp only [List.cons_append, List.nil_append, varB, if_neg (show ¬ (7 : Int) = 5 by decide), if_neg (show ¬ (7 : Int) = 6 by decide)] at h
    split at h
    · injection h with h; injection h with h _; exact h.symm
    · cases h
theorem findB_mem2 {x : List UInt8} : ∀ {l : List Bn} {v}, findB x l = some v → ∃ b ∈ l, b.e = v ∧ b.x = x
  | b :: r, v, h => by
    simp only [findB] at h
    split at h
    · rename_i hq; injection h with h; exact ⟨b, by simp, h, by simpa using hq⟩
    · obtain ⟨b', h1, h2, h3⟩ := findB_mem2 h; exact ⟨b', by simp [h1], h2, h3⟩
theorem valB_good {l : List Bn} (hg : ∀ b ∈ l, bgood b) {k s v} (h : valB l k s = some v) : isV k = true ∧ errB 8 v = 0 ∧ fitsB k v = true := by
  unfold valB at h
  split at h
  · rename_i hk
    obtain ⟨b, h1, h2, h3⟩ := findB_mem2 h
    obtain ⟨k', r, g1, g2, g3⟩ := hg b h1
    rw [h3] at g1
    have := varB_name hk g1
    subst this
    rw [h2] at g2 g3
    exact ⟨hk, g2, g3⟩
  · cases h
/-! ### form -/
theorem fms_app (m : Int) : ∀ a b : List Tm, fms m (a ++ b) = (fms m a && fms m b)
  | [], b => by simp [fms]
  | x :: r, b => by simp only [List.cons_append, fms, fms_app m r b, Bool.and_assoc]
theorem right_c {k : Int} {s : List UInt8} {c c' : List Tm} (h : c = [] → c' = []) (hr : rightB k s c = true) : rightB k s c' = true := by
  unfold rightB at *
  by_cases k4 : k = 4
  · rw [if_pos k4] at hr ⊢; exact hr
  · rw [if_neg k4] at hr ⊢
    by_cases k8 : k = 8
    · rw [if_pos k8] at hr ⊢; exact hr
    · rw [if_neg k8] at hr ⊢
      by_cases hc : c = []
      · rw [if_neg (by simpa using hc)] at hr
        rw [if_neg (by simpa using h hc)]
        exact hr
      · rw [if_pos hc] at hr; cases hr
theorem right_kids {k : Int} {s : List UInt8} {c : List Tm} (hr : rightB k s c = true) : k = 4 ∨ k = 8 ∨ c = [] := by
  by_cases k4 : k = 4
  · exact .inl k4
  · by_cases k8 : k = 8
    · exact .inr (.inl k8)
    · refine .inr (.inr ?_)
      unfold rightB at hr
      rw [if_neg k4, if_neg k8] at hr
      by_cases hc : c = []
      · exact hc
      · rw [if_pos hc] at hr; cases hr
mutual
theorem fmt_un {l : List Bn} (hg : ∀ b ∈ l, bgood b) : ∀ t : Tm, fmt 8 t = true → fms 8 (unT l t) = true
  | .mk k s c, h => by
    rw [unT]
    cases hv : valB l k s with
    | some v => exact (errB_iff.1 (valB_good hg hv).2.1).2.2
    | none =>
      simp only [fmt, Bool.and_eq_true] at h
      simp only [fms, fmt, Bool.and_eq_true]
      exact ⟨⟨⟨right_c (fun h => by rw [h]; rfl) h.1.1, h.1.2⟩, fms_un hg c h.2⟩, trivial⟩
theorem fms_un {l : List Bn} (hg : ∀ b ∈ l, bgood b) : ∀ e : List Tm, fms 8 e = true → fms 8 (unL l e) = true
  | [], h => rfl
  | t :: r, h => by
    simp only [fms, Bool.and_eq_true] at h
    rw [unL, fms_app, fmt_un hg t h.1, fms_un hg r h.2]
    rfl
end
end Go.Vi
namespace Go.Vi
open Go Go.Proofs

theorem dps_app : ∀ a b : List Tm, dps (a ++ b) = max (dps a) (dps b)
  | [], b => by simp [dps]
  | x :: r, b => by simp only [List.cons_append, dps, dps_app r b]; omega
mutual
theorem nd_dpT {l : List Bn} (hg : ∀ b ∈ l, bgood b) {most : Nat} : ∀ t, fmt 8 t = true → (ndT l most t).1 ≤ most + 1 → (ndT l most t).2 = dps (unT l t)
  | .mk k s c, hf, h => by
    rw [ndT_eq] at h ⊢
    rw [unT]
    cases hv : valB l k s with
    | some v => rfl
    | none =>
      rw [hv] at h
      dsimp only at h ⊢
      simp only [fmt, Bool.and_eq_true] at hf
      have h1 : (ndF l most c).1 ≤ most := by omega
      have h2 : (ndL l most 0 0 c).1 ≤ most := by unfold ndF at h1; dsimp only at h1; omega
      have h3 : (ndF l most c).2 = dps (unL l c) := by
        have := nd_dpL hg c 0 0 hf.2 h2
        unfold ndF
        dsimp only
        omega
      rw [h3]
      simp only [dps, dpt]
      rcases right_kids hf.1.1 with hk | hk | hk
      · rw [if_pos (.inl hk), if_pos (.inl hk)]; omega
      · rw [if_pos (.inr hk), if_pos (.inr (.inl hk))]; omega
      · subst hk
        by_cases q : k = 4 ∨ k = 8
        · rw [if_pos q, if_pos (by rcases q with q | q; exact .inl q; exact .inr (.inl q))]; omega
        · rw [if_neg q, if_neg (by rintro (h | h | h); exact q (.inl h); exact q (.inr h); exact h rfl)]; simp [unL, dps]
theorem nd_dpL {l : List Bn} (hg : ∀ b ∈ l, bgood b) {most : Nat} : ∀ (e : List Tm) (n d : Nat), fms 8 e = true → (ndL l most n d e).1 ≤ most → (ndL l most n d e).2 = max d (dps (unL l e))
  | [], n, d, hf, h => by simp [ndL, unL, dps]
  | t :: r, n, d, hf, h => by
    simp only [fms, Bool.and_eq_true] at hf
    rw [ndL] at h ⊢
    by_cases q : n > most
    · rw [if_pos q] at h; dsimp only at h; omega
    · rw [if_neg q] at h ⊢
      have h0 := nd_szL r _ _ h
      have h1 := nd_dpL hg r _ _ hf.2 h
      have h2 : (ndT l most t).1 ≤ most + 1 := by omega
      rw [h1, nd_dpT hg t hf.1 h2, unL, dps_app]
      omega
end
mutual
theorem nd_upT {l : List Bn} {most : Nat} : ∀ t, (ndT l most t).1 ≤ szs (unT l t)
  | .mk k s c => by
    rw [ndT_eq, unT]
    cases hv : valB l k s with
    | some v => exact Nat.le_refl _
    | none =>
      have := @nd_upL l most c 0 0
      simp only [szs, szt]
      unfold ndF
      dsimp only
      omega
theorem nd_upL {l : List Bn} {most : Nat} : ∀ (e : List Tm) (n d : Nat), (ndL l most n d e).1 ≤ n + szs (unL l e)
  | [], n, d => Nat.le_add_right _ _
  | t :: r, n, d => by
    rw [ndL, unL, szs_app]
    split
    · dsimp only; omega
    · have h1 := @nd_upL l most r (n + (ndT l most t).1) (max d (ndT l most t).2)
      have h2 := @nd_upT l most t
      omega
end
theorem toL_eq {l : List Bn} (hg : ∀ b ∈ l, bgood b) {e : List Tm} (hf : fms 8 e = true) : toL e l = if szs (unL l e) > 4000 ∨ dps (unL l e) > 100 then ([], 7) else (unL l e, 0) := by
  have h : ((ndF l 4000 e).1 > 4000 ∨ (ndF l 4000 e).2 > 100) ↔ (szs (unL l e) > 4000 ∨ dps (unL l e) > 100) := by
    have h1 := @nd_upL l 4000 e 0 0
    by_cases q : (ndF l 4000 e).1 > 4000
    · have : (ndL l 4000 0 0 e).1 > 4000 := by unfold ndF at q; dsimp only at q; omega
      constructor
      · intro _; omega
      · intro _; exact .inl q
    · have h2 : (ndL l 4000 0 0 e).1 ≤ 4000 := by unfold ndF at q; dsimp only at q; omega
      have h3 := nd_szL e 0 0 h2
      have h4 := nd_dpL hg e 0 0 hf h2
      have h5 : (ndF l 4000 e).2 = (ndL l 4000 0 0 e).2 := rfl
      rw [h5]
      omega
  unfold toL
  by_cases q : (ndF l 4000 e).1 > 4000 ∨ (ndF l 4000 e).2 > 100
  · rw [if_pos q, if_pos (h.1 q)]
  · rw [if_neg q, if_neg (fun w => q (h.2 w))]
theorem toL_good2 {l : List Bn} (hg : ∀ b ∈ l, bgood b) {e : List Tm} (hf : fms 8 e = true) (h : (toL e l).2 = 0) : errB 8 (unL l e) = 0 := by
  rw [toL_eq hg hf] at h
  split at h
  · simp at h
  · exact errB_iff.2 ⟨by omega, by omega, fms_un hg e hf⟩
/-! ### Compose -/
end Go.Vi
set_option maxRecDepth 100000
set_option maxHeartbeats 1000000
namespace Go.Vi
open Go Go.Proofs

noncomputable abbrev T1017 : List (FuncId × (List V → Option V)) := [(43, Fchk), (44, Flim), (45, Ffind)]
theorem h1017 : SoundHand Tryz.prog (hand T1017) := sound_cons F15_sound <| sound_cons F32_sound <| sound_cons F37_sound sound_nil
def P1017 (n : Nat) (v : V) (r : Option (Ex × St)) : Prop := Fin (M1017 (hand T1017) n) [.tmp 4, .tmp 5] r = some (.ret v)
theorem l1017a {n k} {P : Option (Ex × St) → Prop} (a b : List Bn) (ha : bnsOk a) (hb : bnsOk b) (hf8 : ∀ p ∈ a, fms 8 p.e = true) : ∀ r i d n' s, a.drop i = r → r.length < n' → d.length + r.length ≤ 1000000 → A21 s d → tget s.τ 0 = Bs a → tget s.τ 1 = Bs b → tget s.τ 9 = I (i : Nat) →
    (∀ s', r.all (toOk b) = true → A21 s' (d ++ r.map (unB b)) → tget s'.τ 0 = Bs a → tget s'.τ 1 = Bs b → P (X (M1017 (hand T1017) n) (.exit 0) k s')) →
    (∀ s', r.all (toOk b) = false → tget s'.τ 4 = .nilS → tget s'.τ 5 = I 7 → P (some (.ret, s'))) →
    P (L (M1017 (hand T1017) n) (sub [1, 1, 1, 1, 0, 1, 0, 0] c1017) n' k s)
  | [], i, d, n' + 1, s, hi, hn, hl, ⟨v8, sz, hz, h8, h8'⟩, h0, h1, h9, hq, hf => by
    have hc := inlt (drop_nil' hi)
    rw [L_succ]
    simp only [vmr, vmw, vmp, vza, ↓reduceIte, Nat.reduceBEq, Nat.reduceLT, Nat.reduceAdd, Nat.reduceEqDiff, reduceCtorEq, vmt, vzb, vzc, vlen, vleaf, velems, oks, vst, vmd, ty, Nat.reduceLeDiff, Nat.reduceMul, Nat.reduceSub, c1017, Tryz.f17, m1017, h0, h9, hc]
    refine hq _ rfl ⟨v8, sz, hz, ?_, ?_⟩ ?_ ?_
    all_goals simp only [vmr, vmw, vmp, vza, ↓reduceIte, Nat.reduceBEq, Nat.reduceLT, Nat.reduceAdd, Nat.reduceEqDiff, reduceCtorEq, vmt, vzb, vzc, vlen, vleaf, velems, oks, vst, vmd, ty, Nat.reduceLeDiff, Nat.reduceMul, Nat.reduceSub, m1017, h0, h1, h8, h8', List.map_nil, List.append_nil]
  | p :: r, i, d, n' + 1, s, hi, hn, hl, ⟨v8, sz, hz, h8, h8'⟩, h0, h1, h9, hq, hf => by
    obtain ⟨g1, g2, g3⟩ := drop_cons hi
    have hcl := ilt g3
    have ga := bn_get g1
    have hm := List.mem_of_getElem? g1
    have hz' := eq_true hz
    have w4 := wsuc g3 (by have := ha.1; omega)
    have e1 : Flim [Ts p.e, Bs b, I 4000, I 100] = some (.tup [Ts (toL p.e b).1, I (toL p.e b).2]) := Flim_eq (ha.2 p hm).2.1 (ha.2 p hm).2.2 hb (hf8 p hm)
    have ih := fun d s => l1017a (n := n) (k := k) (P := P) a b ha hb hf8 r (i + 1) d n' s g2 (by simp at hn; omega)
    simp only [sub, c1017, Tryz.f17, gets] at ih
    rw [L_succ]
    by_cases q : (toL p.e b).2 = 0
    · have ho : toOk b p = true := by simp [toOk, q]
      rw [toL_good q] at e1
      have n0 : ((0 : Int) != 0) = false := rfl
      have r1 := @room59 1 (by omega)
      have r2 := @room59 (d.length + 1) (by simp at hl; omega)
      have f1 := fits59 p.x (unL b p.e)
      rw [List.all_cons, ho, Bool.true_and, List.map_cons, List.append_cons] at hq
      rw [List.all_cons, ho, Bool.true_and] at hf
      simp only [vmr, vmw, vmp, vza, ↓reduceIte, Nat.reduceBEq, Nat.reduceLT, Nat.reduceAdd, Nat.reduceEqDiff, reduceCtorEq, vmt, vzb, vzc, vlen, vleaf, velems, oks, vst, vmd, ty, Nat.reduceLeDiff, Nat.reduceMul, Nat.reduceSub, c1017, Tryz.f17, m1017, h0, h1, h9, h8, h8', hcl, ga, w4, e1, n0, r1, r2, f1, hz', List.map_cons, List.map_nil]
      refine ih (d ++ [unB b p]) _ (by simp at hl ⊢; omega) (A21.of ?_ ?_) ?_ ?_ ?_ hq hf
      all_goals simp only [vmr, vmw, vmp, vza, ↓reduceIte, Nat.reduceBEq, Nat.reduceLT, Nat.reduceAdd, Nat.reduceEqDiff, reduceCtorEq, vmt, vzb, vzc, vlen, vleaf, velems, oks, vst, vmd, ty, Nat.reduceLeDiff, Nat.reduceMul, Nat.reduceSub, m1017, ver, h0, h1, List.length_append, List.map_append, List.map_cons, List.map_nil, unB, Bn.v]
    · have ho : toOk b p = false := by simpa [toOk] using q
      rw [toL_bad q] at e1
      have n0 : ((7 : Int) != 0) = true := rfl
      rw [List.all_cons, ho, Bool.false_and] at hf
      simp only [vmr, vmw, vmp, vza, ↓reduceIte, Nat.reduceBEq, Nat.reduceLT, Nat.reduceAdd, Nat.reduceEqDiff, reduceCtorEq, vmt, vzb, vzc, vlen, vleaf, velems, oks, vst, vmd, ty, Nat.reduceLeDiff, Nat.reduceMul, Nat.reduceSub, c1017, Tryz.f17, m1017, h0, h1, h9, hcl, ga, w4, e1, n0]
      refine hf _ rfl ?_ ?_
      all_goals simp only [vmr, vmw, vmp, vza, ↓reduceIte, Nat.reduceBEq, Nat.reduceLT, Nat.reduceAdd, Nat.reduceEqDiff, reduceCtorEq, vmt, vzb, vzc, vlen, vleaf, velems, oks, vst, vmd, ty, Nat.reduceLeDiff, Nat.reduceMul, Nat.reduceSub, m1017]
theorem l1017b {n k} {P : Option (Ex × St) → Prop} (a b : List Bn) (ha : bnsOk a) (hb : bnsOk b) : ∀ r i d n' s, b.drop i = r → r.length < n' → d.length + r.length ≤ 2000000 → A21 s d → tget s.τ 0 = Bs a → tget s.τ 1 = Bs b → tget s.τ 12 = I (i : Nat) →
    (∀ s', A21 s' (d ++ comR a r) → P (X (M1017 (hand T1017) n) (.exit 2) k s')) →
    P (L (M1017 (hand T1017) n) (sub [1, 1, 1, 1, 1, 0, 1, 0, 0] c1017) n' k s)
  | [], i, d, n' + 1, s, hi, hn, hl, ⟨v8, sz, hz, h8, h8'⟩, h0, h1, h12, hq => by
    have hc := inlt (drop_nil' hi)
    rw [L_succ]
    simp only [vmr, vmw, vmp, vza, ↓reduceIte, Nat.reduceBEq, Nat.reduceLT, Nat.reduceAdd, Nat.reduceEqDiff, reduceCtorEq, vmt, vzb, vzc, vlen, vleaf, velems, oks, vst, vmd, ty, Nat.reduceLeDiff, Nat.reduceMul, Nat.reduceSub, c1017, Tryz.f17, m1017, h1, h12, hc]
    refine hq _ ⟨v8, sz, hz, ?_, ?_⟩
    all_goals simp only [vmr, vmw, vmp, vza, ↓reduceIte, Nat.reduceBEq, Nat.reduceLT, Nat.reduceAdd, Nat.reduceEqDiff, reduceCtorEq, vmt, vzb, vzc, vlen, vleaf, velems, oks, vst, vmd, ty, Nat.reduceLeDiff, Nat.reduceMul, Nat.reduceSub, m1017, h8, h8', comR, List.filter_nil, List.append_nil]
  | p :: r, i, d, n' + 1, s, hi, hn, hl, ⟨v8, sz, hz, h8, h8'⟩, h0, h1, h12, hq => by
    obtain ⟨g1, g2, g3⟩ := drop_cons hi
    have hcl := ilt g3
    have ga := bn_get g1
    have hm := List.mem_of_getElem? g1
    have hz' := eq_true hz
    have w4 := wsuc g3 (by have := hb.1; omega)
    have e1 := Ffind_eq (x := p.x) ha
    have hdw := @d1017_20 (hand T1017) n
    have ih := fun d s => l1017b (n := n) (k := k) (P := P) a b ha hb r (i + 1) d n' s g2 (by simp at hn; omega)
    simp only [sub, c1017, Tryz.f17, gets, opsAt] at ih hdw
    rw [L_succ]
    cases hv : findB p.x a with
    | some w =>
      have hr : comR a (p :: r) = comR a r := by simp [comR, hv]
      rw [hr] at hq
      rw [hv] at e1
      simp only [findI] at e1
      simp only [vmr, vmw, vmp, vza, ↓reduceIte, Nat.reduceBEq, Nat.reduceLT, Nat.reduceAdd, Nat.reduceEqDiff, reduceCtorEq, vmt, vzb, vzc, vlen, vleaf, velems, oks, vst, vmd, ty, Nat.reduceLeDiff, Nat.reduceMul, Nat.reduceSub, c1017, Tryz.f17, m1017, h0, h1, h12, h8, h8', hcl, ga, w4, e1]
      refine ih d _ (by simp at hl; omega) ⟨v8, sz, hz, ?_, ?_⟩ ?_ ?_ ?_ hq
      all_goals simp only [vmr, vmw, vmp, vza, ↓reduceIte, Nat.reduceBEq, Nat.reduceLT, Nat.reduceAdd, Nat.reduceEqDiff, reduceCtorEq, vmt, vzb, vzc, vlen, vleaf, velems, oks, vst, vmd, ty, Nat.reduceLeDiff, Nat.reduceMul, Nat.reduceSub, m1017, h0, h1, h8, h8']
    | none =>
      have hr : comR a (p :: r) = p :: comR a r := by simp [comR, hv]
      rw [hr, List.append_cons] at hq
      rw [hv] at e1
      simp only [findI] at e1
      have r1 := @room59 1 (by omega)
      have r2 := @room59 (d.length + 1) (by simp at hl; omega)
      have r3 := @room35 0 (by omega)
      have r4 := @room35 p.e.length (by have := (hb.2 p hm).2.1; have := szs_len p.e; omega)
      have f1 := fits59 p.x p.e
      have f2 := fits35s p.e
      have r5 := @room35 (0 + p.e.length) (by have := (hb.2 p hm).2.1; have := szs_len p.e; omega)
      simp only [vmr, vmw, vmp, vza, ↓reduceIte, Nat.reduceBEq, Nat.reduceLT, Nat.reduceAdd, Nat.reduceEqDiff, reduceCtorEq, vmt, vzb, vzc, vlen, vleaf, velems, oks, vst, vmd, ty, Nat.reduceLeDiff, Nat.reduceMul, Nat.reduceSub, c1017, Tryz.f17, m1017, h0, h1, h12, h8, h8', hcl, ga, w4, e1, r1, r2, r3, r4, r5, f1, f2, hz', hdw, Nat.zero_add, take_len, List.nil_append, List.map_cons, List.map_nil]
      refine ih (d ++ [p]) _ (by simp at hl ⊢; omega) (A21.of ?_ ?_) ?_ ?_ ?_ hq
      all_goals simp only [vmr, vmw, vmp, vza, ↓reduceIte, Nat.reduceBEq, Nat.reduceLT, Nat.reduceAdd, Nat.reduceEqDiff, reduceCtorEq, vmt, vzb, vzc, vlen, vleaf, velems, oks, vst, vmd, ty, Nat.reduceLeDiff, Nat.reduceMul, Nat.reduceSub, m1017, ver, h0, h1, List.length_append, List.map_append, List.map_cons, List.map_nil, Bn.v]
end Go.Vi
set_option maxRecDepth 100000
set_option maxHeartbeats 1000000
namespace Go.Vi
open Go Go.Proofs

theorem w1017 (a b : List Bn) (ha : bnsOk a) (hb : bnsOk b) : SoundPure Tryz.prog 17 [Bs a, Bs b] (.ret (comV (comB a b))) := by
  have e1 := Fchk_eq ha
  have e2 := Fchk_eq hb
  have n0 : ((0 : Int) != 0) = false := rfl
  unfold comB
  by_cases q1 : chkB a = 0
  case neg =>
    have q1' : (chkB a != 0) = true := by simpa using q1
    rw [if_pos q1]
    have : SoundPure Tryz.prog 17 [Bs a, Bs b] (.ret (.tup [.nilS, I (chkB a)])) := by
      refine s1017 h1017 1 (by simp) rfl ?_
      simp only [c1017, Tryz.f17, gets, sub]
      simp only [vmr, vmw, vmp, vza, ↓reduceIte, Nat.reduceBEq, Nat.reduceLT, Nat.reduceAdd, Nat.reduceEqDiff, reduceCtorEq, vmt, vzb, vzc, vlen, vleaf, velems, oks, vst, vmd, ty, Nat.reduceLeDiff, Nat.reduceMul, Nat.reduceSub, vzr, m1017, e1, q1']
    exact sound_imm this rfl
  rw [if_neg (by simp [q1])]
  have hf8 : ∀ p ∈ a, fms 8 p.e = true := fun p hp => by
    obtain ⟨k, r, g1, g2, g3⟩ := (chkB_good q1).2 p hp
    exact (errB_iff.1 g2).2.2
  rw [q1] at e1
  by_cases q2 : chkB b = 0
  case neg =>
    have q2' : (chkB b != 0) = true := by simpa using q2
    rw [if_pos q2]
    have : SoundPure Tryz.prog 17 [Bs a, Bs b] (.ret (.tup [.nilS, I (chkB b)])) := by
      refine s1017 h1017 1 (by simp) rfl ?_
      simp only [c1017, Tryz.f17, gets, sub]
      simp only [vmr, vmw, vmp, vza, ↓reduceIte, Nat.reduceBEq, Nat.reduceLT, Nat.reduceAdd, Nat.reduceEqDiff, reduceCtorEq, vmt, vzb, vzc, vlen, vleaf, velems, oks, vst, vmd, ty, Nat.reduceLeDiff, Nat.reduceMul, Nat.reduceSub, vzr, m1017, e1, n0, e2, q2']
    exact sound_imm this rfl
  rw [if_neg (by simp [q2])]
  rw [q2] at e2
  have lf : (comR a b).length ≤ b.length := List.length_filter_le ..
  have lc : (comL a b).length = a.length + (comR a b).length := by simp [comL]
  have l1 := ha.1
  have l2 := hb.1
  have hr0 := @room59 0 (by omega)
  let Po : Option (Ex × St) → Prop := fun r => ∃ v, pureR v = true ∧ can (imm v) = comV (if a.all (toOk b) = false then ([], 7) else if (comL a b).length > 4000 then ([], 5) else (comL a b, 0)) ∧ P1017 (a.length + b.length + 1) v r
  have key : Po (R (M1017 (hand T1017) (a.length + b.length + 1)) c1017 .top ⟨params 0 [Bs a, Bs b], [], fun _ => none, 0⟩) := by
    have a1 := fun k s => @l1017a (a.length + b.length + 1) k Po a b ha hb hf8 a 0 [] (a.length + b.length + 1) s rfl (by omega) (by simpa using l1)
    have a2 := fun k s => @l1017b (a.length + b.length + 1) k Po a b ha hb b 0 (a.map (unB b)) (a.length + b.length + 1) s rfl (by omega) (by simp; omega)
    simp only [c1017, Tryz.f17, gets, sub] at a1 a2 ⊢
    simp only [vmr, vmw, vmp, vza, ↓reduceIte, Nat.reduceBEq, Nat.reduceLT, Nat.reduceAdd, Nat.reduceEqDiff, reduceCtorEq, vmt, vzb, vzc, vlen, vleaf, velems, oks, vst, vmd, ty, Nat.reduceLeDiff, Nat.reduceMul, Nat.reduceSub, m1017, e1, e2, n0, hr0, List.map_nil]
    refine a1 _ _ ⟨1, 2, .inl rfl, ?_, ?_⟩ ?_ ?_ ?_ (fun s' ho hA h0 h1 => ?_) (fun s' ho h4 h5 => ?_)
    case refine_6 =>
      rw [List.nil_append] at hA
      simp only [vmr, vmw, vmp, vza, ↓reduceIte, Nat.reduceBEq, Nat.reduceLT, Nat.reduceAdd, Nat.reduceEqDiff, reduceCtorEq, vmt, vzb, vzc, vlen, vleaf, velems, oks, vst, vmd, ty, Nat.reduceLeDiff, Nat.reduceMul, Nat.reduceSub, m1017, h0, h1]
      refine a2 _ _ ?_ ?_ ?_ ?_ (fun s2 hB => ?_)
      case refine_1 =>
        obtain ⟨v8, sz, hz, h8, h8'⟩ := hA
        refine ⟨v8, sz, hz, ?_, ?_⟩
        all_goals simp only [vmr, vmw, vmp, vza, ↓reduceIte, Nat.reduceBEq, Nat.reduceLT, Nat.reduceAdd, Nat.reduceEqDiff, reduceCtorEq, vmt, vzb, vzc, vlen, vleaf, velems, oks, vst, vmd, ty, Nat.reduceLeDiff, Nat.reduceMul, Nat.reduceSub, m1017, h8, h8']
      case refine_5 =>
        change A21 s2 (comL a b) at hB
        obtain ⟨v8, sz, hz, h8, h8'⟩ := hB
        by_cases q : (comL a b).length > 4000
        · have q' : (((comL a b).length : Int) > 4000) = True := eq_true (by omega)
          refine ⟨.tup [.nilS, I 5], rfl, ?_, ?_⟩
          · rw [if_neg (by simp [ho]), if_pos q]; rfl
          · simp only [vmr, vmw, vmp, vza, ↓reduceIte, Nat.reduceBEq, Nat.reduceLT, Nat.reduceAdd, Nat.reduceEqDiff, reduceCtorEq, vmt, vzb, vzc, vlen, vleaf, velems, oks, vst, vmd, ty, Nat.reduceLeDiff, Nat.reduceMul, Nat.reduceSub, m1017, h8, h8', q']
            unfold P1017
            simp only [vmr, vmw, vmp, vza, ↓reduceIte, Nat.reduceBEq, Nat.reduceLT, Nat.reduceAdd, Nat.reduceEqDiff, reduceCtorEq, vmt, vzb, vzc, vlen, vleaf, velems, oks, vst, vmd, ty, Nat.reduceLeDiff, Nat.reduceMul, Nat.reduceSub, vzr, m1017]
        · have q' : (((comL a b).length : Int) > 4000) = False := eq_false (by omega)
          refine ⟨.tup [.own sz ((comL a b).map Bn.v), I 0], by simp only [pureR, pureRL, pureLB, Bool.and_self], ?_, ?_⟩
          · rw [if_neg (by simp [ho]), if_neg q]; exact can_comO ..
          · simp only [vmr, vmw, vmp, vza, ↓reduceIte, Nat.reduceBEq, Nat.reduceLT, Nat.reduceAdd, Nat.reduceEqDiff, reduceCtorEq, vmt, vzb, vzc, vlen, vleaf, velems, oks, vst, vmd, ty, Nat.reduceLeDiff, Nat.reduceMul, Nat.reduceSub, m1017, h8, h8', q']
            unfold P1017
            simp only [vmr, vmw, vmp, vza, ↓reduceIte, Nat.reduceBEq, Nat.reduceLT, Nat.reduceAdd, Nat.reduceEqDiff, reduceCtorEq, vmt, vzb, vzc, vlen, vleaf, velems, oks, vst, vmd, ty, Nat.reduceLeDiff, Nat.reduceMul, Nat.reduceSub, vzr, m1017, h8', take_len]
      all_goals simp only [vmr, vmw, vmp, vza, ↓reduceIte, Nat.reduceBEq, Nat.reduceLT, Nat.reduceAdd, Nat.reduceEqDiff, reduceCtorEq, vmt, vzb, vzc, vlen, vleaf, velems, oks, vst, vmd, ty, Nat.reduceLeDiff, Nat.reduceMul, Nat.reduceSub, m1017, h0, h1]
    case refine_7 =>
      refine ⟨.tup [.nilS, I 7], rfl, ?_, ?_⟩
      · rw [if_pos ho]; rfl
      · unfold P1017
        simp only [vmr, vmw, vmp, vza, ↓reduceIte, Nat.reduceBEq, Nat.reduceLT, Nat.reduceAdd, Nat.reduceEqDiff, reduceCtorEq, vmt, vzb, vzc, vlen, vleaf, velems, oks, vst, vmd, ty, Nat.reduceLeDiff, Nat.reduceMul, Nat.reduceSub, vzr, m1017, h4, h5]
    all_goals simp only [vmr, vmw, vmp, vza, ↓reduceIte, Nat.reduceBEq, Nat.reduceLT, Nat.reduceAdd, Nat.reduceEqDiff, reduceCtorEq, vmt, vzb, vzc, vlen, vleaf, velems, oks, vst, vmd, ty, Nat.reduceLeDiff, Nat.reduceMul, Nat.reduceSub, m1017]
    all_goals rfl
  obtain ⟨v, hp, hc, hk⟩ := key
  have := sound_imm (s1017 h1017 (a.length + b.length + 1) (by simp) hp hk) hp
  rw [hc] at this
  exact this
noncomputable def F1017 : List V → Option V := hF (α := List Bn × List Bn) (fun p => [Bs p.1, Bs p.2]) (fun p => bnsOk p.1 ∧ bnsOk p.2) (fun p => comV (comB p.1 p.2))
theorem F1017_eq {a b : List Bn} (ha : bnsOk a) (hb : bnsOk b) : F1017 [Bs a, Bs b] = some (comV (comB a b)) := hF_eq (a := (a, b)) (two_inj (fun _ _ => Bs_inj) (fun _ _ => Bs_inj)) (by simp only [cans, can_Bs]) ⟨ha, hb⟩
theorem F1017_sound : ∀ args v, F1017 args = some v → SoundPure Tryz.prog 17 args (.ret v) := hF_sound fun p hp => w1017 p.1 p.2 hp.1 hp.2
noncomputable abbrev T1004 : List (FuncId × (List V → Option V)) := [(7, F10), (15, F9), (16, F21), (17, F1017), (18, F20)]
theorem h1004 : SoundHand Tryz.prog (hand T1004) := sound_cons F10_sound <| sound_cons F9_sound <| sound_cons F21_sound <| sound_cons F1017_sound <| sound_cons F20_sound sound_nil
theorem w1004 (a b : List Bn) (ha : argB a) (hb : argB b) : SoundPure Tryz.prog 4 [Bs a, Bs b] (.ret (.bool true)) := by
  refine s1004 h1004 1 (by simp) rfl ?_
  simp only [c1004, Tryz.f4, gets, sub]
  have e2 := F9_eq (a := a) (k := 200) (by omega) (by omega)
  have e3 := F9_eq (a := b) (k := 200) (by omega) (by omega)
  have e5 := F10_eq
  by_cases q2 : fewL 200 a.length a ≤ 200
  case neg =>
    rw [decide_eq_false q2] at e2
    simp only [vmr, vmw, vmp, vza, ↓reduceIte, Nat.reduceBEq, Nat.reduceLT, Nat.reduceAdd, Nat.reduceEqDiff, reduceCtorEq, vmt, vzb, vzc, vlen, vleaf, velems, oks, vst, vmd, ty, Nat.reduceLeDiff, Nat.reduceMul, Nat.reduceSub, vzr, m1004, e2, e5]
  rw [decide_eq_true q2] at e2
  by_cases q3 : fewL 200 b.length b ≤ 200
  case neg =>
    rw [decide_eq_false q3] at e3
    simp only [vmr, vmw, vmp, vza, ↓reduceIte, Nat.reduceBEq, Nat.reduceLT, Nat.reduceAdd, Nat.reduceEqDiff, reduceCtorEq, vmt, vzb, vzc, vlen, vleaf, velems, oks, vst, vmd, ty, Nat.reduceLeDiff, Nat.reduceMul, Nat.reduceSub, vzr, m1004, e2, e3, e5]
  rw [decide_eq_true q3] at e3
  have ba := bns_of ha (by omega) (by omega) q2
  have bb := bns_of hb (by omega) (by omega) q3
  have e6 := F21_eq ba bb
  have e7 := F1017_eq ba bb
  have hlen : (comB a b).1.length ≤ 4000 := by
    unfold comB
    split
    · simp
    · split
      · simp
      · split
        · simp
        · split
          · simp
          · dsimp only; omega
  have e14 : F20 [Bs (comB a b).1, Bs (comB a b).1] = some (.bool (alB (comB a b).1 (comB a b).1)) := by
    refine F20_eq (by omega) fun p hp => ?_
    by_cases q : (comB a b).2 = 0
    · have hch : chkB a = 0 ∧ chkB b = 0 ∧ a.all (toOk b) = true ∧ (comB a b).1 = comL a b := by
        unfold comB at q ⊢
        by_cases z1 : chkB a = 0
        · rw [if_neg (by simp [z1])] at q ⊢
          by_cases z2 : chkB b = 0
          · rw [if_neg (by simp [z2])] at q ⊢
            by_cases z3 : a.all (toOk b) = true
            · rw [if_neg (by simp [z3])] at q ⊢
              by_cases z4 : (comL a b).length > 4000
              · rw [if_pos z4] at q; simp at q
              · rw [if_neg z4]; exact ⟨z1, z2, z3, rfl⟩
            · rw [if_pos (by simpa using z3)] at q; simp at q
          · rw [if_pos z2] at q; exact absurd q z2
        · rw [if_pos z1] at q; exact absurd q z1
      obtain ⟨c1, c2, c3, c4⟩ := hch
      rw [c4] at hp
      unfold comL at hp
      rcases List.mem_append.1 hp with hp | hp
      · obtain ⟨p', hp', rfl⟩ := List.mem_map.1 hp
        have := List.all_eq_true.1 c3 p' hp'
        have h4 : (toL p'.e b).2 = 0 := by simpa [toOk] using this
        obtain ⟨k, r, g1, g2, g3⟩ := (chkB_good c1).2 p' hp'
        have := (errB_iff.1 (toL_good2 (chkB_good c2).2 (errB_iff.1 g2).2.2 h4)).1
        show szs (unL b p'.e) ≤ _
        omega
      · exact (bb.2 p (List.mem_filter.1 hp).1).2.1
    · have : (comB a b).1 = [] := by
        unfold comB at q ⊢
        split
        · rfl
        · split
          · rfl
          · split
            · rfl
            · split
              · rfl
              · rename_i h1 h2 h3 h4; rw [if_neg h1, if_neg h2, if_neg h3, if_neg h4] at q; exact absurd rfl q
      rw [this] at hp
      cases hp
  rw [alB_self] at e14
  have n2 : ((comB a b).2 == (comB a b).2) = true := by simp
  simp only [vmr, vmw, vmp, vza, ↓reduceIte, Nat.reduceBEq, Nat.reduceLT, Nat.reduceAdd, Nat.reduceEqDiff, reduceCtorEq, vmt, vzb, vzc, vlen, vleaf, velems, oks, vst, vmd, ty, Nat.reduceLeDiff, Nat.reduceMul, Nat.reduceSub, vzr, m1004, e2, e3, e5, e6, e7, e14, n2]
end Go.Vi
