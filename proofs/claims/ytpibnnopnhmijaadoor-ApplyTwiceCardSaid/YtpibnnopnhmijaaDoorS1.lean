/-
  The kit's contract of slices.Grow at this program, as the kit's own tool has laid it in plain words.
-/
import Derived.Shelf.Spec.SlicesGrow
import Derived.KernelRfl
import Derived.Test.YtpibnnopnhmijaaDoorProg
import Derived.Test.YtpibnnopnhmijaaDoorRE
import Derived.Test.YtpibnnopnhmijaaDoorVD
import Derived.WalkKit
import Derived.ProofKit
import Derived.Test.YtpibnnopnhmijaaDoorCards
import Derived.Test.YtpibnnopnhmijaaDoorTie
import Derived.OpenShut
import Derived.Deep.DeepHandedRow
import Derived.Lib.LaidTab
set_option linter.unusedSimpArgs false
set_option linter.unusedVariables false
namespace Go.Proofs
open Go.Shelf
end Go.Proofs
set_option maxRecDepth 100000
set_option maxHeartbeats 1000000
namespace Go.Vi
open Go Go.Proofs

mutual
theorem lmT_sz : ∀ (t : Tm) (most n : Int), 0 ≤ n → n + 1 ≤ most → lmT most n t ≤ most → lmT most n t = n + szt t
  | .mk k s c, most, n, h0, h1, h => by
    simp only [lmT] at h ⊢
    have := lmL_sz c (most - (n + 1)) 0 (by omega) (by omega) (by omega)
    rw [this]
    simp only [szt]
    omega
theorem lmL_sz : ∀ (l : List Tm) (most n : Int), 0 ≤ most → 0 ≤ n → lmL most n l ≤ most → lmL most n l = n + szs l
  | [], most, n, h0, h1, h => by simp only [lmL, szs]; omega
  | t :: r, most, n, h0, h1, h => by
    simp only [lmL] at h ⊢
    by_cases q : n + 1 > most
    · rw [if_pos q] at h; omega
    · rw [if_neg q] at h ⊢
      obtain ⟨b1, b2⟩ := szT_le t most n h1 (by omega)
      obtain ⟨b3, b4⟩ := szL_le r most (lmT most n t) h0 (by omega)
      rw [lmL_sz r most _ h0 (by omega) h, lmT_sz t most n h1 (by omega) (by omega)]
      simp only [szs]
      omega
end
theorem few_sz : ∀ (l : List Bn) (most n : Int), 0 ≤ most → 0 ≤ n → fewL most n l ≤ most → n ≤ fewL most n l ∧ ∀ b ∈ l, (szs b.e : Int) ≤ most
  | [], most, n, h0, h1, h => ⟨Int.le_refl _, fun b hb => (by cases hb)⟩
  | b :: r, most, n, h0, h1, h => by
    simp only [fewL] at h ⊢
    by_cases q : n > most
    · rw [if_pos q] at h; omega
    · rw [if_neg q] at h ⊢
      obtain ⟨b1, b2⟩ := szL_le b.e (most - n) 0 (by omega) (by omega)
      obtain ⟨h2, h3⟩ := few_sz r most (n + lmL (most - n) 0 b.e) h0 (by omega) h
      refine ⟨by omega, fun c hc => ?_⟩
      rcases List.mem_cons.1 hc with rfl | hc
      · have := lmL_sz c.e (most - n) 0 (by omega) (by omega) (by omega)
        omega
      · exact h3 c hc
/-- No text of the arguments is longer than memory. -/
def argB (l : List Bn) : Prop := ∀ b ∈ l, b.x.length ≤ 1000000000000000 ∧ txs b.e
theorem bns_of {l : List Bn} {most : Int} (ha : argB l) (hm : 0 ≤ most) (hM : most ≤ 1000) (h : fewL most l.length l ≤ most) : bnsOk l := by
  obtain ⟨h1, h2⟩ := few_sz l most l.length hm (by omega) h
  exact ⟨by omega, fun b hb => ⟨(ha b hb).1, by have := h2 b hb; omega, (ha b hb).2⟩⟩
theorem toB_sz (e : List Tm) (l : List Bn) : szs (toB e l).1 ≤ 4000 := by
  unfold toB toL
  split
  · simp [szs]
  · split
    · simp [szs]
    · split
      · simp [szs]
      · exact nd_sz (by omega)
end Go.Vi
set_option maxRecDepth 100000
set_option maxHeartbeats 1000000
namespace Go.Vi
open Go Go.Proofs Go.RowKit

/-! ### Concat -/
/-- What is joined so far. -/
def A16 (s : St) (d : List Tm) : Prop := ∃ v6, tget s.τ 6 = .ref ⟨0, 6, 0⟩ v6 0 d.length ∧ lget s.L (6, 0) = some (v6, .arr 3 (d.map tv))
theorem A16.of {s d} (h : tget s.τ 6 = .ref ⟨0, 6, 0⟩ (ver s (6, 0)) 0 d.length) (h' : lget s.L (6, 0) = some (ver s (6, 0), .arr 3 (d.map tv))) : A16 s d := ⟨_, h, h'⟩
end Go.Vi
set_option maxRecDepth 100000
set_option maxHeartbeats 1000000
namespace Go.Vi
open Go Go.Proofs

abbrev bnv (x : List UInt8) (e : List Tm) : V := .agg [.str x, Ts e]
theorem can_bnv (x : List UInt8) (e : List Tm) : can (bnv x e) = bnv x e := by show V.agg [.str x, can (Ts e)] = _; rw [can_Ts]
theorem bnv_inj {a b : Bn} (h : bnv a.x a.e = bnv b.x b.e) : a = b := Bn.v_inj a b h
theorem bn_get {a : List Bn} {i : Nat} {b : Bn} (h : a[i]? = some b) : (a.map Bn.v)[i]? = some (bnv b.x b.e) := by rw [List.getElem?_map, h, Option.map_some, Bn.v]
def alB1 (p q : Bn) : Bool := p.x == q.x && eqB p.e q.e
def alB : List Bn → List Bn → Bool
  | [], [] => true
  | p :: r, q :: t => alB1 p q && alB r t
  | _, _ => false
theorem w46 (p q : Bn) (h : szs p.e ≤ 1000000) : SoundPure Tryd.prog 46 [bnv p.x p.e, bnv q.x q.e] (.ret (.bool (alB1 p q))) := by
  refine s746 (H := [(13, F312)]) (sound_cons F312_sound sound_nil) 1 (by simp) rfl ?_
  simp only [c746, Tryd.f46, gets, sub]
  have e := F312_eq (a := p.e) (b := q.e) h
  unfold alB1
  cases hq : p.x == q.x with
  | true => simp only [vmr, vmw, vmp, vza, ↓reduceIte, Nat.reduceBEq, Nat.reduceLT, Nat.reduceAdd, Nat.reduceEqDiff, reduceCtorEq, vmt, vzb, vzc, vlen, vleaf, velems, oks, vst, vmd, ty, Nat.reduceLeDiff, Nat.reduceMul, Nat.reduceSub, vzr, m746, strOp, hq, e]
  | false => simp only [vmr, vmw, vmp, vza, ↓reduceIte, Nat.reduceBEq, Nat.reduceLT, Nat.reduceAdd, Nat.reduceEqDiff, reduceCtorEq, vmt, vzb, vzc, vlen, vleaf, velems, oks, vst, vmd, ty, Nat.reduceLeDiff, Nat.reduceMul, Nat.reduceSub, vzr, m746, strOp, hq]
noncomputable def F46 : List V → Option V := hF (α := Bn × Bn) (fun p => [bnv p.1.x p.1.e, bnv p.2.x p.2.e]) (fun p => szs p.1.e ≤ 1000000) (fun p => .bool (alB1 p.1 p.2))
theorem F46_eq {p q : Bn} (h : szs p.e ≤ 1000000) : F46 [bnv p.x p.e, bnv q.x q.e] = some (.bool (alB1 p q)) :=
  hF_eq (a := (p, q)) (two_inj (fun _ _ => bnv_inj) (fun _ _ => bnv_inj)) (by simp only [cans, can_bnv]) h
theorem F46_sound : ∀ args v, F46 args = some v → SoundPure Tryd.prog 46 args (.ret v) := hF_sound fun p hp => w46 p.1 p.2 hp
abbrev fn46 : V := .fn (.func 46) [] []
def P745 (n : Nat) (v : V) (r : Option (Ex × St)) : Prop := Fin (M745 (hand [(46, F46)]) n) [.tmp 6] r = some (.ret v)
theorem l745 {n k v} (a b : List Bn) (ha : a.length ≤ 1000000) (hb : ∀ p ∈ a, szs p.e ≤ 1000000) : ∀ r t i n' s, a.drop i = r → b.drop i = t → r.length = t.length → r.length < n' → tget s.τ 1 = Bs b → tget s.τ 2 = fn46 → tget s.τ 15 = Bs a → tget s.τ 16 = I a.length → tget s.τ 17 = I (i : Nat) →
    V.bool (alB r t) = v → (∀ s', V.bool true = v → P745 n v (X (M745 (hand [(46, F46)]) n) (.exit 0) k s')) →
    P745 n v (L (M745 (hand [(46, F46)]) n) (sub [1, 1, 0, 1, 0, 0] c745) n' k s)
  | [], [], i, n' + 1, s, hi, hj, hl, hn, h1, h2, h15, h16, h17, hv, hx => by
    have hc := inlt (drop_nil' hi)
    rw [L_succ]
    simp only [vmr, vmw, vmp, vza, ↓reduceIte, Nat.reduceBEq, Nat.reduceLT, Nat.reduceAdd, Nat.reduceEqDiff, reduceCtorEq, vmt, vzb, vzc, vlen, vleaf, velems, oks, vst, vmd, ty, Nat.reduceLeDiff, Nat.reduceMul, Nat.reduceSub, c745, Tryd.f45, m745, h15, h16, h17, hc]
    exact hx _ hv
  | p :: r, q :: t, i, n' + 1, s, hi, hj, hl, hn, h1, h2, h15, h16, h17, hv, hx => by
    obtain ⟨g1, g2, g3⟩ := drop_cons hi
    obtain ⟨g4, g5, g6⟩ := drop_cons hj
    have hcl := ilt g3
    have ga := bn_get g1
    have gb := bn_get g4
    have w4 := wsuc g3 (by omega)
    have e := F46_eq (p := p) (q := q) (hb p (List.mem_of_getElem? g1))
    have ih := fun s => l745 (n := n) (k := k) (v := v) a b ha hb r t (i + 1) n' s g2 g5 (by simpa using hl) (by simp at hn; omega)
    simp only [sub, c745, Tryd.f45, gets] at ih
    rw [L_succ]
    rw [alB] at hv
    cases hq : alB1 p q with
    | true =>
      rw [hq] at e hv
      simp only [vmr, vmw, vmp, vza, ↓reduceIte, Nat.reduceBEq, Nat.reduceLT, Nat.reduceAdd, Nat.reduceEqDiff, reduceCtorEq, vmt, vzb, vzc, vlen, vleaf, velems, oks, vst, vmd, ty, Nat.reduceLeDiff, Nat.reduceMul, Nat.reduceSub, c745, Tryd.f45, m745, h1, h2, h15, h16, h17, hcl, ga, gb, w4, e]
      refine ih _ ?_ ?_ ?_ ?_ ?_ hv hx
      all_goals simp only [vmr, vmw, vmp, vza, ↓reduceIte, Nat.reduceBEq, Nat.reduceLT, Nat.reduceAdd, Nat.reduceEqDiff, reduceCtorEq, vmt, vzb, vzc, vlen, vleaf, velems, oks, vst, vmd, ty, Nat.reduceLeDiff, Nat.reduceMul, Nat.reduceSub, m745, h1, h2, h15, h16]
    | false =>
      rw [hq] at e hv
      rw [← hv]
      simp only [vmr, vmw, vmp, vza, ↓reduceIte, Nat.reduceBEq, Nat.reduceLT, Nat.reduceAdd, Nat.reduceEqDiff, reduceCtorEq, vmt, vzb, vzc, vlen, vleaf, velems, oks, vst, vmd, ty, Nat.reduceLeDiff, Nat.reduceMul, Nat.reduceSub, c745, Tryd.f45, m745, h1, h2, h15, h16, h17, hcl, ga, gb, w4, e]
      unfold P745
      simp only [vmr, vmw, vmp, vza, ↓reduceIte, Nat.reduceBEq, Nat.reduceLT, Nat.reduceAdd, Nat.reduceEqDiff, reduceCtorEq, vmt, vzb, vzc, vlen, vleaf, velems, oks, vst, vmd, ty, Nat.reduceLeDiff, Nat.reduceMul, Nat.reduceSub, vzr, m745]
theorem alB_len : ∀ {a b : List Bn}, a.length ≠ b.length → alB a b = false
  | [], [], h => absurd rfl h
  | [], _ :: _, _ => rfl
  | _ :: _, [], _ => rfl
  | p :: r, q :: t, h => by rw [alB, alB_len (by simpa using h), Bool.and_false]
theorem w45 (a b : List Bn) (ha : a.length ≤ 1000000) (hb : ∀ p ∈ a, szs p.e ≤ 1000000) : SoundPure Tryd.prog 45 [Bs a, Bs b, fn46] (.ret (.bool (alB a b))) := by
  refine s745 (H := [(46, F46)]) (sound_cons F46_sound sound_nil) (a.length + 1) (by simp) rfl ?_
  by_cases hl : a.length = b.length
  · have q : ((a.length : Int) != (b.length : Int)) = false := by simp [hl]
    show P745 _ _ _
    have a1 := fun k s => @l745 (a.length + 1) k (.bool (alB a b)) a b ha hb a b 0 (a.length + 1) s rfl rfl hl (by omega)
    simp only [c745, Tryd.f45, gets, sub] at a1 ⊢
    simp only [vmr, vmw, vmp, vza, ↓reduceIte, Nat.reduceBEq, Nat.reduceLT, Nat.reduceAdd, Nat.reduceEqDiff, reduceCtorEq, vmt, vzb, vzc, vlen, vleaf, velems, oks, vst, vmd, ty, Nat.reduceLeDiff, Nat.reduceMul, Nat.reduceSub, m745, q]
    refine a1 _ _ ?_ ?_ ?_ ?_ ?_ (by first | trivial | rfl) (fun s' e => ?_)
    case refine_6 =>
      simp only [vmr, vmw, vmp, vza, ↓reduceIte, Nat.reduceBEq, Nat.reduceLT, Nat.reduceAdd, Nat.reduceEqDiff, reduceCtorEq, vmt, vzb, vzc, vlen, vleaf, velems, oks, vst, vmd, ty, Nat.reduceLeDiff, Nat.reduceMul, Nat.reduceSub, m745]
      unfold P745
      simp only [vmr, vmw, vmp, vza, ↓reduceIte, Nat.reduceBEq, Nat.reduceLT, Nat.reduceAdd, Nat.reduceEqDiff, reduceCtorEq, vmt, vzb, vzc, vlen, vleaf, velems, oks, vst, vmd, ty, Nat.reduceLeDiff, Nat.reduceMul, Nat.reduceSub, vzr, m745, e]
    all_goals simp only [vmr, vmw, vmp, vza, ↓reduceIte, Nat.reduceBEq, Nat.reduceLT, Nat.reduceAdd, Nat.reduceEqDiff, reduceCtorEq, vmt, vzb, vzc, vlen, vleaf, velems, oks, vst, vmd, ty, Nat.reduceLeDiff, Nat.reduceMul, Nat.reduceSub, m745]
  · have q : ((a.length : Int) != (b.length : Int)) = true := by simp; omega
    rw [alB_len hl]
    simp only [c745, Tryd.f45, gets, sub]
    simp only [vmr, vmw, vmp, vza, ↓reduceIte, Nat.reduceBEq, Nat.reduceLT, Nat.reduceAdd, Nat.reduceEqDiff, reduceCtorEq, vmt, vzb, vzc, vlen, vleaf, velems, oks, vst, vmd, ty, Nat.reduceLeDiff, Nat.reduceMul, Nat.reduceSub, vzr, m745, q]
noncomputable def F45 : List V → Option V := hF (α := List Bn × List Bn) (fun p => [Bs p.1, Bs p.2, fn46]) (fun p => p.1.length ≤ 1000000 ∧ ∀ q ∈ p.1, szs q.e ≤ 1000000) (fun p => .bool (alB p.1 p.2))
theorem F45_eq {a b : List Bn} (ha : a.length ≤ 1000000) (hb : ∀ p ∈ a, szs p.e ≤ 1000000) : F45 [Bs a, Bs b, fn46] = some (.bool (alB a b)) :=
  hF_eq (a := (a, b)) (fun a b h => by
    injection h with h1 h2
    injection h2 with h2
    exact Prod.ext (Bs_inj h1) (Bs_inj h2)) (by simp only [cans, can_Bs]; rfl) ⟨ha, hb⟩
theorem F45_sound : ∀ args v, F45 args = some v → SoundPure Tryd.prog 45 args (.ret v) := hF_sound fun p hp => w45 p.1 p.2 hp.1 hp.2
theorem w20 (a b : List Bn) (ha : a.length ≤ 1000000) (hb : ∀ p ∈ a, szs p.e ≤ 1000000) : SoundPure Tryd.prog 20 [Bs a, Bs b] (.ret (.bool (alB a b))) := by
  refine s720 (H := [(45, F45)]) (sound_cons F45_sound sound_nil) 1 (by simp) rfl ?_
  simp only [c720, Tryd.f20, gets, sub]
  have e := F45_eq (b := b) ha hb
  simp only [vmr, vmw, vmp, vza, ↓reduceIte, Nat.reduceBEq, Nat.reduceLT, Nat.reduceAdd, Nat.reduceEqDiff, reduceCtorEq, vmt, vzb, vzc, vlen, vleaf, velems, oks, vst, vmd, ty, Nat.reduceLeDiff, Nat.reduceMul, Nat.reduceSub, vzr, m720, e]
noncomputable def F20 : List V → Option V := hF (α := List Bn × List Bn) (fun p => [Bs p.1, Bs p.2]) (fun p => p.1.length ≤ 1000000 ∧ ∀ q ∈ p.1, szs q.e ≤ 1000000) (fun p => .bool (alB p.1 p.2))
theorem F20_eq {a b : List Bn} (ha : a.length ≤ 1000000) (hb : ∀ p ∈ a, szs p.e ≤ 1000000) : F20 [Bs a, Bs b] = some (.bool (alB a b)) :=
  hF_eq (a := (a, b)) (two_inj (fun _ _ => Bs_inj) (fun _ _ => Bs_inj)) (by simp only [cans, can_Bs]) ⟨ha, hb⟩
theorem F20_sound : ∀ args v, F20 args = some v → SoundPure Tryd.prog 20 args (.ret v) := hF_sound fun p hp => w20 p.1 p.2 hp.1 hp.2
theorem alB_self : ∀ a : List Bn, alB a a = true
  | [] => rfl
  | p :: r => by rw [alB, alB_self r, alB1, eqB_self]; simp
/-! ### match.Find -/
theorem w72 (p : Bn) (x : List UInt8) : SoundPure Tryd.prog 72 [bnv p.x p.e, .iptr [.str x]] (.ret (.bool (p.x == x))) := by
  refine s772 (H := []) sound_nil 1 (by simp) rfl ?_
  simp only [c772, Tryd.f72, gets, sub]
  simp only [vmr, vmw, vmp, vza, ↓reduceIte, Nat.reduceBEq, Nat.reduceLT, Nat.reduceAdd, Nat.reduceEqDiff, reduceCtorEq, vmt, vzb, vzc, vlen, vleaf, velems, oks, vst, vmd, ty, Nat.reduceLeDiff, Nat.reduceMul, Nat.reduceSub, vzr, m772, strOp]
noncomputable def F72 : List V → Option V := hF (α := Bn × List UInt8) (fun p => [bnv p.1.x p.1.e, .iptr [.str p.2]]) (fun _ => True) (fun p => .bool (p.1.x == p.2))
theorem ipS_inj {a b : List UInt8} (h : V.iptr [.str a] = V.iptr [.str b]) : a = b := by
  injection h with h
  injection h with h
  exact Str_inj h
theorem F72_eq (p : Bn) (x : List UInt8) : F72 [bnv p.x p.e, .iptr [.str x]] = some (.bool (p.x == x)) :=
  hF_eq (a := (p, x)) (two_inj (fun _ _ => bnv_inj) (fun _ _ => ipS_inj)) (by simp only [cans, can_bnv]; rfl) trivial
theorem F72_sound : ∀ args v, F72 args = some v → SoundPure Tryd.prog 72 args (.ret v) := hF_sound fun p _ => w72 p.1 p.2
/-- Where the first of this name stands. -/
def idxB (x : List UInt8) : List Bn → Nat → Int
  | [], _ => -1
  | b :: r, i => if b.x == x then (i : Int) else idxB x r (i + 1)
abbrev fn72 (x : List UInt8) : V := .fn (.func 72) [] [.iptr [.str x]]
def P771 (n : Nat) (v : V) (r : Option (Ex × St)) : Prop := Fin (M771 (hand [(72, F72)]) n) [.tmp 4] r = some (.ret v)
theorem l771 {n k v} {x : List UInt8} (a : List Bn) (ha : a.length ≤ 1000000) : ∀ r i n' s, a.drop i = r → r.length < n' → tget s.τ 0 = Bs a → tget s.τ 1 = fn72 x → tget s.τ 7 = I a.length → tget s.τ 8 = I (i : Nat) →
    I (idxB x r i) = v → (∀ s', I (-1) = v → P771 n v (X (M771 (hand [(72, F72)]) n) (.exit 0) k s')) →
    P771 n v (L (M771 (hand [(72, F72)]) n) (sub [1, 0, 1, 0, 0] c771) n' k s)
  | [], i, n' + 1, s, hi, hn, h0, h1, h7, h8, hv, hx => by
    have hc := inlt (drop_nil' hi)
    rw [L_succ]
    simp only [vmr, vmw, vmp, vza, ↓reduceIte, Nat.reduceBEq, Nat.reduceLT, Nat.reduceAdd, Nat.reduceEqDiff, reduceCtorEq, vmt, vzb, vzc, vlen, vleaf, velems, oks, vst, vmd, ty, Nat.reduceLeDiff, Nat.reduceMul, Nat.reduceSub, c771, Tryd.f71, m771, h0, h1, h7, h8, hc]
    exact hx _ hv
  | p :: r, i, n' + 1, s, hi, hn, h0, h1, h7, h8, hv, hx => by
    obtain ⟨g1, g2, g3⟩ := drop_cons hi
    have hcl := ilt g3
    have ga := bn_get g1
    have w4 := wsuc g3 (by omega)
    have e := F72_eq p x
    have ih := fun s => l771 (n := n) (k := k) (v := v) (x := x) a ha r (i + 1) n' s g2 (by simp at hn; omega)
    simp only [sub, c771, Tryd.f71, gets] at ih
    rw [L_succ]
    rw [idxB] at hv
    cases hq : p.x == x with
    | true =>
      rw [hq] at e
      rw [hq, if_pos rfl] at hv
      rw [← hv]
      simp only [vmr, vmw, vmp, vza, ↓reduceIte, Nat.reduceBEq, Nat.reduceLT, Nat.reduceAdd, Nat.reduceEqDiff, reduceCtorEq, vmt, vzb, vzc, vlen, vleaf, velems, oks, vst, vmd, ty, Nat.reduceLeDiff, Nat.reduceMul, Nat.reduceSub, c771, Tryd.f71, m771, h0, h1, h7, h8, hcl, ga, w4, e]
      unfold P771
      simp only [vmr, vmw, vmp, vza, ↓reduceIte, Nat.reduceBEq, Nat.reduceLT, Nat.reduceAdd, Nat.reduceEqDiff, reduceCtorEq, vmt, vzb, vzc, vlen, vleaf, velems, oks, vst, vmd, ty, Nat.reduceLeDiff, Nat.reduceMul, Nat.reduceSub, vzr, m771]
    | false =>
      rw [hq] at e
      rw [hq, if_neg (by simp)] at hv
      simp only [vmr, vmw, vmp, vza, ↓reduceIte, Nat.reduceBEq, Nat.reduceLT, Nat.reduceAdd, Nat.reduceEqDiff, reduceCtorEq, vmt, vzb, vzc, vlen, vleaf, velems, oks, vst, vmd, ty, Nat.reduceLeDiff, Nat.reduceMul, Nat.reduceSub, c771, Tryd.f71, m771, h0, h1, h7, h8, hcl, ga, w4, e]
      refine ih _ ?_ ?_ ?_ ?_ hv hx
      all_goals simp only [vmr, vmw, vmp, vza, ↓reduceIte, Nat.reduceBEq, Nat.reduceLT, Nat.reduceAdd, Nat.reduceEqDiff, reduceCtorEq, vmt, vzb, vzc, vlen, vleaf, velems, oks, vst, vmd, ty, Nat.reduceLeDiff, Nat.reduceMul, Nat.reduceSub, m771, h0, h1, h7]
theorem w71 (a : List Bn) (x : List UInt8) (ha : a.length ≤ 1000000) : SoundPure Tryd.prog 71 [Bs a, fn72 x] (.ret (I (idxB x a 0))) := by
  refine s771 (H := [(72, F72)]) (sound_cons F72_sound sound_nil) (a.length + 1) (by simp) rfl ?_
  show P771 _ _ _
  have a1 := fun k s => @l771 (a.length + 1) k (I (idxB x a 0)) x a ha a 0 (a.length + 1) s rfl (by omega)
  simp only [c771, Tryd.f71, gets, sub] at a1 ⊢
  simp only [vmr, vmw, vmp, vza, ↓reduceIte, Nat.reduceBEq, Nat.reduceLT, Nat.reduceAdd, Nat.reduceEqDiff, reduceCtorEq, vmt, vzb, vzc, vlen, vleaf, velems, oks, vst, vmd, ty, Nat.reduceLeDiff, Nat.reduceMul, Nat.reduceSub, m771]
  refine a1 _ _ ?_ ?_ ?_ ?_ (by first | trivial | rfl) (fun s' e => ?_)
  case refine_5 =>
    simp only [vmr, vmw, vmp, vza, ↓reduceIte, Nat.reduceBEq, Nat.reduceLT, Nat.reduceAdd, Nat.reduceEqDiff, reduceCtorEq, vmt, vzb, vzc, vlen, vleaf, velems, oks, vst, vmd, ty, Nat.reduceLeDiff, Nat.reduceMul, Nat.reduceSub, m771]
    unfold P771
    simp only [vmr, vmw, vmp, vza, ↓reduceIte, Nat.reduceBEq, Nat.reduceLT, Nat.reduceAdd, Nat.reduceEqDiff, reduceCtorEq, vmt, vzb, vzc, vlen, vleaf, velems, oks, vst, vmd, ty, Nat.reduceLeDiff, Nat.reduceMul, Nat.reduceSub, vzr, m771, e]
  all_goals simp only [vmr, vmw, vmp, vza, ↓reduceIte, Nat.reduceBEq, Nat.reduceLT, Nat.reduceAdd, Nat.reduceEqDiff, reduceCtorEq, vmt, vzb, vzc, vlen, vleaf, velems, oks, vst, vmd, ty, Nat.reduceLeDiff, Nat.reduceMul, Nat.reduceSub, m771]
theorem fn72_inj {a b : List UInt8} (h : fn72 a = fn72 b) : a = b := by
  injection h with _ _ h
  injection h with h
  exact ipS_inj h
noncomputable def F71 : List V → Option V := hF (α := List Bn × List UInt8) (fun p => [Bs p.1, fn72 p.2]) (fun p => p.1.length ≤ 1000000) (fun p => I (idxB p.2 p.1 0))
theorem F71_eq {a : List Bn} {x : List UInt8} (ha : a.length ≤ 1000000) : F71 [Bs a, fn72 x] = some (I (idxB x a 0)) :=
  hF_eq (a := (a, x)) (two_inj (fun _ _ => Bs_inj) (fun _ _ => fn72_inj)) (by simp only [cans, can_Bs]; rfl) ha
theorem F71_sound : ∀ args v, F71 args = some v → SoundPure Tryd.prog 71 args (.ret v) := hF_sound fun p hp => w71 p.1 p.2 hp
theorem idx_find (x : List UInt8) : ∀ (l : List Bn) (i : Nat), (∃ j b, l[j]? = some b ∧ b.x = x ∧ findB x l = some b.e ∧ idxB x l i = ((i + j : Nat) : Int)) ∨ (findB x l = none ∧ idxB x l i = -1)
  | [], i => .inr ⟨rfl, rfl⟩
  | b :: r, i => by
    simp only [findB, idxB]
    cases h : b.x == x with
    | true => exact .inl ⟨0, b, rfl, by simpa using h, rfl, rfl⟩
    | false =>
      rw [if_neg (by simp), if_neg (by simp)]
      rcases idx_find x r (i + 1) with ⟨j, c, h1, h2, h3, h4⟩ | ⟨h1, h2⟩
      · exact .inl ⟨j + 1, c, h1, h2, h3, by rw [h4]; omega⟩
      · exact .inr ⟨h1, h2⟩
noncomputable abbrev T747 : List (FuncId × (List V → Option V)) := [(48, Fcopy), (71, F71)]
theorem h747 : SoundHand Tryd.prog (hand T747) := sound_cons F48_sound (sound_cons F71_sound sound_nil)
theorem w47 (a : List Bn) (x : List UInt8) (h : bnsOk a) : SoundPure Tryd.prog 47 [Bs a, .str x] (.ret (valR (findB x a))) := by
  refine s747 h747 1 (by simp) (by cases findB x a <;> rfl) ?_
  simp only [c747, Tryd.f47, gets, sub]
  have e := F71_eq (x := x) h.1
  rcases idx_find x a 0 with ⟨j, b, h1, h2, h3, h4⟩ | ⟨h3, h4⟩
  · rw [h4, Nat.zero_add] at e
    rw [h3]
    have ga := bn_get h1
    have q : (((j : Nat) : Int) < 0) = False := eq_false (by omega)
    have e2 := Fcopy_eq (a := b.e) (h.2 b (List.mem_of_getElem? h1)).2.1
    simp only [vmr, vmw, vmp, vza, ↓reduceIte, Nat.reduceBEq, Nat.reduceLT, Nat.reduceAdd, Nat.reduceEqDiff, reduceCtorEq, vmt, vzb, vzc, vlen, vleaf, velems, oks, vst, vmd, ty, Nat.reduceLeDiff, Nat.reduceMul, Nat.reduceSub, vzr, m747, e, q, ga, e2, valR]
  · rw [h4] at e
    rw [h3]
    simp only [vmr, vmw, vmp, vza, ↓reduceIte, Nat.reduceBEq, Nat.reduceLT, Nat.reduceAdd, Nat.reduceEqDiff, reduceCtorEq, vmt, vzb, vzc, vlen, vleaf, velems, oks, vst, vmd, ty, Nat.reduceLeDiff, Nat.reduceMul, Nat.reduceSub, vzr, m747, e, valR, show ((-1 : Int) < 0) = True from eq_true (by decide)]
noncomputable def F47 : List V → Option V := hF (α := List Bn × List UInt8) (fun p => [Bs p.1, .str p.2]) (fun p => bnsOk p.1) (fun p => findI (findB p.2 p.1))
theorem F47_eq {a : List Bn} {x : List UInt8} (h : bnsOk a) : F47 [Bs a, .str x] = some (findI (findB x a)) := hF_eq (a := (a, x)) (two_inj (fun _ _ => Bs_inj) (fun _ _ => Str_inj)) (by simp only [cans, can_Bs, canStr]) h
theorem can_valR (o : Option (List Tm)) : can (imm (valR o)) = findI o := by
  cases o with
  | none => rfl
  | some e => show V.tup [can (imm (Ts e)), .bool true] = _; rw [show imm (Ts e) = Ts e from by simp only [imm], can_Ts]; rfl
theorem F47_sound : ∀ args v, F47 args = some v → SoundPure Tryd.prog 47 args (.ret v) := hF_sound fun p hp => by
  have := sound_imm (w47 p.1 p.2 hp) (by cases findB p.2 p.1 <;> rfl)
  rw [can_valR] at this
  exact this
end Go.Vi
set_option maxRecDepth 100000
set_option maxHeartbeats 1000000
namespace Go.Vi
open Go Go.Proofs

def toOk (b : List Bn) (p : Bn) : Bool := (toL p.e b).2 == 0
def unB (b : List Bn) (p : Bn) : Bn := ⟨p.x, unL b p.e⟩
def comR (a b : List Bn) : List Bn := b.filter fun q => !(findB q.x a).isSome
def comL (a b : List Bn) : List Bn := a.map (unB b) ++ comR a b
def comB (a b : List Bn) : List Bn × Int := if chkB a ≠ 0 then ([], chkB a) else if chkB b ≠ 0 then ([], chkB b) else if a.all (toOk b) = false then ([], 7) else if (comL a b).length > 4000 then ([], 5) else (comL a b, 0)
theorem toL_bad {e b} (h : (toL e b).2 ≠ 0) : toL e b = ([], 7) := by
  unfold toL at *
  split
  · rfl
  · rename_i q; rw [if_neg q] at h; exact absurd rfl h
theorem toL_good {e b} (h : (toL e b).2 = 0) : toL e b = (unL b e, 0) := by
  unfold toL at *
  split
  · rename_i q; rw [if_pos q] at h; simp at h
  · rfl
theorem room59 {n : Nat} (h : n ≤ 2000000) : roomOk Tryd.prog 59 n = true := by simp [roomOk, ty, cellsV, leafV]; omega
theorem fits59 (x : List UInt8) (e : List Tm) : fitsE Tryd.prog 59 (bnv x e) = true := by simp [fitsE, ty, leafV]
noncomputable abbrev T721 : List (FuncId × (List V → Option V)) := [(14, Fchk), (30, Fto0), (47, F47), (48, Fcopy)]
theorem h721 : SoundHand Tryd.prog (hand T721) := sound_cons F14_sound <| sound_cons F30_sound <| sound_cons F47_sound <| sound_cons F48_sound sound_nil
def A21 (s : St) (d : List Bn) : Prop := ∃ v8 sz, (sz = 2 ∨ sz = 0) ∧ tget s.τ 8 = .ref ⟨0, 8, 0⟩ v8 0 d.length ∧ lget s.L (8, 0) = some (v8, .arr sz (d.map Bn.v))
theorem A21.of {s d} (h : tget s.τ 8 = .ref ⟨0, 8, 0⟩ (ver s (8, 0)) 0 d.length) (h' : lget s.L (8, 0) = some (ver s (8, 0), .arr 2 (d.map Bn.v))) : A21 s d := ⟨_, 2, .inl rfl, h, h'⟩
def P721 (n : Nat) (v : V) (r : Option (Ex × St)) : Prop := Fin (M721 (hand T721) n) [.tmp 4, .tmp 5] r = some (.ret v)
theorem l721a {n k} {P : Option (Ex × St) → Prop} (a b : List Bn) (ha : bnsOk a) (hb : bnsOk b) (hd : nds b) : ∀ r i d n' s, a.drop i = r → r.length < n' → d.length + r.length ≤ 1000000 → A21 s d → tget s.τ 0 = Bs a → tget s.τ 1 = Bs b → tget s.τ 27 = Bs a → tget s.τ 28 = I a.length → tget s.τ 29 = I (i : Nat) →
    (∀ s', r.all (toOk b) = true → A21 s' (d ++ r.map (unB b)) → tget s'.τ 0 = Bs a → tget s'.τ 1 = Bs b → P (X (M721 (hand T721) n) (.exit 0) k s')) →
    (∀ s', r.all (toOk b) = false → tget s'.τ 4 = .nilS → tget s'.τ 5 = I 7 → P (some (.ret, s'))) →
    P (L (M721 (hand T721) n) (sub [1, 1, 1, 1, 0, 1, 0, 0] c721) n' k s)
  | [], i, d, n' + 1, s, hi, hn, hl, ⟨v8, sz, hz, h8, h8'⟩, h0, h1, h27, h28, h29, hq, hf => by
    have hc := inlt (drop_nil' hi)
    rw [L_succ]
    simp only [vmr, vmw, vmp, vza, ↓reduceIte, Nat.reduceBEq, Nat.reduceLT, Nat.reduceAdd, Nat.reduceEqDiff, reduceCtorEq, vmt, vzb, vzc, vlen, vleaf, velems, oks, vst, vmd, ty, Nat.reduceLeDiff, Nat.reduceMul, Nat.reduceSub, c721, Tryd.f21, m721, h27, h28, h29, hc]
    refine hq _ rfl ⟨v8, sz, hz, ?_, ?_⟩ ?_ ?_
    all_goals simp only [vmr, vmw, vmp, vza, ↓reduceIte, Nat.reduceBEq, Nat.reduceLT, Nat.reduceAdd, Nat.reduceEqDiff, reduceCtorEq, vmt, vzb, vzc, vlen, vleaf, velems, oks, vst, vmd, ty, Nat.reduceLeDiff, Nat.reduceMul, Nat.reduceSub, m721, h0, h1, h8, h8', List.map_nil, List.append_nil]
  | p :: r, i, d, n' + 1, s, hi, hn, hl, ⟨v8, sz, hz, h8, h8'⟩, h0, h1, h27, h28, h29, hq, hf => by
    obtain ⟨g1, g2, g3⟩ := drop_cons hi
    have hcl := ilt g3
    have ga := bn_get g1
    have hm := List.mem_of_getElem? g1
    have hz' := eq_true hz
    have w4 := wsuc g3 (by have := ha.1; omega)
    have e1 : Fto0 [Ts p.e, Bs b] = some (.tup [Ts (toL p.e b).1, I (toL p.e b).2]) := Fto0_eq (ha.2 p hm).2.1 (ha.2 p hm).2.2 hb hd
    have ih := fun d s => l721a (n := n) (k := k) (P := P) a b ha hb hd r (i + 1) d n' s g2 (by simp at hn; omega)
    simp only [sub, c721, Tryd.f21, gets] at ih
    rw [L_succ]
    by_cases q : (toL p.e b).2 = 0
    · have ho : toOk b p = true := by simp [toOk, q]
      rw [toL_good q] at e1
      have n0 : ((0 : Int) != 0) = false := rfl
      have r1 := @room59 1 (by omega)
      have r2 := @room59 (d.length + 1) (by simp at hl; omega)
      have f1 := fits59 p.x (unL b p.e)
      rw [List.all_cons, ho, Bool.true_and, List.map_cons, List.append_cons] at hq
      rw [List.all_cons, ho, Bool.true_and] at hf
      simp only [vmr, vmw, vmp, vza, ↓reduceIte, Nat.reduceBEq, Nat.reduceLT, Nat.reduceAdd, Nat.reduceEqDiff, reduceCtorEq, vmt, vzb, vzc, vlen, vleaf, velems, oks, vst, vmd, ty, Nat.reduceLeDiff, Nat.reduceMul, Nat.reduceSub, c721, Tryd.f21, m721, h0, h1, h27, h28, h29, h8, h8', hcl, ga, w4, e1, n0, r1, r2, f1, hz', List.map_cons, List.map_nil]
      refine ih (d ++ [unB b p]) _ (by simp at hl ⊢; omega) (A21.of ?_ ?_) ?_ ?_ ?_ ?_ ?_ hq hf
      all_goals simp only [vmr, vmw, vmp, vza, ↓reduceIte, Nat.reduceBEq, Nat.reduceLT, Nat.reduceAdd, Nat.reduceEqDiff, reduceCtorEq, vmt, vzb, vzc, vlen, vleaf, velems, oks, vst, vmd, ty, Nat.reduceLeDiff, Nat.reduceMul, Nat.reduceSub, m721, ver, h0, h1, h27, h28, List.length_append, List.map_append, List.map_cons, List.map_nil, unB, Bn.v]
    · have ho : toOk b p = false := by simpa [toOk] using q
      rw [toL_bad q] at e1
      have n0 : ((7 : Int) != 0) = true := rfl
      rw [List.all_cons, ho, Bool.false_and] at hf
      simp only [vmr, vmw, vmp, vza, ↓reduceIte, Nat.reduceBEq, Nat.reduceLT, Nat.reduceAdd, Nat.reduceEqDiff, reduceCtorEq, vmt, vzb, vzc, vlen, vleaf, velems, oks, vst, vmd, ty, Nat.reduceLeDiff, Nat.reduceMul, Nat.reduceSub, c721, Tryd.f21, m721, h0, h1, h27, h28, h29, hcl, ga, w4, e1, n0]
      refine hf _ rfl ?_ ?_
      all_goals simp only [vmr, vmw, vmp, vza, ↓reduceIte, Nat.reduceBEq, Nat.reduceLT, Nat.reduceAdd, Nat.reduceEqDiff, reduceCtorEq, vmt, vzb, vzc, vlen, vleaf, velems, oks, vst, vmd, ty, Nat.reduceLeDiff, Nat.reduceMul, Nat.reduceSub, m721]
theorem l721b {n k} {P : Option (Ex × St) → Prop} (a b : List Bn) (ha : bnsOk a) (hb : bnsOk b) : ∀ r i d n' s, b.drop i = r → r.length < n' → d.length + r.length ≤ 2000000 → A21 s d → tget s.τ 0 = Bs a → tget s.τ 51 = Bs b → tget s.τ 52 = I b.length → tget s.τ 53 = I (i : Nat) →
    (∀ s', A21 s' (d ++ comR a r) → P (X (M721 (hand T721) n) (.exit 2) k s')) →
    P (L (M721 (hand T721) n) (sub [1, 1, 1, 1, 1, 0, 1, 0, 0] c721) n' k s)
  | [], i, d, n' + 1, s, hi, hn, hl, ⟨v8, sz, hz, h8, h8'⟩, h0, h51, h52, h53, hq => by
    have hc := inlt (drop_nil' hi)
    rw [L_succ]
    simp only [vmr, vmw, vmp, vza, ↓reduceIte, Nat.reduceBEq, Nat.reduceLT, Nat.reduceAdd, Nat.reduceEqDiff, reduceCtorEq, vmt, vzb, vzc, vlen, vleaf, velems, oks, vst, vmd, ty, Nat.reduceLeDiff, Nat.reduceMul, Nat.reduceSub, c721, Tryd.f21, m721, h51, h52, h53, hc]
    refine hq _ ⟨v8, sz, hz, ?_, ?_⟩
    all_goals simp only [vmr, vmw, vmp, vza, ↓reduceIte, Nat.reduceBEq, Nat.reduceLT, Nat.reduceAdd, Nat.reduceEqDiff, reduceCtorEq, vmt, vzb, vzc, vlen, vleaf, velems, oks, vst, vmd, ty, Nat.reduceLeDiff, Nat.reduceMul, Nat.reduceSub, m721, h8, h8', comR, List.filter_nil, List.append_nil]
  | p :: r, i, d, n' + 1, s, hi, hn, hl, ⟨v8, sz, hz, h8, h8'⟩, h0, h51, h52, h53, hq => by
    obtain ⟨g1, g2, g3⟩ := drop_cons hi
    have hcl := ilt g3
    have ga := bn_get g1
    have hm := List.mem_of_getElem? g1
    have hz' := eq_true hz
    have w4 := wsuc g3 (by have := hb.1; omega)
    have e1 := F47_eq (x := p.x) ha
    have hdw := @d721_21 (hand T721) n
    have ih := fun d s => l721b (n := n) (k := k) (P := P) a b ha hb r (i + 1) d n' s g2 (by simp at hn; omega)
    simp only [sub, c721, Tryd.f21, gets, opsAt] at ih hdw
    rw [L_succ]
    cases hv : findB p.x a with
    | some w =>
      have hr : comR a (p :: r) = comR a r := by simp [comR, hv]
      rw [hr] at hq
      rw [hv] at e1
      simp only [findI] at e1
      simp only [vmr, vmw, vmp, vza, ↓reduceIte, Nat.reduceBEq, Nat.reduceLT, Nat.reduceAdd, Nat.reduceEqDiff, reduceCtorEq, vmt, vzb, vzc, vlen, vleaf, velems, oks, vst, vmd, ty, Nat.reduceLeDiff, Nat.reduceMul, Nat.reduceSub, c721, Tryd.f21, m721, h0, h51, h52, h53, h8, h8', hcl, ga, w4, e1]
      refine ih d _ (by simp at hl; omega) ⟨v8, sz, hz, ?_, ?_⟩ ?_ ?_ ?_ ?_ hq
      all_goals simp only [vmr, vmw, vmp, vza, ↓reduceIte, Nat.reduceBEq, Nat.reduceLT, Nat.reduceAdd, Nat.reduceEqDiff, reduceCtorEq, vmt, vzb, vzc, vlen, vleaf, velems, oks, vst, vmd, ty, Nat.reduceLeDiff, Nat.reduceMul, Nat.reduceSub, m721, h0, h51, h52, h8, h8']
    | none =>
      have hr : comR a (p :: r) = p :: comR a r := by simp [comR, hv]
      rw [hr, List.append_cons] at hq
      rw [hv] at e1
      simp only [findI] at e1
      have e2 := Fcopy_eq (a := p.e) (hb.2 p hm).2.1
      have r1 := @room59 1 (by omega)
      have r2 := @room59 (d.length + 1) (by simp at hl; omega)
      have f1 := fits59 p.x p.e
      simp only [vmr, vmw, vmp, vza, ↓reduceIte, Nat.reduceBEq, Nat.reduceLT, Nat.reduceAdd, Nat.reduceEqDiff, reduceCtorEq, vmt, vzb, vzc, vlen, vleaf, velems, oks, vst, vmd, ty, Nat.reduceLeDiff, Nat.reduceMul, Nat.reduceSub, c721, Tryd.f21, m721, h0, h51, h52, h53, h8, h8', hcl, ga, w4, e1, e2, r1, r2, f1, hz', hdw, List.map_cons, List.map_nil]
      refine ih (d ++ [p]) _ (by simp at hl ⊢; omega) (A21.of ?_ ?_) ?_ ?_ ?_ ?_ hq
      all_goals simp only [vmr, vmw, vmp, vza, ↓reduceIte, Nat.reduceBEq, Nat.reduceLT, Nat.reduceAdd, Nat.reduceEqDiff, reduceCtorEq, vmt, vzb, vzc, vlen, vleaf, velems, oks, vst, vmd, ty, Nat.reduceLeDiff, Nat.reduceMul, Nat.reduceSub, m721, ver, h0, h51, h52, List.length_append, List.map_append, List.map_cons, List.map_nil, Bn.v]
end Go.Vi
set_option maxRecDepth 100000
set_option maxHeartbeats 1000000
namespace Go.Vi
open Go Go.Proofs

theorem imm_bv (b : Bn) : imm b.v = b.v := rfl
theorem pureLB : ∀ l : List Bn, pureRL (l.map Bn.v) = true
  | [] => rfl
  | ⟨x, e⟩ :: r => by simp only [List.map_cons, pureRL, Bn.v, pureR, pureLB r, Bool.and_self]
abbrev comV (p : List Bn × Int) : V := .tup [Bs p.1, I p.2]
theorem can_comO (sz : Nat) (d : List Bn) (k : Int) : can (imm (.tup [.own sz (d.map Bn.v), I k])) = .tup [Bs d, I k] := by
  show V.tup [can (imm (.own sz (d.map Bn.v))), _] = _
  rw [show imm (.own sz (d.map Bn.v)) = V.lst (d.map Bn.v) by simp only [imm, imms_map imm_bv], can_Bs]
  rfl
theorem w21 (a b : List Bn) (ha : bnsOk a) (hb : bnsOk b) : SoundPure Tryd.prog 21 [Bs a, Bs b] (.ret (comV (comB a b))) := by
  have e1 := Fchk_eq ha
  have e2 := Fchk_eq hb
  have n0 : ((0 : Int) != 0) = false := rfl
  unfold comB
  by_cases q1 : chkB a = 0
  case neg =>
    have q1' : (chkB a != 0) = true := by simpa using q1
    rw [if_pos q1]
    have : SoundPure Tryd.prog 21 [Bs a, Bs b] (.ret (.tup [.nilS, I (chkB a)])) := by
      refine s721 h721 1 (by simp) rfl ?_
      simp only [c721, Tryd.f21, gets, sub]
      simp only [vmr, vmw, vmp, vza, ↓reduceIte, Nat.reduceBEq, Nat.reduceLT, Nat.reduceAdd, Nat.reduceEqDiff, reduceCtorEq, vmt, vzb, vzc, vlen, vleaf, velems, oks, vst, vmd, ty, Nat.reduceLeDiff, Nat.reduceMul, Nat.reduceSub, vzr, m721, e1, q1']
    exact sound_imm this rfl
  rw [if_neg (by simp [q1])]
  rw [q1] at e1
  by_cases q2 : chkB b = 0
  case neg =>
    have q2' : (chkB b != 0) = true := by simpa using q2
    rw [if_pos q2]
    have : SoundPure Tryd.prog 21 [Bs a, Bs b] (.ret (.tup [.nilS, I (chkB b)])) := by
      refine s721 h721 1 (by simp) rfl ?_
      simp only [c721, Tryd.f21, gets, sub]
      simp only [vmr, vmw, vmp, vza, ↓reduceIte, Nat.reduceBEq, Nat.reduceLT, Nat.reduceAdd, Nat.reduceEqDiff, reduceCtorEq, vmt, vzb, vzc, vlen, vleaf, velems, oks, vst, vmd, ty, Nat.reduceLeDiff, Nat.reduceMul, Nat.reduceSub, vzr, m721, e1, n0, e2, q2']
    exact sound_imm this rfl
  rw [if_neg (by simp [q2])]
  rw [q2] at e2
  have hd := chkB_nds q2
  have lf : (comR a b).length ≤ b.length := List.length_filter_le ..
  have lc : (comL a b).length = a.length + (comR a b).length := by simp [comL]
  have l1 := ha.1
  have l2 := hb.1
  let Po : Option (Ex × St) → Prop := fun r => ∃ v, pureR v = true ∧ can (imm v) = comV (if a.all (toOk b) = false then ([], 7) else if (comL a b).length > 4000 then ([], 5) else (comL a b, 0)) ∧ P721 (a.length + b.length + 1) v r
  have key : Po (R (M721 (hand T721) (a.length + b.length + 1)) c721 .top ⟨params 0 [Bs a, Bs b], [], fun _ => none, 0⟩) := by
    have a1 := fun k s => @l721a (a.length + b.length + 1) k Po a b ha hb hd a 0 [] (a.length + b.length + 1) s rfl (by omega) (by simpa using l1)
    have a2 := fun k s => @l721b (a.length + b.length + 1) k Po a b ha hb b 0 (a.map (unB b)) (a.length + b.length + 1) s rfl (by omega) (by simp; omega)
    simp only [c721, Tryd.f21, gets, sub] at a1 a2 ⊢
    simp only [vmr, vmw, vmp, vza, ↓reduceIte, Nat.reduceBEq, Nat.reduceLT, Nat.reduceAdd, Nat.reduceEqDiff, reduceCtorEq, vmt, vzb, vzc, vlen, vleaf, velems, oks, vst, vmd, ty, Nat.reduceLeDiff, Nat.reduceMul, Nat.reduceSub, m721, e1, e2, n0]
    refine a1 _ _ ⟨0, 0, .inr rfl, ?_, ?_⟩ ?_ ?_ ?_ ?_ ?_ (fun s' ho hA h0 h1 => ?_) (fun s' ho h4 h5 => ?_)
    case refine_8 =>
      rw [List.nil_append] at hA
      simp only [vmr, vmw, vmp, vza, ↓reduceIte, Nat.reduceBEq, Nat.reduceLT, Nat.reduceAdd, Nat.reduceEqDiff, reduceCtorEq, vmt, vzb, vzc, vlen, vleaf, velems, oks, vst, vmd, ty, Nat.reduceLeDiff, Nat.reduceMul, Nat.reduceSub, m721, h0, h1]
      refine a2 _ _ ?_ ?_ ?_ ?_ ?_ (fun s2 hB => ?_)
      case refine_1 =>
        obtain ⟨v8, sz, hz, h8, h8'⟩ := hA
        refine ⟨v8, sz, hz, ?_, ?_⟩
        all_goals simp only [vmr, vmw, vmp, vza, ↓reduceIte, Nat.reduceBEq, Nat.reduceLT, Nat.reduceAdd, Nat.reduceEqDiff, reduceCtorEq, vmt, vzb, vzc, vlen, vleaf, velems, oks, vst, vmd, ty, Nat.reduceLeDiff, Nat.reduceMul, Nat.reduceSub, m721, h8, h8']
      case refine_6 =>
        change A21 s2 (comL a b) at hB
        obtain ⟨v8, sz, hz, h8, h8'⟩ := hB
        by_cases q : (comL a b).length > 4000
        · have q' : (((comL a b).length : Int) > 4000) = True := eq_true (by omega)
          refine ⟨.tup [.nilS, I 5], rfl, ?_, ?_⟩
          · rw [if_neg (by simp [ho]), if_pos q]; rfl
          · simp only [vmr, vmw, vmp, vza, ↓reduceIte, Nat.reduceBEq, Nat.reduceLT, Nat.reduceAdd, Nat.reduceEqDiff, reduceCtorEq, vmt, vzb, vzc, vlen, vleaf, velems, oks, vst, vmd, ty, Nat.reduceLeDiff, Nat.reduceMul, Nat.reduceSub, m721, h8, h8', q']
            unfold P721
            simp only [vmr, vmw, vmp, vza, ↓reduceIte, Nat.reduceBEq, Nat.reduceLT, Nat.reduceAdd, Nat.reduceEqDiff, reduceCtorEq, vmt, vzb, vzc, vlen, vleaf, velems, oks, vst, vmd, ty, Nat.reduceLeDiff, Nat.reduceMul, Nat.reduceSub, vzr, m721]
        · have q' : (((comL a b).length : Int) > 4000) = False := eq_false (by omega)
          refine ⟨.tup [.own sz ((comL a b).map Bn.v), I 0], by simp only [pureR, pureRL, pureLB, Bool.and_self], ?_, ?_⟩
          · rw [if_neg (by simp [ho]), if_neg q]; exact can_comO ..
          · simp only [vmr, vmw, vmp, vza, ↓reduceIte, Nat.reduceBEq, Nat.reduceLT, Nat.reduceAdd, Nat.reduceEqDiff, reduceCtorEq, vmt, vzb, vzc, vlen, vleaf, velems, oks, vst, vmd, ty, Nat.reduceLeDiff, Nat.reduceMul, Nat.reduceSub, m721, h8, h8', q']
            unfold P721
            simp only [vmr, vmw, vmp, vza, ↓reduceIte, Nat.reduceBEq, Nat.reduceLT, Nat.reduceAdd, Nat.reduceEqDiff, reduceCtorEq, vmt, vzb, vzc, vlen, vleaf, velems, oks, vst, vmd, ty, Nat.reduceLeDiff, Nat.reduceMul, Nat.reduceSub, vzr, m721, h8', take_len]
      all_goals simp only [vmr, vmw, vmp, vza, ↓reduceIte, Nat.reduceBEq, Nat.reduceLT, Nat.reduceAdd, Nat.reduceEqDiff, reduceCtorEq, vmt, vzb, vzc, vlen, vleaf, velems, oks, vst, vmd, ty, Nat.reduceLeDiff, Nat.reduceMul, Nat.reduceSub, m721, h0, h1]
    case refine_9 =>
      refine ⟨.tup [.nilS, I 7], rfl, ?_, ?_⟩
      · rw [if_pos ho]; rfl
      · unfold P721
        simp only [vmr, vmw, vmp, vza, ↓reduceIte, Nat.reduceBEq, Nat.reduceLT, Nat.reduceAdd, Nat.reduceEqDiff, reduceCtorEq, vmt, vzb, vzc, vlen, vleaf, velems, oks, vst, vmd, ty, Nat.reduceLeDiff, Nat.reduceMul, Nat.reduceSub, vzr, m721, h4, h5]
    all_goals simp only [vmr, vmw, vmp, vza, ↓reduceIte, Nat.reduceBEq, Nat.reduceLT, Nat.reduceAdd, Nat.reduceEqDiff, reduceCtorEq, vmt, vzb, vzc, vlen, vleaf, velems, oks, vst, vmd, ty, Nat.reduceLeDiff, Nat.reduceMul, Nat.reduceSub, m721]
    all_goals rfl
  obtain ⟨v, hp, hc, hk⟩ := key
  have := sound_imm (s721 h721 (a.length + b.length + 1) (by simp) hp hk) hp
  rw [hc] at this
  exact this
noncomputable def F21 : List V → Option V := hF (α := List Bn × List Bn) (fun p => [Bs p.1, Bs p.2]) (fun p => bnsOk p.1 ∧ bnsOk p.2) (fun p => comV (comB p.1 p.2))
theorem F21_eq {a b : List Bn} (ha : bnsOk a) (hb : bnsOk b) : F21 [Bs a, Bs b] = some (.tup [Bs (comB a b).1, I (comB a b).2]) :=
  hF_eq (a := (a, b)) (two_inj (fun _ _ => Bs_inj) (fun _ _ => Bs_inj)) (by simp only [cans, can_Bs]) ⟨ha, hb⟩
theorem F21_sound : ∀ args v, F21 args = some v → SoundPure Tryd.prog 21 args (.ret v) := hF_sound fun p hp => w21 p.1 p.2 hp.1 hp.2
end Go.Vi
set_option maxRecDepth 100000
set_option maxHeartbeats 1000000
namespace Go.Vi
open Go Go.Proofs

theorem toB_ok {e : List Tm} {l : List Bn} (h : (toB e l).2 = 0) : (toB e l).1 = unL l e := by
  unfold toB toL at *
  split
  · rename_i q; rw [if_pos q] at h; exact absurd h q
  · rename_i q
    rw [if_neg q] at h
    split
    · rename_i q2; rw [if_pos q2] at h; exact absurd h q2
    · rename_i q2
      rw [if_neg q2] at h
      split
      · rename_i q3; rw [if_pos q3] at h; simp at h
      · rfl
theorem unL_app (l : List Bn) : ∀ a b : List Tm, unL l (a ++ b) = unL l a ++ unL l b
  | [], b => by simp [unL]
  | x :: r, b => by simp only [List.cons_append, unL, unL_app l r b, List.append_assoc]
theorem txs_app : ∀ {a b : List Tm}, txs a → txs b → txs (a ++ b)
  | [], b, _, h => h
  | x :: r, b, h, h' => by
    simp only [List.cons_append, txs] at h ⊢
    exact ⟨h.1, txs_app h.2 h'⟩
end Go.Vi
namespace Go.Vi
open Go Go.Proofs

/-! ### composition -/
theorem findB_map (f : List Tm → List Tm) (x : List UInt8) : ∀ l : List Bn, findB x (l.map fun p => ⟨p.x, f p.e⟩) = (findB x l).map f
  | [] => rfl
  | p :: r => by
    simp only [List.map_cons, findB]
    split
    · rfl
    · exact findB_map f x r
theorem findB_app (x : List UInt8) : ∀ a b : List Bn, findB x (a ++ b) = match findB x a with | some v => some v | none => findB x b
  | [], b => rfl
  | p :: r, b => by
    simp only [List.cons_append, findB]
    split
    · rfl
    · exact findB_app x r b
theorem findB_comR {x : List UInt8} {a : List Bn} (h : findB x a = none) : ∀ b : List Bn, findB x (comR a b) = findB x b
  | [] => rfl
  | p :: r => by
    unfold comR
    rw [List.filter_cons]
    cases hp : findB p.x a with
    | none =>
      simp only [Option.isSome_none, Bool.not_false, if_true, findB]
      split
      · rfl
      · exact findB_comR h r
    | some w =>
      simp only [Option.isSome_some, Bool.not_true, Bool.false_eq_true, if_false, findB]
      have : (p.x == x) = false := by
        cases q : p.x == x with
        | false => rfl
        | true => rw [show p.x = x by simpa using q, h] at hp; cases hp
      rw [this, if_neg (by simp)]
      exact findB_comR h r
theorem valB_com (a b : List Bn) (k : Int) (s : List UInt8) : valB (comL a b) k s = match valB a k s with | some v => some (unL b v) | none => valB b k s := by
  unfold valB
  split
  · unfold comL
    rw [findB_app]
    have := findB_map (unL b) (nameV k s) a
    rw [show a.map (unB b) = a.map fun p => ⟨p.x, unL b p.e⟩ from rfl, this]
    cases h : findB (nameV k s) a with
    | some v => rfl
    | none => exact findB_comR h b
  · rfl
mutual
theorem unT_com (a b : List Bn) : ∀ t : Tm, unL b (unT a t) = unT (comL a b) t
  | .mk k s c => by
    rw [unT, unT, valB_com]
    cases h : valB a k s with
    | some v => rfl
    | none =>
      simp only [unL, unT, List.append_nil]
      cases h2 : valB b k s with
      | some v => rfl
      | none => simp only [unL_com a b c]
theorem unL_com (a b : List Bn) : ∀ l : List Tm, unL b (unL a l) = unL (comL a b) l
  | [] => rfl
  | t :: r => by rw [unL, unL_app, unT_com a b t, unL_com a b r, unL]
end
/-! ### check, in words -/
def bgood (b : Bn) : Prop := ∃ k r, varB b.x = some (k, r) ∧ errB 8 b.e = 0 ∧ fitsB k b.e = true
theorem chkL_good : ∀ (l : List Bn) (W : List (List UInt8)), chkL W l = 0 → ∀ b ∈ l, bgood b
  | [], W, _, b, h => by cases h
  | p :: r, W, h, b, hb => by
    unfold chkL at h
    split at h
    · cases h
    · rename_i k x hx
      split at h
      · cases h
      · split at h
        · rename_i he; exact absurd h he
        · rename_i he
          split at h
          · rename_i hf
            rcases List.mem_cons.1 hb with rfl | hb
            · exact ⟨k, x, hx, by simpa using he, hf⟩
            · exact chkL_good r _ h b hb
          · cases h
theorem chkL_of : ∀ (l : List Bn) (W : List (List UInt8)), (∀ b ∈ l, W.contains b.x = false) → nds l → (∀ b ∈ l, bgood b) → chkL W l = 0
  | [], W, _, _, _ => rfl
  | p :: r, W, hW, hd, hg => by
    obtain ⟨k, x, h1, h2, h3⟩ := hg p (by simp)
    have hp := hW p (by simp)
    unfold nds at hd
    rw [List.map_cons, List.nodup_cons] at hd
    unfold chkL
    rw [h1]
    simp only [hp, h2, h3]
    rw [if_neg (by simp), if_neg (by simp), if_pos trivial]
    refine chkL_of r _ (fun b hb => ?_) hd.2 (fun b hb => hg b (by simp [hb]))
    have := hW b (by simp [hb])
    simp only [List.contains_eq_mem, List.mem_append, List.mem_singleton, decide_eq_false_iff_not] at this ⊢
    rintro (h | h)
    · exact this h
    · exact hd.1 (h ▸ List.mem_map.2 ⟨b, hb, rfl⟩)
theorem chkB_good {l : List Bn} (h : chkB l = 0) : l.length ≤ 4000 ∧ ∀ b ∈ l, bgood b := by
  unfold chkB at h
  split at h
  · cases h
  · exact ⟨by omega, chkL_good l [] h⟩
theorem chkB_of {l : List Bn} (hl : l.length ≤ 4000) (hd : nds l) (hg : ∀ b ∈ l, bgood b) : chkB l = 0 := by
  unfold chkB
  rw [if_neg (by omega)]
  exact chkL_of l [] (fun b _ => rfl) hd hg
theorem errB_iff {e : List Tm} : errB 8 e = 0 ↔ szs e ≤ 4000 ∧ dps e ≤ 100 ∧ fms 8 e = true := by
  unfold errB
  split
  · constructor
    · intro h; cases h
    · intro h; omega
  · split
    · constructor
      · intro h; cases h
      · intro h; omega
    · split
      · rename_i h; exact ⟨fun _ => ⟨by omega, by omega, h⟩, fun _ => rfl⟩
      · rename_i h; exact ⟨fun q => (by cases q), fun q => absurd q.2.2 h⟩
/-- Every value found is right, and fits its kind. -/
theorem varB_name {k : Int} {s : List UInt8} (hk : isV k = true) {k' : Int} {r : List UInt8} (h : varB (nameV k s) = some (k', r)) : k' = k := by
  have h3 : k = 5 ∨ k = 6 ∨ k = 7 := by simp [isV] at hk; omega
  unfold nameV at h
  rcases h3 with rfl | rfl | rfl
  · simp only [if_true, List.cons_append, List.nil_append, varB] at h
    split at h
    · injection h with h; injection h with h _; exact h.symm
    · cases h
  · simp only [if_true, List.cons_append, List.nil_append, varB, if_neg (show ¬ (6 : Int) = 5 by decide)] at h
    split at h
    · injection h with h; injection h with h _; exact h.symm
    · cases h
  · simp only [List.cons_append, List.nil_append, varB, if_neg (show ¬ (7 : Int) = 5 by decide), if_neg (show ¬ (7 : Int) = 6 by decide)] at h
    split at h
    · injection h with h; injection h with h _; exact h.symm
    · cases h
theorem findB_mem2 {x : List UInt8} : ∀ {l : List Bn} {v}, findB x l = some v → ∃ b ∈ l, b.e = v ∧ b.x = x
  | b :: r, v, h => by
    simp only [findB] at h
    split at h
    · rename_i hq; injection h with h; exact ⟨b, by simp, h, by simpa using hq⟩
    · obtain ⟨b', h1, h2, h3⟩ := findB_mem2 h; exact ⟨b', by simp [h1], h2, h3⟩
theorem valB_good {l : List Bn} (hg : ∀ b ∈ l, bgood b) {k s v} (h : valB l k s = some v) : isV k = true ∧ errB 8 v = 0 ∧ fitsB k v = true := by
  unfold valB at h
  split at h
  · rename_i hk
    obtain ⟨b, h1, h2, h3⟩ := findB_mem2 h
    obtain ⟨k', r, g1, g2, g3⟩ := hg b h1
    rw [h3] at g1
    have := varB_name hk g1
    subst this
    rw [h2] at g2 g3
    exact ⟨hk, g2, g3⟩
  · cases h
/-! ### form -/
theorem fms_app (m : Int) : ∀ a b : List Tm, fms m (a ++ b) = (fms m a && fms m b)
  | [], b => by simp [fms]
  | x :: r, b => by simp only [List.cons_append, fms, fms_app m r b, Bool.and_assoc]
theorem right_c {k : Int} {s : List UInt8} {c c' : List Tm} (h : c = [] → c' = []) (hr : rightB k s c = true) : rightB k s c' = true := by
  unfold rightB at *
  by_cases k4 : k = 4
  · rw [if_pos k4] at hr ⊢; exact hr
  · rw [if_neg k4] at hr ⊢
    by_cases k8 : k = 8
    · rw [if_pos k8] at hr ⊢; exact hr
    · rw [if_neg k8] at hr ⊢
      by_cases hc : c = []
      · rw [if_neg (by simpa using hc)] at hr
        rw [if_neg (by simpa using h hc)]
        exact hr
      · rw [if_pos hc] at hr; cases hr
theorem right_kids {k : Int} {s : List UInt8} {c : List Tm} (hr : rightB k s c = true) : k = 4 ∨ k = 8 ∨ c = [] := by
  by_cases k4 : k = 4
  · exact .inl k4
  · by_cases k8 : k = 8
    · exact .inr (.inl k8)
    · refine .inr (.inr ?_)
      unfold rightB at hr
      rw [if_neg k4, if_neg k8] at hr
      by_cases hc : c = []
      · exact hc
      · rw [if_pos hc] at hr; cases hr
mutual
theorem fmt_un {l : List Bn} (hg : ∀ b ∈ l, bgood b) : ∀ t : Tm, fmt 8 t = true → fms 8 (unT l t) = true
  | .mk k s c, h => by
    rw [unT]
    cases hv : valB l k s with
    | some v => exact (errB_iff.1 (valB_good hg hv).2.1).2.2
    | none =>
      simp only [fmt, Bool.and_eq_true] at h
      simp only [fms, fmt, Bool.and_eq_true]
      exact ⟨⟨⟨right_c (fun h => by rw [h]; rfl) h.1.1, h.1.2⟩, fms_un hg c h.2⟩, trivial⟩
theorem fms_un {l : List Bn} (hg : ∀ b ∈ l, bgood b) : ∀ e : List Tm, fms 8 e = true → fms 8 (unL l e) = true
  | [], h => rfl
  | t :: r, h => by
    simp only [fms, Bool.and_eq_true] at h
    rw [unL, fms_app, fmt_un hg t h.1, fms_un hg r h.2]
    rfl
end
end Go.Vi
namespace Go.Vi
open Go Go.Proofs

theorem dps_app : ∀ a b : List Tm, dps (a ++ b) = max (dps a) (dps b)
  | [], b => by simp [dps]
  | x :: r, b => by simp only [List.cons_append, dps, dps_app r b]; omega
mutual
theorem nd_dpT {l : List Bn} (hg : ∀ b ∈ l, bgood b) {most : Nat} : ∀ t, fmt 8 t = true → (ndT l most t).1 ≤ most + 1 → (ndT l most t).2 = dps (unT l t)
  | .mk k s c, hf, h => by
    rw [ndT_eq] at h ⊢
    rw [unT]
    cases hv : valB l k s with
    | some v => rfl
    | none =>
      rw [hv] at h
      dsimp only at h ⊢
      simp only [fmt, Bool.and_eq_true] at hf
      have h1 : (ndF l most c).1 ≤ most := by omega
      have h2 : (ndL l most 0 0 c).1 ≤ most := by unfold ndF at h1; dsimp only at h1; omega
      have h3 : (ndF l most c).2 = dps (unL l c) := by
        have := nd_dpL hg c 0 0 hf.2 h2
        unfold ndF
        dsimp only
        omega
      rw [h3]
      simp only [dps, dpt]
      rcases right_kids hf.1.1 with hk | hk | hk
      · rw [if_pos (.inl hk), if_pos (.inl hk)]; omega
      · rw [if_pos (.inr hk), if_pos (.inr (.inl hk))]; omega
      · subst hk
        by_cases q : k = 4 ∨ k = 8
        · rw [if_pos q, if_pos (by rcases q with q | q; exact .inl q; exact .inr (.inl q))]; omega
        · rw [if_neg q, if_neg (by rintro (h | h | h); exact q (.inl h); exact q (.inr h); exact h rfl)]; simp [unL, dps]
theorem nd_dpL {l : List Bn} (hg : ∀ b ∈ l, bgood b) {most : Nat} : ∀ (e : List Tm) (n d : Nat), fms 8 e = true → (ndL l most n d e).1 ≤ most → (ndL l most n d e).2 = max d (dps (unL l e))
  | [], n, d, hf, h => by simp [ndL, unL, dps]
  | t :: r, n, d, hf, h => by
    simp only [fms, Bool.and_eq_true] at hf
    rw [ndL] at h ⊢
    by_cases q : n > most
    · rw [if_pos q] at h; dsimp only at h; omega
    · rw [if_neg q] at h ⊢
      have h0 := nd_szL r _ _ h
      have h1 := nd_dpL hg r _ _ hf.2 h
      have h2 : (ndT l most t).1 ≤ most + 1 := by omega
      rw [h1, nd_dpT hg t hf.1 h2, unL, dps_app]
      omega
end
mutual
theorem nd_upT {l : List Bn} {most : Nat} : ∀ t, (ndT l most t).1 ≤ szs (unT l t)
  | .mk k s c => by
    rw [ndT_eq, unT]
    cases hv : valB l k s with
    | some v => exact Nat.le_refl _
    | none =>
      have := @nd_upL l most c 0 0
      simp only [szs, szt]
      unfold ndF
      dsimp only
      omega
theorem nd_upL {l : List Bn} {most : Nat} : ∀ (e : List Tm) (n d : Nat), (ndL l most n d e).1 ≤ n + szs (unL l e)
  | [], n, d => Nat.le_add_right _ _
  | t :: r, n, d => by
    rw [ndL, unL, szs_app]
    split
    · dsimp only; omega
    · have h1 := @nd_upL l most r (n + (ndT l most t).1) (max d (ndT l most t).2)
      have h2 := @nd_upT l most t
      omega
end
theorem toL_eq {l : List Bn} (hg : ∀ b ∈ l, bgood b) {e : List Tm} (hf : fms 8 e = true) : toL e l = if szs (unL l e) > 4000 ∨ dps (unL l e) > 100 then ([], 7) else (unL l e, 0) := by
  have h : ((ndF l 4000 e).1 > 4000 ∨ (ndF l 4000 e).2 > 100) ↔ (szs (unL l e) > 4000 ∨ dps (unL l e) > 100) := by
    have h1 := @nd_upL l 4000 e 0 0
    by_cases q : (ndF l 4000 e).1 > 4000
    · have : (ndL l 4000 0 0 e).1 > 4000 := by unfold ndF at q; dsimp only at q; omega
      constructor
      · intro _; omega
      · intro _; exact .inl q
    · have h2 : (ndL l 4000 0 0 e).1 ≤ 4000 := by unfold ndF at q; dsimp only at q; omega
      have h3 := nd_szL e 0 0 h2
      have h4 := nd_dpL hg e 0 0 hf h2
      have h5 : (ndF l 4000 e).2 = (ndL l 4000 0 0 e).2 := rfl
      rw [h5]
      omega
  unfold toL
  by_cases q : (ndF l 4000 e).1 > 4000 ∨ (ndF l 4000 e).2 > 100
  · rw [if_pos q, if_pos (h.1 q)]
  · rw [if_neg q, if_neg (fun w => q (h.2 w))]
theorem toL_good2 {l : List Bn} (hg : ∀ b ∈ l, bgood b) {e : List Tm} (hf : fms 8 e = true) (h : (toL e l).2 = 0) : errB 8 (unL l e) = 0 := by
  rw [toL_eq hg hf] at h
  split at h
  · simp at h
  · exact errB_iff.2 ⟨by omega, by omega, fms_un hg e hf⟩
/-- Twice, then composed. -/
theorem toL_com {a b : List Bn} (ha : ∀ p ∈ a, bgood p) (hb : ∀ p ∈ b, bgood p) (hab : ∀ p ∈ comL a b, bgood p) {e : List Tm} (hf : fms 8 e = true) : toL (unL a e) b = toL e (comL a b) := by
  rw [toL_eq hb (fms_un ha e hf), toL_eq hab hf, unL_com]
/-! ### Compose -/
theorem fits_un {l : List Bn} (hg : ∀ b ∈ l, bgood b) {k : Int} {e : List Tm} (h : fitsB k e = true) : fitsB k (unL l e) = true := by
  by_cases k7 : k = 7
  · unfold fitsB; rw [if_pos k7]
  · match e, h with
    | [.mk k' s c], h =>
      simp only [unL, unT, List.append_nil]
      cases hv : valB l k' s with
      | none => unfold fitsB at h ⊢; rw [if_neg k7] at h ⊢; exact h
      | some v =>
        obtain ⟨h1, _, h3⟩ := valB_good hg hv
        have h3' : k' = 5 ∨ k' = 6 ∨ k' = 7 := by simp [isV] at h1; omega
        unfold fitsB at h
        rw [if_neg k7] at h
        dsimp only at h ⊢
        match v, h3 with
        | [], h3 =>
          rcases h3' with rfl | rfl | rfl
          · simp [fitsB] at h3
          · simp [fitsB] at h3
          · split at h <;> simp [isSy] at h
        | [.mk k2 s2 c2], h3 =>
          unfold fitsB
          rw [if_neg k7]
          dsimp only
          by_cases k5 : k = 5
          · rw [if_pos k5] at h ⊢
            have : k' = 5 := by simp [isSy] at h; omega
            subst this
            simpa [fitsB] using h3
          · rw [if_neg k5] at h ⊢
            have : k' = 5 ∨ k' = 6 := by simp at h; omega
            rcases this with rfl | rfl
            · simp [fitsB, isSy] at h3 ⊢; omega
            · simpa [fitsB] using h3
        | x :: y :: r, h3 =>
          rcases h3' with rfl | rfl | rfl
          · simp [fitsB] at h3
          · simp [fitsB] at h3
          · split at h <;> simp [isSy] at h
    | [], h => unfold fitsB at h; rw [if_neg k7] at h; cases h
    | x :: y :: r, h => unfold fitsB at h; rw [if_neg k7] at h; cases x; cases h
theorem com_nds {a b : List Bn} (ha : nds a) (hb : nds b) : nds (comL a b) := by
  unfold nds comL at *
  rw [List.map_append, List.nodup_append]
  refine ⟨by rw [List.map_map]; exact ha, ?_, ?_⟩
  · exact hb.sublist (List.Sublist.map _ List.filter_sublist)
  · rintro x hx y hy rfl
    obtain ⟨p, hp, rfl⟩ := List.mem_map.1 hx
    obtain ⟨q, hq, rfl⟩ := List.mem_map.1 hp
    obtain ⟨r, hr, he⟩ := List.mem_map.1 hy
    have h2 := (List.mem_filter.1 hr).2
    have h3 := find_none r.x a
    rw [he] at h3
    have : (a.map (·.x)).contains (unB b q).x = true := by simp only [List.contains_eq_mem, decide_eq_true_eq]; exact List.mem_map.2 ⟨q, hq, rfl⟩
    rw [this] at h3
    rw [he, h3] at h2
    cases h2
theorem com_good {a b : List Bn} (ha : ∀ p ∈ a, bgood p) (hb : ∀ p ∈ b, bgood p) (ho : a.all (toOk b) = true) : ∀ p ∈ comL a b, bgood p := by
  intro p hp
  rcases List.mem_append.1 hp with hp | hp
  · obtain ⟨q, hq, rfl⟩ := List.mem_map.1 hp
    obtain ⟨k, r, h1, h2, h3⟩ := ha q hq
    have := List.all_eq_true.1 ho q hq
    have h4 : (toL q.e b).2 = 0 := by simpa [toOk] using this
    exact ⟨k, r, h1, toL_good2 hb (errB_iff.1 h2).2.2 h4, fits_un hb h3⟩
  · exact hb p (List.mem_filter.1 hp).1
theorem com_chk {a b : List Bn} (ha : chkB a = 0) (hb : chkB b = 0) (ho : a.all (toOk b) = true) (hl : (comL a b).length ≤ 4000) : chkB (comL a b) = 0 :=
  chkB_of hl (com_nds (chkB_nds ha) (chkB_nds hb)) (com_good (chkB_good ha).2 (chkB_good hb).2 ho)
theorem comR_un (a b c : List Bn) : comR a (b.map (unB c)) = (comR a b).map (unB c) := by
  unfold comR
  rw [List.filter_map]
  rfl
theorem comR_app (a b c : List Bn) : comR a (b ++ c) = comR a b ++ comR a c := by unfold comR; rw [List.filter_append]
theorem findB_some_com (a b : List Bn) (x : List UInt8) : (findB x (comL a b)).isSome = ((findB x a).isSome || (findB x b).isSome) := by
  unfold comL
  rw [findB_app]
  have := findB_map (unL b) x a
  rw [show a.map (unB b) = a.map fun p => ⟨p.x, unL b p.e⟩ from rfl, this]
  cases h : findB x a with
  | some v => rfl
  | none => simp only [Option.map_none, findB_comR h, Option.isSome_none, Bool.false_or]
theorem comL_assoc (a b c : List Bn) : comL (comL a b) c = comL a (comL b c) := by
  have h1 : comR (comL a b) c = comR a (comR b c) := by
    unfold comR
    rw [List.filter_filter]
    congr 1
    funext q
    rw [findB_some_com, Bool.not_or]
  have h2 : comR a (comL b c) = (comR a b).map (unB c) ++ comR a (comR b c) := by
    show comR a (b.map (unB c) ++ comR b c) = _
    rw [comR_app, comR_un]
  show (comL a b).map (unB c) ++ comR (comL a b) c = a.map (unB (comL b c)) ++ comR a (comL b c)
  rw [h1, h2, show comL a b = a.map (unB b) ++ comR a b from rfl, List.map_append, List.map_map, List.append_assoc]
  congr 1
  refine List.map_congr_left fun p _ => ?_
  show (⟨p.x, unL c (unL b p.e)⟩ : Bn) = ⟨p.x, _⟩
  rw [unL_com]
theorem comB_assoc {a b c : List Bn} (ha : chkB a = 0) (hb : chkB b = 0) (hc : chkB c = 0) (ho : a.all (toOk b) = true) (hl : (comL a b).length ≤ 4000) (ho2 : b.all (toOk c) = true) (hl2 : (comL b c).length ≤ 4000) : comB (comL a b) c = comB a (comL b c) := by
  have k1 := com_chk ha hb ho hl
  have k2 := com_chk hb hc ho2 hl2
  have ga := (chkB_good ha).2
  have gb := (chkB_good hb).2
  have gc := (chkB_good hc).2
  have gbc := (chkB_good k2).2
  have hall : (comL a b).all (toOk c) = a.all (toOk (comL b c)) := by
    unfold comL
    rw [List.all_append, List.all_map]
    have : (comR a b).all (toOk c) = true := List.all_eq_true.2 fun q hq => List.all_eq_true.1 ho2 q (List.mem_filter.1 hq).1
    rw [this, Bool.and_true]
    rw [Bool.eq_iff_iff, List.all_eq_true, List.all_eq_true]
    have e : ∀ p ∈ a, (toOk c ∘ unB b) p = toOk (comL b c) p := fun p hp => by
      obtain ⟨k, r, h1, h2, h3⟩ := ga p hp
      have := toL_com gb gc gbc (errB_iff.1 h2).2.2
      show ((toL (unL b p.e) c).2 == 0) = ((toL p.e (comL b c)).2 == 0)
      rw [this]
    exact ⟨fun h p hp => (e p hp) ▸ h p hp, fun h p hp => (e p hp).symm ▸ h p hp⟩
  unfold comB
  rw [hall, comL_assoc]
  simp only [k1, k2, ha, hc]
end Go.Vi
set_option maxRecDepth 100000
set_option maxHeartbeats 1000000
namespace Go.Vi
open Go Go.Proofs

mutual
theorem txt_un {l : List Bn} (hl : ∀ b ∈ l, txs b.e) : ∀ t : Tm, txt1 t → txs (unT l t)
  | .mk k s c, h => by
    rw [unT]
    cases hv : valB l k s with
    | some v =>
      unfold valB at hv
      split at hv
      · obtain ⟨b, h1, h2⟩ := findB_mem hv
        exact h2 ▸ hl b h1
      · cases hv
    | none =>
      simp only [txt1] at h
      simp only [txs, txt1]
      exact ⟨⟨h.1, txs_un hl c h.2⟩, trivial⟩
theorem txs_un {l : List Bn} (hl : ∀ b ∈ l, txs b.e) : ∀ e : List Tm, txs e → txs (unL l e)
  | [], h => trivial
  | t :: r, h => by
    simp only [txs] at h
    rw [unL]
    exact txs_app (txt_un hl t h.1) (txs_un hl r h.2)
end
theorem com_ok {a b : List Bn} (ha : bnsOk a) (hb : bnsOk b) (hk : chkB (comL a b) = 0) : bnsOk (comL a b) := by
  obtain ⟨h1, h2⟩ := chkB_good hk
  refine ⟨by omega, fun p hp => ?_⟩
  obtain ⟨k, r, g1, g2, g3⟩ := h2 p hp
  have g4 := (errB_iff.1 g2).1
  rcases List.mem_append.1 hp with hp | hp
  · obtain ⟨q, hq, rfl⟩ := List.mem_map.1 hp
    exact ⟨(ha.2 q hq).1, by omega, txs_un (fun b' hb' => (hb.2 b' hb').2.2) _ (ha.2 q hq).2.2⟩
  · exact hb.2 p (List.mem_filter.1 hp).1
/-- What a good composition is. -/
theorem comB_ok {a b : List Bn} (h : (comB a b).2 = 0) : chkB a = 0 ∧ chkB b = 0 ∧ a.all (toOk b) = true ∧ (comL a b).length ≤ 4000 ∧ comB a b = (comL a b, 0) ∧ chkB (comL a b) = 0 := by
  unfold comB at h ⊢
  by_cases q1 : chkB a = 0
  · rw [if_neg (by simp [q1])] at h ⊢
    by_cases q2 : chkB b = 0
    · rw [if_neg (by simp [q2])] at h ⊢
      by_cases q3 : a.all (toOk b) = true
      · rw [if_neg (by simp [q3])] at h ⊢
        by_cases q4 : (comL a b).length > 4000
        · rw [if_pos q4] at h; simp at h
        · rw [if_neg q4]
          exact ⟨q1, q2, q3, by omega, rfl, com_chk q1 q2 q3 (by omega)⟩
      · rw [if_pos (by simpa using q3)] at h; simp at h
    · rw [if_pos q2] at h; exact absurd h q2
  · rw [if_pos q1] at h; exact absurd h q1
theorem toB_good {e : List Tm} {l : List Bn} (h : (toB e l).2 = 0) : errB 8 e = 0 ∧ chkB l = 0 ∧ toB e l = toL e l := by
  unfold toB at h ⊢
  split
  · rename_i q; rw [if_pos q] at h; exact absurd h q
  · rename_i q
    rw [if_neg q] at h
    split
    · rename_i q2; rw [if_pos q2] at h; exact absurd h q2
    · rename_i q2; exact ⟨by simpa using q, by simpa using q2, rfl⟩
theorem toB_of {e : List Tm} {l : List Bn} (h1 : errB 8 e = 0) (h2 : chkB l = 0) : toB e l = toL e l := by
  unfold toB
  rw [if_neg (by simp [h1]), if_neg (by simp [h2])]
theorem comB_len (a b : List Bn) : (comB a b).1.length ≤ 4000 := by
  unfold comB
  split
  · simp
  · split
    · simp
    · split
      · simp
      · split
        · simp
        · dsimp only; omega
noncomputable abbrev T706 : List (FuncId × (List V → Option V)) := [(8, F8), (9, F9), (10, F10), (11, Fto), (13, F312), (20, F20), (21, F21)]
theorem h706 : SoundHand Tryd.prog (hand T706) := sound_cons F8_sound <| sound_cons F9_sound <| sound_cons F10_sound <| sound_cons F11_sound <| sound_cons F312_sound <| sound_cons F20_sound <| sound_cons F21_sound sound_nil
theorem w6 (e : List Tm) (a b c : List Bn) (ho : txs e) (ha : argB a) (hb : argB b) (hc : argB c) : SoundPure Tryd.prog 6 [Ts e, Bs a, Bs b, Bs c] (.ret (.bool true)) := by
  refine s706 h706 1 (by simp) rfl ?_
  simp only [c706, Tryd.f6, gets, sub]
  have e1 := F8_eq (a := e) (k := 61) (by omega) (by omega)
  have e2 := F9_eq (a := a) (k := 60) (by omega) (by omega)
  have e3 := F9_eq (a := b) (k := 60) (by omega) (by omega)
  have e4 := F9_eq (a := c) (k := 60) (by omega) (by omega)
  have e5 := F10_eq
  have n0 : ((0 : Int) != 0) = false := rfl
  by_cases q1 : lmL 61 0 e > 60
  · have q1' := eq_true q1
    simp only [vmr, vmw, vmp, vza, ↓reduceIte, Nat.reduceBEq, Nat.reduceLT, Nat.reduceAdd, Nat.reduceEqDiff, reduceCtorEq, vmt, vzb, vzc, vlen, vleaf, velems, oks, vst, vmd, ty, Nat.reduceLeDiff, Nat.reduceMul, Nat.reduceSub, vzr, m706, e1, e5, q1']
  have q1' := eq_false q1
  by_cases q2 : fewL 60 a.length a ≤ 60
  case neg =>
    rw [decide_eq_false q2] at e2
    simp only [vmr, vmw, vmp, vza, ↓reduceIte, Nat.reduceBEq, Nat.reduceLT, Nat.reduceAdd, Nat.reduceEqDiff, reduceCtorEq, vmt, vzb, vzc, vlen, vleaf, velems, oks, vst, vmd, ty, Nat.reduceLeDiff, Nat.reduceMul, Nat.reduceSub, vzr, m706, e1, e2, e5, q1']
  rw [decide_eq_true q2] at e2
  by_cases q3 : fewL 60 b.length b ≤ 60
  case neg =>
    rw [decide_eq_false q3] at e3
    simp only [vmr, vmw, vmp, vza, ↓reduceIte, Nat.reduceBEq, Nat.reduceLT, Nat.reduceAdd, Nat.reduceEqDiff, reduceCtorEq, vmt, vzb, vzc, vlen, vleaf, velems, oks, vst, vmd, ty, Nat.reduceLeDiff, Nat.reduceMul, Nat.reduceSub, vzr, m706, e1, e2, e3, e5, q1']
  rw [decide_eq_true q3] at e3
  by_cases q4 : fewL 60 c.length c ≤ 60
  case neg =>
    rw [decide_eq_false q4] at e4
    simp only [vmr, vmw, vmp, vza, ↓reduceIte, Nat.reduceBEq, Nat.reduceLT, Nat.reduceAdd, Nat.reduceEqDiff, reduceCtorEq, vmt, vzb, vzc, vlen, vleaf, velems, oks, vst, vmd, ty, Nat.reduceLeDiff, Nat.reduceMul, Nat.reduceSub, vzr, m706, e1, e2, e3, e4, e5, q1']
  rw [decide_eq_true q4] at e4
  have se := lmL_sz e 61 0 (by omega) (by omega) (by omega)
  have ba := bns_of ha (by omega) (by omega) q2
  have bb := bns_of hb (by omega) (by omega) q3
  have bc := bns_of hc (by omega) (by omega) q4
  have e6 := F21_eq ba bb
  by_cases q5 : (comB a b).2 = 0
  case neg =>
    have q5' : ((comB a b).2 != 0) = true := by simpa using q5
    simp only [vmr, vmw, vmp, vza, ↓reduceIte, Nat.reduceBEq, Nat.reduceLT, Nat.reduceAdd, Nat.reduceEqDiff, reduceCtorEq, vmt, vzb, vzc, vlen, vleaf, velems, oks, vst, vmd, ty, Nat.reduceLeDiff, Nat.reduceMul, Nat.reduceSub, vzr, m706, e1, e2, e3, e4, e5, q1', e6, q5']
  obtain ⟨ca, cb, oab, lab, eab, cab⟩ := comB_ok q5
  rw [eab] at e6
  dsimp only at e6
  have bab := com_ok ba bb cab
  have e7 : Fto [Ts e, Bs a] = some (.tup [Ts (toB e a).1, I (toB e a).2]) := Fto_eq (e := e) (l := a) (by omega) ho ba
  by_cases q6 : (toB e a).2 = 0
  case neg =>
    have q6' : ((toB e a).2 != 0) = true := by simpa using q6
    simp only [vmr, vmw, vmp, vza, ↓reduceIte, Nat.reduceBEq, Nat.reduceLT, Nat.reduceAdd, Nat.reduceEqDiff, reduceCtorEq, vmt, vzb, vzc, vlen, vleaf, velems, oks, vst, vmd, ty, Nat.reduceLeDiff, Nat.reduceMul, Nat.reduceSub, vzr, m706, e1, e2, e3, e4, e5, q1', e6, n0, e7, q6']
  have g1 := toB_ok q6
  obtain ⟨ce, _, g2⟩ := toB_good q6
  have z1 := toB_sz e a
  rw [g1] at z1
  rw [q6, g1] at e7
  have ga := (chkB_good ca).2
  have gb := (chkB_good cb).2
  have gab := (chkB_good cab).2
  have fe := (errB_iff.1 ce).2.2
  have ce2 : errB 8 (unL a e) = 0 := toL_good2 ga fe (by rw [← g2]; exact q6)
  have e8 : Fto [Ts (unL a e), Bs b] = some (.tup [Ts (toB (unL a e) b).1, I (toB (unL a e) b).2]) := Fto_eq (e := unL a e) (l := b) (by omega) (txs_un (fun p hp => (ba.2 p hp).2.2) e ho) bb
  have e9 : Fto [Ts e, Bs (comL a b)] = some (.tup [Ts (toB e (comL a b)).1, I (toB e (comL a b)).2]) := Fto_eq (e := e) (l := comL a b) (by omega) ho bab
  have z2 := toB_sz e (comL a b)
  have g3 : toB (unL a e) b = toB e (comL a b) := by rw [toB_of ce2 cb, toB_of ce cab, toL_com ga gb gab fe]
  rw [g3] at e8
  have e10 := F312_eq (a := (toB e (comL a b)).1) (b := (toB e (comL a b)).1) (by omega)
  rw [eqB_self] at e10
  have n1 : ((toB e (comL a b)).2 != (toB e (comL a b)).2) = false := by simp
  have e11 := F21_eq bb bc
  generalize toB e (comL a b) = W at *
  obtain ⟨W1, W2⟩ := W
  dsimp only at *
  have nW : (W2 == 0) = true ∨ (W2 == 0) = false := by cases W2 == 0 <;> simp
  by_cases q7 : (comB b c).2 = 0
  case neg =>
    have q7' : ((comB b c).2 != 0) = true := by simpa using q7
    rcases nW with nW | nW
    · simp only [vmr, vmw, vmp, vza, ↓reduceIte, Nat.reduceBEq, Nat.reduceLT, Nat.reduceAdd, Nat.reduceEqDiff, reduceCtorEq, vmt, vzb, vzc, vlen, vleaf, velems, oks, vst, vmd, ty, Nat.reduceLeDiff, Nat.reduceMul, Nat.reduceSub, vzr, m706, e1, e2, e3, e4, e5, q1', e6, n0, e7, e8, e9, n1, nW, e10, e11, q7']
    · simp only [vmr, vmw, vmp, vza, ↓reduceIte, Nat.reduceBEq, Nat.reduceLT, Nat.reduceAdd, Nat.reduceEqDiff, reduceCtorEq, vmt, vzb, vzc, vlen, vleaf, velems, oks, vst, vmd, ty, Nat.reduceLeDiff, Nat.reduceMul, Nat.reduceSub, vzr, m706, e1, e2, e3, e4, e5, q1', e6, n0, e7, e8, e9, n1, nW, e11, q7']
  obtain ⟨_, cc, obc, lbc, ebc, cbc⟩ := comB_ok q7
  rw [ebc] at e11
  dsimp only at e11
  have bbc := com_ok bb bc cbc
  have e12 := F21_eq bab bc
  have e13 := F21_eq ba bbc
  rw [comB_assoc ca cb cc oab lab obc lbc] at e12
  have n2 : ((comB a (comL b c)).2 == (comB a (comL b c)).2) = true := by simp
  have hlen := comB_len a (comL b c)
  have e14 : F20 [Bs (comB a (comL b c)).1, Bs (comB a (comL b c)).1] = some (.bool (alB (comB a (comL b c)).1 (comB a (comL b c)).1)) := by
    refine F20_eq (by omega) fun p hp => ?_
    by_cases q : (comB a (comL b c)).2 = 0
    · obtain ⟨_, _, _, _, h1, h2⟩ := comB_ok q
      rw [h1] at hp
      obtain ⟨k, r, i1, i2, i3⟩ := (chkB_good h2).2 p hp
      have := (errB_iff.1 i2).1
      omega
    · have : (comB a (comL b c)).1 = [] := by
        unfold comB at q ⊢
        split
        · rfl
        · split
          · rfl
          · split
            · rfl
            · split
              · rfl
              · rename_i h1 h2 h3 h4; rw [if_neg h1, if_neg h2, if_neg h3, if_neg h4] at q; exact absurd rfl q
      rw [this] at hp
      cases hp
  rw [alB_self] at e14
  rcases nW with nW | nW
  · simp only [vmr, vmw, vmp, vza, ↓reduceIte, Nat.reduceBEq, Nat.reduceLT, Nat.reduceAdd, Nat.reduceEqDiff, reduceCtorEq, vmt, vzb, vzc, vlen, vleaf, velems, oks, vst, vmd, ty, Nat.reduceLeDiff, Nat.reduceMul, Nat.reduceSub, vzr, m706, e1, e2, e3, e4, e5, q1', e6, n0, e7, e8, e9, n1, nW, e10, e11, e12, e13, n2, e14]
  · simp only [vmr, vmw, vmp, vza, ↓reduceIte, Nat.reduceBEq, Nat.reduceLT, Nat.reduceAdd, Nat.reduceEqDiff, reduceCtorEq, vmt, vzb, vzc, vlen, vleaf, velems, oks, vst, vmd, ty, Nat.reduceLeDiff, Nat.reduceMul, Nat.reduceSub, vzr, m706, e1, e2, e3, e4, e5, q1', e6, n0, e7, e8, e9, n1, nW, e11, e12, e13, n2, e14]
end Go.Vi
set_option maxRecDepth 100000
namespace Go.Vi
open Go Go.Proofs Go.ChangeShapes Go.WideShapes Go.ChangeAt Go.RowKit

theorem own0 : ownKnob Tryd.prog.godebug = none := by kernel_rfl
theorem kids0 : Kids Tryd.prog (· < Tryd.prog.types.size) := kids_rows (by kernel_rfl) (by kernel_rfl)
theorem full0 : ∀ t e, t < Tryd.prog.types.size → Tryd.prog.underlying t = some (.slice e) → 0 < Tryd.prog.cellsOf e := slices_full_of Tryd.prog (by kernel_rfl)
theorem reach15 {n : Nat} (h : n ≤ reachBytes) : n ≤ 1000000000000000 := by unfold reachBytes at h; omega
theorem OpS.map {α β : Type} {P : Program} {t : TypeId} {f : α → V} {ok : α → Prop} {m : Nat} (h : OpS P t f ok m) (g : α → β) {f' : β → V} {ok' : β → Prop} (e : ∀ a, f' (g a) = f a) (o : ∀ a, ok a → ok' (g a)) : OpS P t f' ok' m := fun hx hz =>
  let ⟨a, ha, hao⟩ := h hx hz
  ⟨g a, by rw [e]; exact ha, o a hao⟩
theorem cells35 : Tryd.prog.cellsOf 35 = 3 := by kernel_rfl
theorem cells59 : Tryd.prog.cellsOf 59 = 2 := by kernel_rfl
theorem len_tv (t : Tm) : (cellsV (tv t)).length = Tryd.prog.cellsOf 35 := by cases t; rw [tv_mk, cells35]; rfl
theorem len_bn (b : Bn) : (cellsV b.v).length = Tryd.prog.cellsOf 59 := by rw [cells59]; rfl
theorem opT : ∀ m, OpS Tryd.prog 35 tv txt1 m ∧ OpS Tryd.prog 22 (fun l : List Tm => V.lst (l.map tv)) txs m := by
  intro m
  induction m using Nat.strongRecOn with
  | ind m IH =>
  refine ⟨?_, ?_⟩
  · refine OpS.map (opS_struct Tryd.underlying35 (fun n hn => opSF_cons rfl (opS_int Tryd.underlying3) (opSF_cons (by kernel_rfl) (opS_str Tryd.underlying9) (opSF_cons (by kernel_rfl) (IH n hn).2 opSF_nil))) (by kernel_rfl)) (fun b => Tm.mk b.1 b.2.1 b.2.2.1) (fun b => ?_) (fun b h => ?_)
    · rw [tv_mk]; rfl
    · exact ⟨reach15 h.2.1, h.2.2.1⟩
  · exact OpS.map (opS_slice Tryd.underlying22 (fun n hn => (IH n hn).1) len_tv (by rw [cells35]; decide)) id (fun _ => rfl) (fun l h => txs_of h)
theorem opB (m : Nat) : OpS Tryd.prog 23 (fun l : List Bn => V.lst (l.map Bn.v)) argB m := by
  have hb : ∀ m, OpS Tryd.prog 59 Bn.v (fun b => b.x.length ≤ 1000000000000000 ∧ txs b.e) m := fun m => by
    refine OpS.map (opS_struct Tryd.underlying59 (fun n hn => opSF_cons rfl (opS_str Tryd.underlying9) (opSF_cons (by kernel_rfl) (opT n).2 opSF_nil)) (by kernel_rfl)) (fun b => Bn.mk b.1 b.2.1) (fun b => rfl) (fun b h => ?_)
    exact ⟨reach15 h.1, h.2.1⟩
  intro H enc w cs x hx hz
  exact opS_slice Tryd.underlying23 (fun n hn => hb n) len_bn (by rw [cells59]; decide) hx hz
theorem argT {H : Type} {enc : TypeId × Value → H} {w : World} {base : Nat} {v : Value} {d : DataW H} {p : List MemPlace} (hv : Value.okWide Tryd.prog w .any base 22 v) (h : DataW.Trod enc Tryd.prog w 0 (fun _ => true) true 22 v d p) (hz : ∀ n ∈ d.weights Tryd.prog 22, n ≤ reachBytes) : ∃ l : List Tm, PC w (oldB w) (Ts l) v ∧ txs l :=
  argS_slice Tryd.underlying22 (fun m => (opT m).2) hv h hz
theorem argBs {H : Type} {enc : TypeId × Value → H} {w : World} {base : Nat} {v : Value} {d : DataW H} {p : List MemPlace} (hv : Value.okWide Tryd.prog w .any base 23 v) (h : DataW.Trod enc Tryd.prog w 0 (fun _ => true) true 23 v d p) (hz : ∀ n ∈ d.weights Tryd.prog 23, n ≤ reachBytes) : ∃ l : List Bn, PC w (oldB w) (Bs l) v ∧ argB l :=
  argS_slice Tryd.underlying23 opB hv h hz
theorem sized_at {H : Type} {ts : List TypeId} {ds : List (DataW H)} (h : (DataW.weightsEach Tryd.prog ts ds).all (· ≤ reachBytes) = true) {j : Nat} {t : TypeId} {d : DataW H} (ht : ts[j]? = some t) (hd : ds[j]? = some d) : ∀ n ∈ d.weights Tryd.prog t, n ≤ reachBytes := fun n hn => by
  have := List.all_eq_true.1 h n (DataW.weights_mem_each ht hd n hn)
  simpa using this
end Go.Vi
set_option maxRecDepth 100000
namespace Go.Vi
open Go Go.Proofs Go.ChangeShapes Go.WideShapes Go.ChangeAt Go.RowKit

theorem contract6 (H : Type) (enc : TypeId × Value → H) (W : World) (base : Nat) (args : Array Value) (ds gs : List (DataW H)) (before : List MemPlace)
    (hval : ∀ (j : Nat) t v, Tryd.f6.params[j]? = some t → args[j]? = some v → Value.okWide Tryd.prog W .any base t v)
    (hW : DataW.Whole enc Tryd.prog Tryd.f6.params.toList YtpibnnopnhmijaaDoor.Rows.applyTwiceSpec.vars false W args.toList ds gs before)
    (hsz : (DataW.weightsEach Tryd.prog (Tryd.f6.params.toList ++ (OpenSpec.ofChange YtpibnnopnhmijaaDoor.Rows.applyTwiceSpec).bare.plain.varTypes Tryd.prog) (ds ++ gs)).all (· ≤ reachBytes) = true) :
    Calls Tryd.prog 6 args W fun e W' => ∃ v, e = .returned v ∧ YtpibnnopnhmijaaDoor.Rows.applyTwiceSpec.post enc Tryd.prog Tryd.f6 false true false false W args v W' := by
  have hW' := hW
  obtain ⟨p, q, hA0, hV, rfl, hfz, hnd⟩ := hW
  have hA : DataW.TrodAll enc Tryd.prog W 0 (fun _ => true) true Tryd.f6.params.toList args.toList ds p := hA0
  rw [Tryd.params6] at hA hval hsz
  obtain ⟨v0, vs0, d0, ds0, p0, q0, e0, rfl, rfl, h0, hA⟩ := trodAll_cons hA
  obtain ⟨v1, vs1, d1, ds1, p1, q1, rfl, rfl, rfl, h1, hA⟩ := trodAll_cons hA
  obtain ⟨v2, vs2, d2, ds2, p2, q2, rfl, rfl, rfl, h2, hA⟩ := trodAll_cons hA
  obtain ⟨v3, vs3, d3, ds3, p3, q3, rfl, rfl, rfl, h3, hA⟩ := trodAll_cons hA
  obtain ⟨rfl, rfl, rfl⟩ := trodAll_nil hA
  obtain rfl : args = #[v0, v1, v2, v3] := by cases args; simp_all
  obtain ⟨rfl, rfl⟩ := trodVars_none hV
  obtain ⟨x, hx, hxo⟩ := argT (hval 0 22 v0 rfl rfl) h0 (sized_at hsz (j := 0) rfl rfl)
  obtain ⟨y, hy, hyo⟩ := argBs (hval 1 23 v1 rfl rfl) h1 (sized_at hsz (j := 1) rfl rfl)
  obtain ⟨z, hz, hzo⟩ := argBs (hval 2 23 v2 rfl rfl) h2 (sized_at hsz (j := 2) rfl rfl)
  obtain ⟨u, hu, huo⟩ := argBs (hval 3 23 v3 rfl rfl) h3 (sized_at hsz (j := 3) rfl rfl)
  refine (w6 x y z u hxo hyo hzo huo W (oldB W) #[v0, v1, v2, v3] (fun q hq => by cases hq) (fun _ h => h) ?_).mono fun e W' he => ?_
  · simp only [PCs]
    exact ⟨_, _, rfl, hx, _, _, rfl, hy, _, _, rfl, hz, _, _, rfl, hu, rfl⟩
  · exact law_post kids0 full0 (by rw [Tryd.params6]; decide +kernel) rfl (by kernel_rfl) Tryd.underlying4 hW' rfl he
def lit1 : DataW Unit → List Value
  | .lit (.int k n) => [.int k n]
  | _ => []
def lits : DataW Unit → Array Value
  | .agg ds => (ds.flatMap lit1).toArray
  | _ => #[]
def setCells (cs : Array Value) : Go.Obj → Go.Obj
  | .cells _ t frozen => .cells cs t frozen
  | o => o
noncomputable def heap0 (os : Os) : Array Go.Obj := (World.holding Tryd.prog os ⟨#[], #[], []⟩).heap
noncomputable def laidWorld (os : Os) : World :=
  { World.holding Tryd.prog os ⟨#[], #[], []⟩ with
    heap := (((heap0 os).modify 1 (setCells (lits YtpibnnopnhmijaaDoor.Rows.laid_internal_strconv_uint64pow10))).modify 2 (setCells (lits YtpibnnopnhmijaaDoor.Rows.laid_math_bits_deBruijn32tab))).modify 3 (setCells (lits YtpibnnopnhmijaaDoor.Rows.laid_math_bits_deBruijn64tab)) }
theorem laid_met (os : Os) : laidMet Tryd.prog YtpibnnopnhmijaaDoor.Rows.applyTwiceRow.laid ((laidWorld os).forCall (fun _ _ => 0) ⟨#[], #[.slice none 0 0, .slice none 0 0, .slice none 0 0, .slice none 0 0], []⟩).memory :=
  laidMet_of_run' 8 (by kernel_rfl) (by kernel_rfl)
theorem reads (os : Os) {H : Type} (enc : TypeId × Value → H) : ∃ places, DataW.whole enc Tryd.prog ((laidWorld os).forCall (fun _ _ => 0) ⟨#[], #[.slice none 0 0, .slice none 0 0, .slice none 0 0, .slice none 0 0], []⟩).memory Tryd.f6.params.toList YtpibnnopnhmijaaDoor.Rows.applyTwiceSpec.vars false #[Value.slice none 0 0, Value.slice none 0 0, Value.slice none 0 0, Value.slice none 0 0].toList 8 = some ([.nil, .nil, .nil, .nil], [], places) :=
  ⟨[], by kernel_rfl⟩
set_option maxRecDepth 100000 in
theorem lifted6 (os : Os) (started : os.Started) (H : Type) (enc : TypeId × Value → H) (F : Stop.Interp) :
    ReturnsInHanded {} Tryd.checked os 6 .any ((OpenSpec.ofChange YtpibnnopnhmijaaDoor.Rows.applyTwiceSpec).preRow enc Tryd.prog Tryd.f6 YtpibnnopnhmijaaDoor.Rows.applyTwiceRow.domain false YtpibnnopnhmijaaDoor.Rows.applyTwiceRow.laid) (((OpenSpec.ofChange YtpibnnopnhmijaaDoor.Rows.applyTwiceSpec).at F).post enc Tryd.prog Tryd.f6 false true false false) := by
  obtain ⟨places, hx⟩ := reads os enc
  refine returnsInHanded_of_row (C := Tryd.checked) (s := OpenSpec.ofChange YtpibnnopnhmijaaDoor.Rows.applyTwiceSpec) own0 started (by kernel_rfl) Tryd.func6
    (witness_row_at (enc := enc) (C := Tryd.checked) false (laidWorld os) #[.slice none 0 0, .slice none 0 0, .slice none 0 0, .slice none 0 0] rfl (by kernel_rfl) (by kernel_rfl) (by kernel_rfl)
      (OpenSpec.preRow_of_cond 8 hx (by kernel_rfl) (fun k hk => by cases hk) (by kernel_rfl) (laid_met os))) ?_
  intro W base args ds gs before hval hW _ _ hsz hL _ _
  exact contract6 H enc W base args ds gs before hval hW hsz
end Go.Vi
namespace Go.Proofs.YtpibnnopnhmijaaDoor
open Go.Vi
theorem said6 : Rows.ApplyTwiceSaid :=
  OpenClaim.holds_of_cond 6 Tryd.f6 rfl rfl rfl rfl rfl rfl rfl ⟨rfl, rfl, rfl, rfl, rfl⟩ rfl rfl rfl rfl rfl (by kernel_rfl) Tryd.func6 (by kernel_rfl)
    (of_decide_eq_true (by kernel_rfl)) (by unfold Func.isWrapper; first | (rw [if_pos (by decide +kernel)]; kernel_rfl) | (rw [if_neg (by decide +kernel)]; exact ⟨rfl, rfl⟩))
    (fun os started H enc _ F => by rw [OpenClaim.pre_eq_preRow]; exact lifted6 os started H enc F)
theorem plain6 (f : FuncId) (fn : Func) (hf : Tryd.pinned.checked.prog.funcNamed "chiasmus/chiasmuslaw07.ApplyTwice" = some f) (hfn : Tryd.pinned.checked.prog.funcs[f]? = some fn) :
    false = Tryd.pinned.checked.prog.looks [] ∧ ∀ (j : Nat) t, fn.params[j]? = some t → Tryd.pinned.checked.prog.wantsStandIn t = false := by
  obtain rfl : f = 6 := Option.some.inj ((show Tryd.prog.funcNamed "chiasmus/chiasmuslaw07.ApplyTwice" = some 6 by kernel_rfl).symm.trans hf) |>.symm
  obtain rfl : fn = Tryd.f6 := (Option.some.inj (Tryd.func6.symm.trans hfn)).symm
  refine ⟨by kernel_rfl, fun j t ht => ?_⟩
  rw [Tryd.params6] at ht
  have hm : t = 22 ∨ t = 23 := by
    have := Array.mem_of_getElem? ht
    simp at this
    omega
  rcases hm with rfl | rfl
  · exact (show Tryd.prog.wantsStandIn 22 = false by kernel_rfl)
  · exact (show Tryd.prog.wantsStandIn 23 = false by kernel_rfl)
theorem applyTwice_holds : Rows.ApplyTwiceCardSaid :=
  Claim7.holds_tied_plain_at .later [] _ _ _ _ said6 (fun _ h => by cases h) (by kernel_rfl) (fun _ h => by cases h) applyTwice_row_tie rfl ⟨rfl, rfl⟩ (by kernel_rfl) rfl plain6 (by kernel_rfl)
#print axioms applyTwice_holds
end Go.Proofs.YtpibnnopnhmijaaDoor
