/-
  Walk of arith.Root.
-/
import Derived.Test.YtpdeblfnbcponaaDoorZB
set_option linter.unusedSimpArgs false
set_option linter.unusedVariables false
set_option maxRecDepth 100000
set_option maxHeartbeats 1000000
set_option exponentiation.threshold 256
namespace Go.Vi
open Go Go.Proofs

theorem w62o (l : List Int) (hb : l.length ≤ 1000000 ∧ l ≠ []) : SoundPure Tryd.prog 62 [Is l] (.ret (.own 1 (l.map I))) := by
  obtain ⟨x, l, rfl⟩ : ∃ x r, l = x :: r := by cases l with | nil => exact absurd rfl hb.2 | cons x r => exact ⟨x, r, rfl⟩
  have hb := hb.1
  refine s62 sound_nil 1 (by simp) rfl ?_
  simp only [c62, Tryd.f62, gets]
  simp only [List.length_cons] at hb
  have hr := @room3 (l.length + 1) (by omega)
  have hr0 := @room3 0 (by omega)
  simp only [vmr, vmw, vmp, vza, ↓reduceIte, Nat.reduceBEq, Nat.reduceLT, Nat.reduceAdd, Nat.reduceEqDiff, reduceCtorEq, vmt, vzb, vzc, vlen, vleaf, velems, oks, vst, vmd, ty, Nat.reduceLeDiff, Nat.reduceMul, Nat.reduceSub, vzr, m62, hr, hr0, List.map_cons, allfitsI, fitsI, take_len]
noncomputable def F62o : List V → Option V := hF (α := List Int) (fun a => [Is a]) (fun a => a.length ≤ 1000000 ∧ a ≠ []) (fun a => .own 1 (a.map I))
theorem F62o_eq {l : List Int} (hb : l.length ≤ 1000000) (hn : l ≠ []) : F62o [Is l] = some (.own 1 (l.map I)) := hF_eq (a := l) (one_inj' fun _ _ => Is_inj) (by simp only [cans, canIs]) ⟨hb, hn⟩
noncomputable abbrev T19 : List (FuncId × (List V → Option V)) := (60, F60) :: (62, F62o) :: (63, F63) :: (54, F54v) :: []
theorem hT19 : SoundHand Tryd.prog (hand T19) := sound_cons (hF_sound fun a h => w60 a.1 a.2.1 a.2.2 h.1 h.2.1 h.2.2) <| sound_cons (hF_sound fun a h => w62o a h) <| sound_cons (hF_sound fun a h => w63 a h) <| sound_cons (hF_sound fun a h => w54v a h) sound_nil
structure P19 (s : St) (x e la v3 v5 v6 v8 A : Nat) : Prop where
  h3' : lget s.L (3, 0) = some (v3, .var [I (e : Nat)])
  h5 : tget s.τ 5 = .ptr ⟨0, 5, 0⟩ v5 0 0
  h5' : lget s.L (5, 0) = some (v5, .var [I 0])
  h6' : lget s.L (6, 0) = some (v6, .var [.bool false, N x])
  h7 : tget s.τ 7 = .fn (.func 60) [] [.ptr ⟨0, 3, 0⟩ v3 0 0, .ptr ⟨0, 6, 0⟩ v6 0 0]
  h8 : tget s.τ 8 = .ref ⟨0, 8, 0⟩ v8 0 la
  h8' : lget s.L (8, 0) = some (v8, .arr 1 ((fx 10000 la A).map I))
theorem l19b {n k} (x e la i R v3 v5 v6 v8 : Nat) (he1 : 1 ≤ e) (he : e ≤ 1000) (hx : (lm 10000 x).length ≤ 130) (hi : i < la) (hla : la ≤ 140) (hRe : R = rootN e x) (hR : R < 10000 ^ la) {P : Option (Ex × St) → Prop} : ∀ f c lo hi' n' s, hi' - lo ≤ f → f < n' →
    lo ≤ R / 10000 ^ i % 10000 → R / 10000 ^ i % 10000 < hi' → hi' ≤ 10000 → c < 10000 → P19 s x e la v3 v5 v6 v8 (R / 10000 ^ (i + 1) * 10000 ^ (i + 1) + c * 10000 ^ i) → tget s.τ 9 = I (i : Nat) → tget s.τ 10 = I (lo : Nat) → tget s.τ 11 = I (hi' : Nat) →
    (∀ s' c, c < 10000 → P19 s' x e la v3 v5 v6 v8 (R / 10000 ^ (i + 1) * 10000 ^ (i + 1) + c * 10000 ^ i) → tget s'.τ 9 = I (i : Nat) → tget s'.τ 10 = I ((R / 10000 ^ i % 10000 : Nat) : Int) → P (X (tm (tabT K13) (M19 (hand T19) n)) (.exit 2) k s')) →
    P (L (tm (tabT K13) (M19 (hand T19) n)) (sub [1, 1, 1, 1, 1, 1, 1, 0, 1, 0, 0, 1, 0, 0, 1, 0, 0, 0] c19) n' k s) := by
  have hir : ((i : Int) < (la : Int)) = True := eq_true (by omega)
  intro f
  induction f with
  | zero => intro c lo hi' n' s hf hn h1 h2; omega
  | succ f ih =>
    intro c lo hi' n' s hf hn h1 h2 h3 hc hP h9 h10 h11 hq
    obtain ⟨n', rfl⟩ : ∃ m, n' = m + 1 := ⟨n' - 1, by omega⟩
    obtain ⟨h3', h5, h5', h6', h7, h8, h8'⟩ := hP
    have w0 : IntKind.i64.wrap ((hi' : Int) - (lo : Int)) = ((hi' - lo : Nat) : Int) := by rw [wrap_id] <;> omega
    rw [L_succ]
    by_cases hex : hi' - lo ≤ 1
    · have q : (((hi' - lo : Nat) : Int) > 1) = False := eq_false (by omega)
      simp only [vmr, vmw, vmp, vza, ↓reduceIte, Nat.reduceBEq, Nat.reduceLT, Nat.reduceAdd, Nat.reduceEqDiff, reduceCtorEq, vmt, vzb, vzc, vlen, vleaf, velems, oks, vst, vmd, ty, Nat.reduceLeDiff, Nat.reduceMul, Nat.reduceSub, c19, Tryd.f19, m19, h10, h11, w0, q]
      refine hq _ c hc ⟨?_, ?_, ?_, ?_, ?_, ?_, ?_⟩ ?_ ?_
      case refine_9 =>
        obtain hl : lo = R / 10000 ^ i % 10000 := by omega
        rw [← hl]
        simp only [vmr, vmw, vmp, vza, ↓reduceIte, Nat.reduceBEq, Nat.reduceLT, Nat.reduceAdd, Nat.reduceEqDiff, reduceCtorEq, vmt, vzb, vzc, vlen, vleaf, velems, oks, vst, vmd, ty, Nat.reduceLeDiff, Nat.reduceMul, Nat.reduceSub, m19, h10]
      all_goals simp only [vmr, vmw, vmp, vza, ↓reduceIte, Nat.reduceBEq, Nat.reduceLT, Nat.reduceAdd, Nat.reduceEqDiff, reduceCtorEq, vmt, vzb, vzc, vlen, vleaf, velems, oks, vst, vmd, ty, Nat.reduceLeDiff, Nat.reduceMul, Nat.reduceSub, m19, h3', h5, h5', h6', h7, h8, h8', h9]
    · have q : (((hi' - lo : Nat) : Int) > 1) = True := eq_true (by omega)
      have w1 : IntKind.i64.wrap ((lo : Int) + (hi' : Int)) = ((lo + hi' : Nat) : Int) := by rw [wrap_id] <;> omega
      have t1 : IntKind.i64.wrap (Int.tdiv ((lo + hi' : Nat) : Int) 2) = (((lo + hi') / 2 : Nat) : Int) := by
        rw [show Int.tdiv ((lo + hi' : Nat) : Int) 2 = (((lo + hi') / 2 : Nat) : Int) from rfl, wrap_id] <;> omega
      have n2 : ((2 : Int) = 0) = False := by decide
      generalize hm : (lo + hi') / 2 = m at *
      have hml : lo < m ∧ m < hi' := by omega
      have hmB : m < 10000 := by omega
      have hst := congrArg (List.map I) (trial_set (Q := R / 10000 ^ (i + 1)) b2 hi hc hmB)
      rw [← setI] at hst
      have htk := take_of (fx 10000 la (R / 10000 ^ (i + 1) * 10000 ^ (i + 1) + m * 10000 ^ i)) (fx_len ..)
      have hlt := trial_lt (c := m) b2 hR hi hmB
      have e62 := F62o_eq (l := fx 10000 la (R / 10000 ^ (i + 1) * 10000 ^ (i + 1) + m * 10000 ^ i)) (by rw [fx_len]; omega) (fun h => by have := congrArg List.length h; rw [fx_len, List.length_nil] at this; omega)
      have e63 := F63_fx (k := la) (by omega) hlt
      have e60 := F60_eq (e := e) (x := x) (few_m (by omega) hlt) (by omega) hx
      have hdec : (R / 10000 ^ (i + 1) * 10000 ^ (i + 1) + m * 10000 ^ i) ^ e ≤ x ↔ m ≤ R / 10000 ^ i % 10000 := by
        rw [root_iff he1, ← hRe]
        exact root_digit b2 hmB
      have hg : ((fx 10000 la (R / 10000 ^ (i + 1) * 10000 ^ (i + 1) + m * 10000 ^ i)).map I)[i]? = some (I (m : Nat)) := by
        rw [List.getElem?_map, fx_get 10000 la _ i hi, trial_get b2 hmB]
        rfl
      have hgc : (fx 10000 la (R / 10000 ^ (i + 1) * 10000 ^ (i + 1) + c * 10000 ^ i))[i]? = some ((c : Nat) : Int) := by
        rw [fx_get 10000 la _ i hi, trial_get b2 hc]
      have hgI : (fx 10000 la (R / 10000 ^ (i + 1) * 10000 ^ (i + 1) + m * 10000 ^ i))[i]? = some ((m : Nat) : Int) := by
        rw [fx_get 10000 la _ i hi, trial_get b2 hmB]
      by_cases hd : m ≤ R / 10000 ^ i % 10000
      · rw [decide_eq_true (hdec.2 hd)] at e60
        have ih := fun s => ih m m hi' n' s (by omega) (by omega) hd h2 h3 hmB
        simp only [sub, c19, Tryd.f19, gets] at ih
        simp only [vmr, vmw, vmp, vza, ↓reduceIte, Nat.reduceBEq, Nat.reduceLT, Nat.reduceAdd, Nat.reduceEqDiff, reduceCtorEq, vmt, vzb, vzc, vlen, vleaf, velems, oks, vst, vmd, ty, Nat.reduceLeDiff, Nat.reduceMul, Nat.reduceSub, c19, Tryd.f19, m19, h3', h5, h5', h6', h7, h8, h8', h9, h10, h11, w0, q, w1, t1, n2, hir, hst, htk, e62, e63, e60, hgI, hgc, fx_len, allflatI, pureLI, shI, import_I, refsI, Option.map_some]
        refine ih _ ⟨?_, ?_, ?_, ?_, ?_, ?_, ?_⟩ ?_ ?_ ?_ hq
        all_goals simp only [vmr, vmw, vmp, vza, ↓reduceIte, Nat.reduceBEq, Nat.reduceLT, Nat.reduceAdd, Nat.reduceEqDiff, reduceCtorEq, vmt, vzb, vzc, vlen, vleaf, velems, oks, vst, vmd, ty, Nat.reduceLeDiff, Nat.reduceMul, Nat.reduceSub, m19, h3', h5, h5', h6', h7, h8, h8', h9, h10, h11]
      · rw [decide_eq_false (fun h => hd (hdec.1 h))] at e60
        have ih := fun s => ih m lo m n' s (by omega) (by omega) h1 (by omega) (by omega) hmB
        simp only [sub, c19, Tryd.f19, gets] at ih
        simp only [vmr, vmw, vmp, vza, ↓reduceIte, Nat.reduceBEq, Nat.reduceLT, Nat.reduceAdd, Nat.reduceEqDiff, reduceCtorEq, vmt, vzb, vzc, vlen, vleaf, velems, oks, vst, vmd, ty, Nat.reduceLeDiff, Nat.reduceMul, Nat.reduceSub, c19, Tryd.f19, m19, h3', h5, h5', h6', h7, h8, h8', h9, h10, h11, w0, q, w1, t1, n2, hir, hst, htk, e62, e63, e60, hgI, hgc, fx_len, allflatI, pureLI, shI, import_I, refsI, Option.map_some]
        refine ih _ ⟨?_, ?_, ?_, ?_, ?_, ?_, ?_⟩ ?_ ?_ ?_ hq
        all_goals simp only [vmr, vmw, vmp, vza, ↓reduceIte, Nat.reduceBEq, Nat.reduceLT, Nat.reduceAdd, Nat.reduceEqDiff, reduceCtorEq, vmt, vzb, vzc, vlen, vleaf, velems, oks, vst, vmd, ty, Nat.reduceLeDiff, Nat.reduceMul, Nat.reduceSub, m19, h3', h5, h5', h6', h7, h8, h8', h9, h10, h11]
theorem l19 {n k} (x e la R v3 v5 v6 v8 : Nat) (hn0 : 10001 < n) (he1 : 1 ≤ e) (he : e ≤ 1000) (hx : (lm 10000 x).length ≤ 130) (hla : la ≤ 140) (hRe : R = rootN e x) (hR : R < 10000 ^ la) {P : Option (Ex × St) → Prop} : ∀ j n' s, j ≤ la → j < n' →
    P19 s x e la v3 v5 v6 v8 (R / 10000 ^ j * 10000 ^ j) → tget s.τ 9 = I ((j : Int) - 1) → (∀ s', P19 s' x e la v3 v5 v6 v8 R → P (X (tm (tabT K13) (M19 (hand T19) n)) (.exit 0) k s')) →
    P (L (tm (tabT K13) (M19 (hand T19) n)) (sub [1, 1, 1, 1, 1, 1, 1, 0, 1, 0, 0] c19) n' k s) := by
  intro j
  induction j with
  | zero =>
    intro n' s hj hn hP h9 hq
    obtain ⟨n', rfl⟩ : ∃ m, n' = m + 1 := ⟨n' - 1, by omega⟩
    obtain ⟨h3', h5, h5', h6', h7, h8, h8'⟩ := hP
    have c0 : (((0 : Nat) : Int) - 1 ≥ 0) = False := by decide
    rw [Nat.pow_zero, Nat.div_one, Nat.mul_one] at h8'
    rw [L_succ]
    simp only [vmr, vmw, vmp, vza, ↓reduceIte, Nat.reduceBEq, Nat.reduceLT, Nat.reduceAdd, Nat.reduceEqDiff, reduceCtorEq, vmt, vzb, vzc, vlen, vleaf, velems, oks, vst, vmd, ty, Nat.reduceLeDiff, Nat.reduceMul, Nat.reduceSub, c19, Tryd.f19, m19, h9, c0]
    refine hq _ ⟨?_, ?_, ?_, ?_, ?_, ?_, ?_⟩
    all_goals simp only [vmr, vmw, vmp, vza, ↓reduceIte, Nat.reduceBEq, Nat.reduceLT, Nat.reduceAdd, Nat.reduceEqDiff, reduceCtorEq, vmt, vzb, vzc, vlen, vleaf, velems, oks, vst, vmd, ty, Nat.reduceLeDiff, Nat.reduceMul, Nat.reduceSub, m19, h3', h5, h5', h6', h7, h8, h8', h9]
  | succ i ih =>
    intro n' s hj hn hP h9 hq
    obtain ⟨n', rfl⟩ : ∃ m, n' = m + 1 := ⟨n' - 1, by omega⟩
    obtain ⟨h3', h5, h5', h6', h7, h8, h8'⟩ := hP
    rw [show (((i + 1 : Nat) : Int) - 1) = (i : Int) by omega] at h9
    have c0 : ((i : Int) ≥ 0) = True := eq_true (by omega)
    have hdB := Nat.mod_lt (R / 10000 ^ i) (show 0 < 10000 by omega)
    have hir : ((i : Int) < (la : Int)) = True := eq_true (by omega)
    have ws : IntKind.i64.wrap ((i : Int) - 1) = (i : Int) - 1 := by rw [wrap_id]; omega
    have a1 := fun k s => @l19b n k x e la i R v3 v5 v6 v8 he1 he hx (by omega) hla hRe hR P 10000 0 0 10000 n s (by omega) (by omega) (by omega) hdB (by omega) (by omega)
    have ih := fun s => ih n' s (by omega) (by omega)
    simp only [sub, c19, Tryd.f19, gets] at a1 ih
    rw [L_succ]
    simp only [vmr, vmw, vmp, vza, ↓reduceIte, Nat.reduceBEq, Nat.reduceLT, Nat.reduceAdd, Nat.reduceEqDiff, reduceCtorEq, vmt, vzb, vzc, vlen, vleaf, velems, oks, vst, vmd, ty, Nat.reduceLeDiff, Nat.reduceMul, Nat.reduceSub, c19, Tryd.f19, m19, h9, c0]
    refine a1 _ _ ⟨?_, ?_, ?_, ?_, ?_, ?_, ?_⟩ ?_ ?_ ?_ (fun s' c hc ⟨h3', h5, h5', h6', h7, h8, h8'⟩ h9 h10 => ?_)
    case refine_11 =>
      have hst := congrArg (List.map I) (trial_set (Q := R / 10000 ^ (i + 1)) (la := la) b2 (show i < la by omega) hc hdB)
      rw [← setI, trial_next] at hst
      have hgc : (fx 10000 la (R / 10000 ^ (i + 1) * 10000 ^ (i + 1) + c * 10000 ^ i))[i]? = some ((c : Nat) : Int) := by
        rw [fx_get 10000 la _ i (by omega), trial_get b2 hc]
      simp only [vmr, vmw, vmp, vza, ↓reduceIte, Nat.reduceBEq, Nat.reduceLT, Nat.reduceAdd, Nat.reduceEqDiff, reduceCtorEq, vmt, vzb, vzc, vlen, vleaf, velems, oks, vst, vmd, ty, Nat.reduceLeDiff, Nat.reduceMul, Nat.reduceSub, c19, Tryd.f19, m19, h3', h5, h5', h6', h7, h8, h8', h9, h10, hir, hst, hgc, ws, fx_len, Option.map_some, shI, refsI]
      refine ih _ ⟨?_, ?_, ?_, ?_, ?_, ?_, ?_⟩ ?_ hq
      all_goals simp only [vmr, vmw, vmp, vza, ↓reduceIte, Nat.reduceBEq, Nat.reduceLT, Nat.reduceAdd, Nat.reduceEqDiff, reduceCtorEq, vmt, vzb, vzc, vlen, vleaf, velems, oks, vst, vmd, ty, Nat.reduceLeDiff, Nat.reduceMul, Nat.reduceSub, m19, h3', h5, h5', h6', h7, h8, h8', h9, h10]
    all_goals simp only [vmr, vmw, vmp, vza, ↓reduceIte, Nat.reduceBEq, Nat.reduceLT, Nat.reduceAdd, Nat.reduceEqDiff, reduceCtorEq, vmt, vzb, vzc, vlen, vleaf, velems, oks, vst, vmd, ty, Nat.reduceLeDiff, Nat.reduceMul, Nat.reduceSub, m19, h3', h5, h5', h6', h7, h8, h8', h9, Nat.zero_mul, Nat.add_zero]
    all_goals rfl
end Go.Vi
set_option maxRecDepth 100000
set_option maxHeartbeats 1000000
set_option exponentiation.threshold 256
namespace Go.Vi
open Go Go.Proofs

def rootS (a : List UInt8) (n : Int) : V :=
  if validB a = true then (if 1 ≤ n ∧ n ≤ 1000 then (if ival a < 0 then .tup [.str [], I 101] else .tup [.str (itxt ((rootN n.toNat (ival a).toNat : Nat) : Int)), I 0]) else .tup [.str [], I 4]) else .tup [.str [], I 2]
theorem rootS_pure {a n} : pureR (rootS a n) = true := by
  unfold rootS
  split
  · split
    · split <;> rfl
    · rfl
  · rfl
theorem small_130 {x : Nat} (h : x < 10 ^ 500) : (lm 10000 x).length ≤ 130 := by have := (lm125 x).2 h; omega
theorem w19 (a : List UInt8) (e : Int) : SoundPure Tryd.prog 19 [.str a, I e] (.ret (rootS a e)) := by
  refine sound_defer (C := Cx (hand T19)) hT19 good mixed hK13 (n := 10010) (s1 := ?s1) (k := ⟨0, 5, 0⟩) (ver := 1) Tryd.func19 rfl (by simp) rootS_pure (by decide) caught49 ?h0 ?hte ?h1
  case h0 =>
    show R (tm (tabT K13) (M19 (hand T19) 10010)) (sub [0] c19) .top _ = _
    simp only [c19, Tryd.f19, gets, sub]
    simp only [vmr, vmw, vmp, vza, ↓reduceIte, Nat.reduceBEq, Nat.reduceLT, Nat.reduceAdd, Nat.reduceEqDiff, reduceCtorEq, vmt, vzb, vzc, vlen, vleaf, velems, oks, vst, vmd, ty, Nat.reduceLeDiff, Nat.reduceMul, Nat.reduceSub, m19]
    exact X_top
  case hte => simp only [vmr, vmw, vmp, vza, ↓reduceIte, Nat.reduceBEq, Nat.reduceLT, Nat.reduceAdd, Nat.reduceEqDiff, reduceCtorEq, vmt, vzb, vzc, vlen, vleaf, velems, oks, vst, vmd, ty, Nat.reduceLeDiff, Nat.reduceMul, Nat.reduceSub, m19]
  show FinC (tm (tabT K13) (M19 (hand T19) 10010)) 24 96 _ [.tmp 4, .cell 5 24] (R (tm (tabT K13) (M19 (hand T19) 10010)) (sub [1, 1] c19) .top _) = _
  unfold rootS
  cases ha : validB a with
  | false =>
    have ea := F50_bad ha
    simp only [c19, Tryd.f19, gets, sub, opsAt]
    simp only [Bool.false_eq_true, if_false]
    simp only [vmr, vmw, vmp, vza, ↓reduceIte, Nat.reduceBEq, Nat.reduceLT, Nat.reduceAdd, Nat.reduceEqDiff, reduceCtorEq, vmt, vzb, vzc, vlen, vleaf, velems, oks, vst, vmd, ty, Nat.reduceLeDiff, Nat.reduceMul, Nat.reduceSub, vzr, m19, ea, FinC_pan, FinC_ret, tidy_mk]
  | true =>
    have ea := F50_ok ha
    have sa := ival_small ha
    simp only [if_true]
    generalize ival a = x at *
    have e51 := F51_eq false 4
    have e51t := F51_eq true 4
    simp only [Bool.false_eq_true, if_false] at e51
    simp only [if_true] at e51t
    by_cases h1 : 1 ≤ e
    · have q1 : (e ≥ 1) = True := eq_true h1
      by_cases h2 : e ≤ 1000
      · have q2 := eq_true h2
        rw [if_pos ⟨h1, h2⟩]
        by_cases hx : x < 0
        · rw [if_pos hx]
          have e51b := F51_eq false 101
          simp only [Bool.false_eq_true, if_false] at e51b
          have dx := decide_eq_true hx
          simp only [c19, Tryd.f19, gets, sub, opsAt]
          simp only [vmr, vmw, vmp, vza, ↓reduceIte, Nat.reduceBEq, Nat.reduceLT, Nat.reduceAdd, Nat.reduceEqDiff, reduceCtorEq, vmt, vzb, vzc, vlen, vleaf, velems, oks, vst, vmd, ty, Nat.reduceLeDiff, Nat.reduceMul, Nat.reduceSub, vzr, m19, ea, q1, q2, e51t, e51b, dx, FinC_pan, FinC_ret, tidy_mk]
        · rw [if_neg hx]
          have e51b := F51_eq true 101
          simp only [if_true] at e51b
          have dx := decide_eq_false hx
          obtain ⟨n, rfl⟩ : ∃ n : Nat, e = n := ⟨e.toNat, by omega⟩
          obtain ⟨y, rfl⟩ : ∃ y : Nat, x = y := ⟨x.toNat, by omega⟩
          have hya : Int.natAbs (y : Int) = y := rfl
          have hy : y < 10 ^ 500 := sa
          rw [show ((n : Int)).toNat = n from rfl, show ((y : Int)).toNat = y from rfl]
          have hl := small_130 hy
          have hlt := lm_lt b2 y
          generalize hlen : (lm 10000 y).length = len at *
          have hdiv := Nat.div_le_self len n
          have hR : rootN n y < 10000 ^ (len / n + 1) := root_lt b2 (by omega) hlt (by
            have h3 := Nat.div_add_mod len n
            have h4 := Nat.mod_lt len (show 0 < n by omega)
            rw [Nat.add_mul, Nat.one_mul, Nat.mul_comm]
            omega)
          have t1 : IntKind.i64.wrap (Int.tdiv (len : Int) (n : Int)) = ((len / n : Nat) : Int) := by
            rw [show Int.tdiv (len : Int) (n : Int) = ((len / n : Nat) : Int) from rfl, wrap_id]
            generalize len / n = q at *
            omega
          have hn0 : ((n : Int) = 0) = False := eq_false (by omega)
          generalize hla : len / n + 1 = la at *
          have w1 : IntKind.i64.wrap (((len / n : Nat) : Int) + 1) = ((la : Nat) : Int) := by
            generalize len / n = q at *
            rw [wrap_id] <;> omega
          have w2 : IntKind.i64.wrap (((la : Nat) : Int) - 1) = ((la : Nat) : Int) - 1 := by
            generalize len / n = q at *
            rw [wrap_id]; omega
          have hla2 : 1 ≤ la ∧ la ≤ 140 := by
            generalize len / n = q at *
            omega
          have hr := @room3 la (by omega)
          have hm : (((la : Nat) : Int) ≤ 9223372036854775807) = True := eq_true (by omega)
          have hm2 : (((la : Nat) : Int) ≤ ((la : Nat) : Int)) = True := eq_true (by omega)
          have hR2 : small ((rootN n y : Nat) : Int) := Nat.lt_of_le_of_lt root_le hy
          have e54 := F54v_eq hR2
          have hz : Zi ((rootN n y : Nat) : Int) = .agg [.bool false, N (rootN n y)] := by
            have : decide (((rootN n y : Nat) : Int) < 0) = false := decide_eq_false (by omega)
            simp only [Zi, this]
            rfl
          rw [hz] at e54
          have e63 := F63_fx (k := la) (by omega) hR
          have htk := take_of (fx 10000 la (rootN n y)) (fx_len ..)
          have a1 := fun k s v3 v5 v6 v8 => @l19 10010 k y n la (rootN n y) v3 v5 v6 v8 (by omega) (by omega) (by omega) (by omega) (by omega) rfl hR (fun r => FinC (tm (tabT K13) (M19 (hand T19) 10010)) 24 96 (.ptr ⟨0, 5, 0⟩ 1 0 0) [.tmp 4, .cell 5 24] r = some (.ret (.tup [.str (itxt ((rootN n y : Nat) : Int)), I 0]))) la 10010 s (by omega) (by omega)
          simp only [c19, Tryd.f19, gets, sub, opsAt] at a1 ⊢
          simp only [vmr, vmw, vmp, vza, ↓reduceIte, Nat.reduceBEq, Nat.reduceLT, Nat.reduceAdd, Nat.reduceEqDiff, reduceCtorEq, vmt, vzb, vzc, vlen, vleaf, velems, oks, vst, vmd, ty, Nat.reduceLeDiff, Nat.reduceMul, Nat.reduceSub, m19, ea, q1, q2, e51t, e51b, dx, hya, hlen, hn0, t1, w1, w2, hr, hm, hm2, fitsI, allflatI, pureLI, shI, import_I]
          refine a1 _ _ 0 1 2 4 ⟨?_, ?_, ?_, ?_, ?_, ?_, ?_⟩ ?_ (fun s' ⟨h3', h5, h5', h6', h7, h8, h8'⟩ => ?_)
          case refine_9 =>
            simp only [vmr, vmw, vmp, vza, ↓reduceIte, Nat.reduceBEq, Nat.reduceLT, Nat.reduceAdd, Nat.reduceEqDiff, reduceCtorEq, vmt, vzb, vzc, vlen, vleaf, velems, oks, vst, vmd, ty, Nat.reduceLeDiff, Nat.reduceMul, Nat.reduceSub, vzr, m19, h3', h5, h5', h6', h7, h8, h8', htk, e63, e54, fx_len, allflatI, pureLI, shI, import_I, FinC_pan, FinC_ret, tidy_mk]
          all_goals simp only [vmr, vmw, vmp, vza, ↓reduceIte, Nat.reduceBEq, Nat.reduceLT, Nat.reduceAdd, Nat.reduceEqDiff, reduceCtorEq, vmt, vzb, vzc, vlen, vleaf, velems, oks, vst, vmd, ty, Nat.reduceLeDiff, Nat.reduceMul, Nat.reduceSub, m19, w2, Nat.div_eq_of_lt hR, Nat.zero_mul, repl_fx, fx_len]
      · have q2 := eq_false h2
        rw [if_neg (by omega)]
        simp only [c19, Tryd.f19, gets, sub, opsAt]
        simp only [vmr, vmw, vmp, vza, ↓reduceIte, Nat.reduceBEq, Nat.reduceLT, Nat.reduceAdd, Nat.reduceEqDiff, reduceCtorEq, vmt, vzb, vzc, vlen, vleaf, velems, oks, vst, vmd, ty, Nat.reduceLeDiff, Nat.reduceMul, Nat.reduceSub, vzr, m19, ea, q1, q2, e51, FinC_pan, FinC_ret, tidy_mk]
    · have q1 : (e ≥ 1) = False := eq_false h1
      rw [if_neg (by omega)]
      simp only [c19, Tryd.f19, gets, sub, opsAt]
      simp only [vmr, vmw, vmp, vza, ↓reduceIte, Nat.reduceBEq, Nat.reduceLT, Nat.reduceAdd, Nat.reduceEqDiff, reduceCtorEq, vmt, vzb, vzc, vlen, vleaf, velems, oks, vst, vmd, ty, Nat.reduceLeDiff, Nat.reduceMul, Nat.reduceSub, vzr, m19, ea, q1, e51, FinC_pan, FinC_ret, tidy_mk]
noncomputable def F19 : List V → Option V := hF (α := List UInt8 × Int) (fun a => [.str a.1, I a.2]) (fun _ => True) (fun a => rootS a.1 a.2)
theorem F19_eq {a : List UInt8} {e : Int} : F19 [.str a, I e] = some (rootS a e) := hF_eq (a := (a, e)) (fun a b h => by
  injection h with h1 h2
  injection h2 with h2 _
  exact Prod.ext (Str_inj h1) (I_inj h2)) (by simp only [cans, canStr, canI]) trivial
end Go.Vi
