/-
  Walk of ref.times.
-/
import Derived.Test.YtpdeblfnbcponaaGreatDoorYE
set_option linter.unusedSimpArgs false
set_option linter.unusedVariables false
set_option maxRecDepth 100000
set_option maxHeartbeats 1000000
set_option exponentiation.threshold 256
namespace Go.Vi
open Go Go.Proofs

theorem n10000z : ((10 : Int) = 0) = False := by decide
structure P48 (s : St) (x y w vo W i : Nat) : Prop where
  h0 : tget s.τ 0 = D x
  h1 : tget s.τ 1 = D y
  h5 : tget s.τ 5 = .ref ⟨0, 5, 0⟩ vo 0 w
  h5' : lget s.L (5, 0) = some (vo, .arr 1 ((fx 10 w W).map I))
  h6 : tget s.τ 6 = I (i : Nat)
theorem l48b {H n k vo} (x y i w : Nat) (hw : w = (lm 10 x).length + (lm 10 y).length + 1) (hx0 : short x) (hy0 : short y) (hi : i < (lm 10 x).length) {P : Option (Ex × St) → Prop} : ∀ d kk W c n' s, kk + d = (lm 10 y).length + 1 → d < n' →
    W + c * 10 ^ (i + kk) = x % 10 ^ i * y + (x / 10 ^ i % 10) * (y % 10 ^ kk) * 10 ^ i → c ≤ 9 → (kk = (lm 10 y).length + 1 → c = 0) →
    P48 s x y w vo W i → tget s.τ 7 = I (c : Nat) → tget s.τ 8 = I (kk : Nat) →
    (∀ s', P48 s' x y w vo (x % 10 ^ (i + 1) * y) i → P (X (M48 H n) (.exit 2) k s')) →
    P (L (M48 H n) (sub [1, 1, 0, 1, 0, 0, 1, 0, 0, 1, 1, 0, 0] c48) n' k s) := by
  have hyl := lm_lt b10 y
  have hxb := short_len hx0
  have hyb := short_len hy0
  intro d
  induction d with
  | zero =>
    intro kk W c n' s hk hn hinv hc hc0 hP h7 h8 hx
    obtain ⟨n', rfl⟩ : ∃ m, n' = m + 1 := ⟨n' - 1, by omega⟩
    obtain ⟨h0, h1, h5, h5', h6⟩ := hP
    have hc0 := hc0 (by omega)
    subst hc0
    have q1 : ((kk : Int) < ((lm 10 y).length : Int)) = False := eq_false (by omega)
    have q2 : (((0 : Nat) : Int) > 0) = False := by decide
    have hy' : y < 10 ^ kk := (lm_len_le b10 y kk).1 (by omega)
    rw [Nat.zero_mul, Nat.add_zero, Nat.mod_eq_of_lt hy', mul_row] at hinv
    subst hinv
    rw [L_succ]
    simp only [vmr, vmw, vmp, vza, ↓reduceIte, Nat.reduceBEq, Nat.reduceLT, Nat.reduceAdd, Nat.reduceEqDiff, reduceCtorEq, vmt, vzb, vzc, vlen, vleaf, velems, oks, vst, vmd, ty, Nat.reduceLeDiff, Nat.reduceMul, Nat.reduceSub, c48, Tryz.f39, m48, h1, h7, h8, q1, q2]
    refine hx _ ⟨?_, ?_, ?_, ?_, ?_⟩
    all_goals simp only [vmr, vmw, vmp, vza, ↓reduceIte, Nat.reduceBEq, Nat.reduceLT, Nat.reduceAdd, Nat.reduceEqDiff, reduceCtorEq, vmt, vzb, vzc, vlen, vleaf, velems, oks, vst, vmd, ty, Nat.reduceLeDiff, Nat.reduceMul, Nat.reduceSub, m48, h0, h1, h5, h5', h6]
  | succ d ih =>
    intro kk W c n' s hk hn hinv hc hc0 hP h7 h8 hx
    obtain ⟨n', rfl⟩ : ∃ m, n' = m + 1 := ⟨n' - 1, by omega⟩
    obtain ⟨h0, h1, h5, h5', h6⟩ := hP
    by_cases hex : (lm 10 y).length ≤ kk ∧ c = 0
    · obtain ⟨hle, rfl⟩ := hex
      have q1 : ((kk : Int) < ((lm 10 y).length : Int)) = False := eq_false (by omega)
      have q2 : (((0 : Nat) : Int) > 0) = False := by decide
      have hy' : y < 10 ^ kk := (lm_len_le b10 y kk).1 (by omega)
      rw [Nat.zero_mul, Nat.add_zero, Nat.mod_eq_of_lt hy', mul_row] at hinv
      subst hinv
      rw [L_succ]
      simp only [vmr, vmw, vmp, vza, ↓reduceIte, Nat.reduceBEq, Nat.reduceLT, Nat.reduceAdd, Nat.reduceEqDiff, reduceCtorEq, vmt, vzb, vzc, vlen, vleaf, velems, oks, vst, vmd, ty, Nat.reduceLeDiff, Nat.reduceMul, Nat.reduceSub, c48, Tryz.f39, m48, h1, h7, h8, q1, q2]
      refine hx _ ⟨?_, ?_, ?_, ?_, ?_⟩
      all_goals simp only [vmr, vmw, vmp, vza, ↓reduceIte, Nat.reduceBEq, Nat.reduceLT, Nat.reduceAdd, Nat.reduceEqDiff, reduceCtorEq, vmt, vzb, vzc, vlen, vleaf, velems, oks, vst, vmd, ty, Nat.reduceLeDiff, Nat.reduceMul, Nat.reduceSub, m48, h0, h1, h5, h5', h6]
    · have hs : calm (M48 H n).E (opsAt (sub [1, 1, 0, 1, 0, 0, 1, 0, 0, 1, 1, 0, 0, 1, 0, 0, 1, 0, 1, 0] c48)) = true := by kernel_rfl
      obtain ⟨W', hW1, hW2⟩ := mul_step b10 hinv _ rfl
      have hlen : i + kk < w := by omega
      have dX := Nat.mod_lt (x / 10 ^ i) (show 0 < 10 by omega)
      have dY := Nat.mod_lt (y / 10 ^ kk) (show 0 < 10 by omega)
      have dW := Nat.mod_lt (W / 10 ^ (i + kk)) (show 0 < 10 by omega)
      have hst := congrArg (List.map I) (fx_set b10 w W (i + kk) _ W' hlen (Nat.mod_lt _ (by omega)) hW1)
      rw [← setI] at hst
      have hg := fx_get 10 w W (i + kk) hlen
      have hgm : ((fx 10 w W).map I)[i + kk]? = some (I ((W / 10 ^ (i + kk) % 10 : Nat) : Int)) := by simp [hg]
      have gx : ((lm 10 x).map I)[i]? = some (I ((x / 10 ^ i % 10 : Nat) : Int)) := by simp [lm_get b10 x i hi]
      have gy : kk < (lm 10 y).length → ((lm 10 y).map I)[kk]? = some (I ((y / 10 ^ kk % 10 : Nat) : Int)) := fun h => by simp [lm_get b10 y kk h]
      have zy : ¬ kk < (lm 10 y).length → y / 10 ^ kk % 10 = 0 := fun h => by
        rw [Nat.div_eq_of_lt ((lm_len_le b10 y kk).1 (by omega))]
      have hmul : x / 10 ^ i % 10 * (y / 10 ^ kk % 10) ≤ 9 * 9 := Nat.mul_le_mul (by omega) (by omega)
      have hend : kk = (lm 10 y).length → (c + (W / 10 ^ (i + kk) % 10 + x / 10 ^ i % 10 * (y / 10 ^ kk % 10))) / 10 = 0 := by
        intro e
        refine mul_end b10 (n := kk) (i := i) (x := x) (y := y) (W := W') (by rw [e]; exact hyl) ?_
        rw [hW2, Nat.mod_eq_of_lt (show y < 10 ^ (kk + 1) from (lm_len_le b10 y _).1 (by omega)), mul_row]
      have ih := fun s => ih (kk + 1) W' _ n' s (by omega) (by omega) hW2 (by omega) (fun e => hend (by omega))
      have hcl : (((i + kk : Nat) : Int) < ((w : Nat) : Int)) = True := eq_true (by omega)
      have hix : ((i : Int) < ((lm 10 x).length : Int)) = True := eq_true (by omega)
      have hwk := wsucc9' (i := kk) (by omega)
      generalize x / 10 ^ i % 10 = X at *
      generalize y / 10 ^ kk % 10 = Y at *
      generalize W / 10 ^ (i + kk) % 10 = G at *
      have w0 : IntKind.i64.wrap ((i : Int) + (kk : Int)) = ((i + kk : Nat) : Int) := by rw [wrap_id] <;> omega
      have w1 : IntKind.i64.wrap ((X : Int) * (Y : Int)) = ((X * Y : Nat) : Int) := by
        rw [← Int.natCast_mul]; exact wrapN (by omega)
      have w2 : IntKind.i64.wrap ((G : Int) + (c : Int)) = ((c + G : Nat) : Int) := by rw [wrap_id] <;> omega
      simp only [sub, c48, Tryz.f39, gets, opsAt] at hs ih
      rw [L_succ]
      by_cases q : kk < (lm 10 y).length
      · have q' : ((kk : Int) < ((lm 10 y).length : Int)) = True := eq_true (by omega)
        have gy := gy q
        generalize X * Y = p at *
        have w3 : IntKind.i64.wrap (((c + G : Nat) : Int) + (p : Int)) = ((c + (G + p) : Nat) : Int) := by rw [wrap_id] <;> omega
        have t1 : IntKind.i64.wrap (Int.tdiv ((c + (G + p) : Nat) : Int) 10) = (((c + (G + p)) / 10 : Nat) : Int) := by
          rw [show Int.tdiv ((c + (G + p) : Nat) : Int) 10 = (((c + (G + p)) / 10 : Nat) : Int) from rfl, wrap_id] <;> omega
        have t2 : Int.tmod ((c + (G + p) : Nat) : Int) 10 = (((c + (G + p)) % 10 : Nat) : Int) := rfl
        simp only [vmr, vmw, vmp, vza, ↓reduceIte, Nat.reduceBEq, Nat.reduceLT, Nat.reduceAdd, Nat.reduceEqDiff, reduceCtorEq, vmt, vzb, vzc, vlen, vleaf, velems, oks, vst, vmd, ty, Nat.reduceLeDiff, Nat.reduceMul, Nat.reduceSub, c48, Tryz.f39, m48, h0, h1, h5, h5', h6, h7, h8, q', hs, w0, w1, w2, w3, t1, t2, hgm, gx, gy, hcl, hix, n10000z, hst, hwk, shI]
        refine ih _ ⟨?_, ?_, ?_, ?_, ?_⟩ ?_ ?_ hx
        all_goals simp only [vmr, vmw, vmp, vza, ↓reduceIte, Nat.reduceBEq, Nat.reduceLT, Nat.reduceAdd, Nat.reduceEqDiff, reduceCtorEq, vmt, vzb, vzc, vlen, vleaf, velems, oks, vst, vmd, ty, Nat.reduceLeDiff, Nat.reduceMul, Nat.reduceSub, m48, h0, h1, h5, h5', h6, hst, t1, hwk]
      · have q' : ((kk : Int) < ((lm 10 y).length : Int)) = False := eq_false (by omega)
        have zy := zy q
        subst zy
        have q2 : ((c : Int) > 0) = True := eq_true (by omega)
        simp only [Nat.mul_zero, Nat.add_zero] at ih hst
        have t1 : IntKind.i64.wrap (Int.tdiv ((c + G : Nat) : Int) 10) = (((c + G) / 10 : Nat) : Int) := by
          rw [show Int.tdiv ((c + G : Nat) : Int) 10 = (((c + G) / 10 : Nat) : Int) from rfl, wrap_id] <;> omega
        have t2 : Int.tmod ((c + G : Nat) : Int) 10 = (((c + G) % 10 : Nat) : Int) := rfl
        simp only [vmr, vmw, vmp, vza, ↓reduceIte, Nat.reduceBEq, Nat.reduceLT, Nat.reduceAdd, Nat.reduceEqDiff, reduceCtorEq, vmt, vzb, vzc, vlen, vleaf, velems, oks, vst, vmd, ty, Nat.reduceLeDiff, Nat.reduceMul, Nat.reduceSub, c48, Tryz.f39, m48, h0, h1, h5, h5', h6, h7, h8, q', q2, w0, w2, t1, t2, hgm, hcl, n10000z, hst, hwk, shI]
        refine ih _ ⟨?_, ?_, ?_, ?_, ?_⟩ ?_ ?_ hx
        all_goals simp only [vmr, vmw, vmp, vza, ↓reduceIte, Nat.reduceBEq, Nat.reduceLT, Nat.reduceAdd, Nat.reduceEqDiff, reduceCtorEq, vmt, vzb, vzc, vlen, vleaf, velems, oks, vst, vmd, ty, Nat.reduceLeDiff, Nat.reduceMul, Nat.reduceSub, m48, h0, h1, h5, h5', h6, hst, t1, hwk]
theorem l48 {H n k vo} (x y w : Nat) (hw : w = (lm 10 x).length + (lm 10 y).length + 1) (hx0 : short x) (hy0 : short y) (hnn : (lm 10 y).length + 1 < n) {P : Option (Ex × St) → Prop} : ∀ d i n' s, i + d = (lm 10 x).length → d < n' → P48 s x y w vo (x % 10 ^ i * y) i →
    (∀ s', P48 s' x y w vo (x * y) (lm 10 x).length → P (X (M48 H n) (.exit 0) k s')) →
    P (L (M48 H n) (sub [1, 1, 0, 1, 0, 0] c48) n' k s) := by
  have hxb := short_len hx0
  intro d
  induction d with
  | zero =>
    intro i n' s hi hn hP hx
    obtain ⟨n', rfl⟩ : ∃ m, n' = m + 1 := ⟨n' - 1, by omega⟩
    obtain ⟨h0, h1, h5, h5', h6⟩ := hP
    obtain rfl : i = (lm 10 x).length := by omega
    have hc : (((lm 10 x).length : Int) < ((lm 10 x).length : Int)) = False := eq_false (by omega)
    have hlt := lm_lt b10 x
    rw [Nat.mod_eq_of_lt hlt] at h5'
    rw [L_succ]
    simp only [vmr, vmw, vmp, vza, ↓reduceIte, Nat.reduceBEq, Nat.reduceLT, Nat.reduceAdd, Nat.reduceEqDiff, reduceCtorEq, vmt, vzb, vzc, vlen, vleaf, velems, oks, vst, vmd, ty, Nat.reduceLeDiff, Nat.reduceMul, Nat.reduceSub, c48, Tryz.f39, m48, h0, h6, hc]
    refine hx _ ⟨?_, ?_, ?_, ?_, ?_⟩
    all_goals simp only [vmr, vmw, vmp, vza, ↓reduceIte, Nat.reduceBEq, Nat.reduceLT, Nat.reduceAdd, Nat.reduceEqDiff, reduceCtorEq, vmt, vzb, vzc, vlen, vleaf, velems, oks, vst, vmd, ty, Nat.reduceLeDiff, Nat.reduceMul, Nat.reduceSub, m48, h0, h1, h5, h5', h6]
  | succ d ih =>
    intro i n' s hi hn hP hx
    obtain ⟨n', rfl⟩ : ∃ m, n' = m + 1 := ⟨n' - 1, by omega⟩
    obtain ⟨h0, h1, h5, h5', h6⟩ := hP
    have hlt : i < (lm 10 x).length := by omega
    have hc : ((i : Int) < ((lm 10 x).length : Int)) = True := eq_true (by omega)
    have hw' := wsucc9' (i := i) (by omega)
    have a1 := fun k s => @l48b H n k vo x y i w hw hx0 hy0 hlt P ((lm 10 y).length + 1) 0 (x % 10 ^ i * y) 0 n s (by omega) (by omega) (by simp [Nat.mod_one]) (by omega) (fun _ => rfl)
    have ih := fun s => ih (i + 1) n' s (by omega) (by omega)
    simp only [sub, c48, Tryz.f39, gets] at a1 ih
    rw [L_succ]
    simp only [vmr, vmw, vmp, vza, ↓reduceIte, Nat.reduceBEq, Nat.reduceLT, Nat.reduceAdd, Nat.reduceEqDiff, reduceCtorEq, vmt, vzb, vzc, vlen, vleaf, velems, oks, vst, vmd, ty, Nat.reduceLeDiff, Nat.reduceMul, Nat.reduceSub, c48, Tryz.f39, m48, h0, h6, hc]
    refine a1 _ _ ⟨?_, ?_, ?_, ?_, ?_⟩ ?_ ?_ (fun s' ⟨h0, h1, h5, h5', h6⟩ => ?_)
    case refine_8 =>
      simp only [vmr, vmw, vmp, vza, ↓reduceIte, Nat.reduceBEq, Nat.reduceLT, Nat.reduceAdd, Nat.reduceEqDiff, reduceCtorEq, vmt, vzb, vzc, vlen, vleaf, velems, oks, vst, vmd, ty, Nat.reduceLeDiff, Nat.reduceMul, Nat.reduceSub, m48, h6, hw']
      refine ih _ ⟨?_, ?_, ?_, ?_, ?_⟩ hx
      all_goals simp only [vmr, vmw, vmp, vza, ↓reduceIte, Nat.reduceBEq, Nat.reduceLT, Nat.reduceAdd, Nat.reduceEqDiff, reduceCtorEq, vmt, vzb, vzc, vlen, vleaf, velems, oks, vst, vmd, ty, Nat.reduceLeDiff, Nat.reduceMul, Nat.reduceSub, m48, h0, h1, h5, h5', h6, hw']
    all_goals simp only [vmr, vmw, vmp, vza, ↓reduceIte, Nat.reduceBEq, Nat.reduceLT, Nat.reduceAdd, Nat.reduceEqDiff, reduceCtorEq, vmt, vzb, vzc, vlen, vleaf, velems, oks, vst, vmd, ty, Nat.reduceLeDiff, Nat.reduceMul, Nat.reduceSub, m48, h0, h1, h5, h5', h6]
def F48P (H : FuncId → Option (List V → Option V)) (n : Nat) (v : V) (r : Option (Ex × St)) : Prop := Fin (M48 H n) [.tmp 4] r = some (.ret v)
noncomputable abbrev T48 : List (FuncId × (List V → Option V)) := (37, F47) :: []
theorem hT48 : SoundHand Tryz.prog (hand T48) := sound_cons (hF_sound fun a h => w47 a.1 a.2 h) sound_nil
theorem repl_fx10 (k : Nat) : List.replicate k (I 0) = (fx 10 k 0).map I := by rw [fx_zero, List.map_replicate]
theorem w48r (x y : Nat) (hx0 : short x) (hy0 : short y) : SoundPure Tryz.prog 39 [D x, D y] (.ret (D (x * y))) := by
  refine s48 hT48 ((lm 10 x).length + (lm 10 y).length + 5) (by simp) (by simp only [pureR, pureLI]) ?_
  show F48P _ _ _ _
  have hxb := short_len hx0
  have hyb := short_len hy0
  generalize hW : (lm 10 x).length + (lm 10 y).length + 1 = w
  have a1 := fun k s vo => @l48 (hand T48) ((lm 10 x).length + (lm 10 y).length + 5) k vo x y w hW.symm hx0 hy0 (by omega) (F48P (hand T48) ((lm 10 x).length + (lm 10 y).length + 5) (D (x * y))) (lm 10 x).length 0 ((lm 10 x).length + (lm 10 y).length + 5) s (by omega) (by omega)
  have hr := @room3 w (by omega)
  have hm : (((w : Nat) : Int) ≤ 9223372036854775807) = True := eq_true (by omega)
  have hm2 : (((w : Nat) : Int) ≤ ((w : Nat) : Int)) = True := eq_true (by omega)
  have hm3 : ((0 : Int) ≤ ((w : Nat) : Int)) = True := eq_true (by omega)
  have hw1 : IntKind.i64.wrap (((lm 10 x).length : Int) + ((lm 10 y).length : Int)) = (((lm 10 x).length + (lm 10 y).length : Nat) : Int) := by rw [wrap_id] <;> omega
  have hw2 : IntKind.i64.wrap ((((lm 10 x).length + (lm 10 y).length : Nat) : Int) + 1) = ((w : Nat) : Int) := by rw [wrap_id] <;> omega
  have hlt : x * y < 10 ^ w := by
    have h1 := lm_lt b10 x
    have h2 := lm_lt b10 y
    rw [← hW, Nat.pow_succ, Nat.pow_add]
    have h3 : x * y ≤ x * 10 ^ (lm 10 y).length := Nat.mul_le_mul_left _ (by omega)
    have h4 : x * 10 ^ (lm 10 y).length < 10 ^ (lm 10 x).length * 10 ^ (lm 10 y).length := Nat.mul_lt_mul_of_pos_right h1 (pow_pos' b10 _)
    omega
  have e47 := F47_pos (k := w) (n := x * y) (by omega) hlt
  have hd : decide (((x * y : Nat) : Int) < 0) = false := decide_eq_false (by omega)
  have hna : ((x * y : Nat) : Int).natAbs = x * y := Int.natAbs_natCast _
  simp only [sub, c48, Tryz.f39, gets] at a1 ⊢
  simp only [vmr, vmw, vmp, vza, ↓reduceIte, Nat.reduceBEq, Nat.reduceLT, Nat.reduceAdd, Nat.reduceEqDiff, reduceCtorEq, vmt, vzb, vzc, vlen, vleaf, velems, oks, vst, vmd, ty, Nat.reduceLeDiff, Nat.reduceMul, Nat.reduceSub, m48, hr, hm, hm2, hm3, fitsI, hw1, hw2]
  refine a1 _ _ 1 ⟨?_, ?_, ?_, ?_, ?_⟩ (fun s' ⟨h0, h1, h5, h5', h6⟩ => ?_)
  case refine_6 =>
    have htk : List.take w ((fx 10 w (x * y)).map I) = (fx 10 w (x * y)).map I := take_of _ (fx_len ..)
    unfold F48P
    simp only [vmr, vmw, vmp, vza, ↓reduceIte, Nat.reduceBEq, Nat.reduceLT, Nat.reduceAdd, Nat.reduceEqDiff, reduceCtorEq, vmt, vzb, vzc, vlen, vleaf, velems, oks, vst, vmd, ty, Nat.reduceLeDiff, Nat.reduceMul, Nat.reduceSub, vzr, m48, h5, h5', e47, hd, hna, fx_len, allflatI, pureLI, shI, htk, import_I]
  all_goals simp only [vmr, vmw, vmp, vza, ↓reduceIte, Nat.reduceBEq, Nat.reduceLT, Nat.reduceAdd, Nat.reduceEqDiff, reduceCtorEq, vmt, vzb, vzc, vlen, vleaf, velems, oks, vst, vmd, ty, Nat.reduceLeDiff, Nat.reduceMul, Nat.reduceSub, m48, Nat.pow_zero, Nat.mod_one, Nat.zero_mul, repl_fx10, fx_len]
noncomputable def F48 : List V → Option V := hF (α := Nat × Nat) (fun a => [D a.1, D a.2]) (fun a => short a.1 ∧ short a.2) (fun a => D (a.1 * a.2))
theorem F48_eq {x y : Nat} (h : short x) (hb : short y) : F48 [D x, D y] = some (D (x * y)) := hF_eq (a := (x, y)) two_D (by simp only [cans, canD]) ⟨h, hb⟩
end Go.Vi
set_option maxRecDepth 100000
set_option maxHeartbeats 1000000
set_option exponentiation.threshold 256
namespace Go.Vi
open Go Go.Proofs

noncomputable abbrev T55 : List (FuncId × (List V → Option V)) := (37, F47) :: (51, F64) :: (52, F87) :: []
theorem hT55 : SoundHand Tryz.prog (hand T55) := sound_cons (hF_sound fun a h => w47 a.1 a.2 h) <| sound_cons (hF_sound fun a h => w64r a.1 a.2 h.1 h.2) <| sound_cons (hF_sound fun a h => w87 a.1 a.2 h.1 h.2) sound_nil
structure P55 (s : St) (x y w vo Q : Nat) (i : Int) : Prop where
  h0 : tget s.τ 0 = D x
  h1 : tget s.τ 1 = D y
  h6 : tget s.τ 6 = .ref ⟨0, 6, 0⟩ vo 0 w
  h6' : lget s.L (6, 0) = some (vo, .arr 1 ((fx 10 w Q).map I))
  h8 : tget s.τ 8 = I i
theorem F47_D {k n : Nat} (hk : k ≤ 1000000) (h : n < 10 ^ k) : F47 [Z false (fx 10 k n)] = some (.agg [.bool false, D n]) := by
  rw [F47_pos hk h]
  simp only [Zr, Int.natAbs_natCast]
  rw [decide_eq_false (show ¬ ((n : Int) < 0) by omega)]
theorem cmp3_ge0 {x y : Nat} (h : y ≤ x) : (cmp3 x y ≥ 0) = True := eq_true (by unfold cmp3; rw [if_neg (by omega)]; split <;> omega)
theorem cmp3_lt0 {x y : Nat} (h : x < y) : (cmp3 x y ≥ 0) = False := eq_false (by unfold cmp3; rw [if_pos h]; omega)
theorem l55b {n k vo} (x y w Q i : Nat) (hy : 0 < y) (hys : short y) (hi : i < w) (hwb : w ≤ 2000) (hQ : ∃ q, Q = q * 10 ^ (i + 1)) {P : Option (Ex × St) → Prop} : ∀ d T c n' s, T / y = d → d < n' → d + c ≤ 9 → T < 10 ^ 2000 →
    P55 s x y w vo (Q + c * 10 ^ i) (i : Nat) → tget s.τ 7 = D T →
    (∀ s', P55 s' x y w vo (Q + (c + d) * 10 ^ i) (i : Nat) → tget s'.τ 7 = D (T % y) → P (X (M55 (hand T55) n) (.exit 2) k s')) →
    P (L (M55 (hand T55) n) (sub [1, 1, 1, 0, 1, 0, 0, 1, 0, 0, 1, 0, 0] c55) n' k s) := by
  intro d
  induction d with
  | zero =>
    intro T c n' s hT hn hc hTs hP h7 hx
    obtain ⟨n', rfl⟩ : ∃ m, n' = m + 1 := ⟨n' - 1, by omega⟩
    obtain ⟨h0, h1, h6, h6', h8⟩ := hP
    have hlt : T < y := (Nat.div_eq_zero_iff_lt hy).1 hT
    have e64 := F64_eq hTs hys
    have c1 := cmp3_lt0 hlt
    rw [Nat.mod_eq_of_lt hlt] at hx
    rw [L_succ]
    simp only [vmr, vmw, vmp, vza, ↓reduceIte, Nat.reduceBEq, Nat.reduceLT, Nat.reduceAdd, Nat.reduceEqDiff, reduceCtorEq, vmt, vzb, vzc, vlen, vleaf, velems, oks, vst, vmd, ty, Nat.reduceLeDiff, Nat.reduceMul, Nat.reduceSub, c55, Tryz.f28, m55, h1, h7, e64, c1]
    refine hx _ ⟨?_, ?_, ?_, ?_, ?_⟩ ?_
    all_goals simp only [vmr, vmw, vmp, vza, ↓reduceIte, Nat.reduceBEq, Nat.reduceLT, Nat.reduceAdd, Nat.reduceEqDiff, reduceCtorEq, vmt, vzb, vzc, vlen, vleaf, velems, oks, vst, vmd, ty, Nat.reduceLeDiff, Nat.reduceMul, Nat.reduceSub, m55, h0, h1, h6, h6', h7, h8]
  | succ d ih =>
    intro T c n' s hT hn hc hTs hP h7 hx
    obtain ⟨n', rfl⟩ : ∃ m, n' = m + 1 := ⟨n' - 1, by omega⟩
    obtain ⟨h0, h1, h6, h6', h8⟩ := hP
    have hge : y ≤ T := by
      rcases Nat.lt_or_ge T y with h | h
      · rw [Nat.div_eq_of_lt h] at hT; omega
      · exact h
    have e64 := F64_eq hTs hys
    have c1 := cmp3_ge0 hge
    have e87 := F87_eq hge hTs
    have hl := short_len hTs
    have hlt := lm_lt b10 T
    have e47 := F47_D (k := (lm 10 T).length) (n := T - y) (by omega) (by omega)
    obtain ⟨q, hq⟩ := hQ
    have hP10 : 0 < 10 ^ i := Nat.pow_pos (by omega)
    have hdig : (Q + c * 10 ^ i) / 10 ^ i % 10 = c := by
      rw [hq, Nat.pow_succ, show q * (10 ^ i * 10) + c * 10 ^ i = (q * 10 + c) * 10 ^ i by rw [Nat.add_mul, Nat.mul_comm (10 ^ i) 10, Nat.mul_assoc], Nat.mul_div_cancel _ hP10]
      omega
    have hgm : ((fx 10 w (Q + c * 10 ^ i)).map I)[i]? = some (I (c : Nat)) := by simp [fx_get 10 w _ i hi, hdig]
    have hst := congrArg (List.map I) (fx_set b10 w (Q + c * 10 ^ i) i (c + 1) (Q + (c + 1) * 10 ^ i) hi (by omega) (by rw [hdig, Nat.add_mul, Nat.one_mul]; omega))
    rw [← setI] at hst
    have hcl : ((i : Int) < ((w : Nat) : Int)) = True := eq_true (by omega)
    have wc : IntKind.i64.wrap ((c : Int) + 1) = ((c + 1 : Nat) : Int) := wsucc9' (by omega)
    have hT2 : (T - y) / y = d := by have := Nat.div_eq_sub_div hy hge; omega
    have hm2 : (T - y) % y = T % y := (Nat.mod_eq_sub_mod hge).symm
    have ih := fun s => ih (T - y) (c + 1) n' s hT2 (by omega) (by omega) (by omega)
    rw [hm2, show c + 1 + d = c + (d + 1) by omega] at ih
    simp only [sub, c55, Tryz.f28, gets] at ih
    rw [L_succ]
    simp only [vmr, vmw, vmp, vza, ↓reduceIte, Nat.reduceBEq, Nat.reduceLT, Nat.reduceAdd, Nat.reduceEqDiff, reduceCtorEq, vmt, vzb, vzc, vlen, vleaf, velems, oks, vst, vmd, ty, Nat.reduceLeDiff, Nat.reduceMul, Nat.reduceSub, c55, Tryz.f28, m55, h1, h6, h6', h7, h8, e64, c1, e87, e47, hgm, hcl, wc, hst, allflatI, pureLI, shI, import_I, refsI]
    refine ih _ ⟨?_, ?_, ?_, ?_, ?_⟩ ?_ hx
    all_goals simp only [vmr, vmw, vmp, vza, ↓reduceIte, Nat.reduceBEq, Nat.reduceLT, Nat.reduceAdd, Nat.reduceEqDiff, reduceCtorEq, vmt, vzb, vzc, vlen, vleaf, velems, oks, vst, vmd, ty, Nat.reduceLeDiff, Nat.reduceMul, Nat.reduceSub, m55, h0, h1, h6, h6', h8, hst]
def A7 (s : St) (r : Nat) (e : Prop) : Prop := (¬ e ∧ tget s.τ 7 = D r) ∨ (e ∧ r = 0 ∧ ∃ v, tget s.τ 7 = .ref ⟨0, 7, 0⟩ v 0 0 ∧ lget s.L (7, 0) = some (v, .arr 1 []))
theorem fx_cons (d r : Nat) (hd : d < 10) : fx 10 ((lm 10 r).length + 1) (10 * r + d) = (d : Int) :: lm 10 r := by
  show (((10 * r + d) % 10 : Nat) : Int) :: fx 10 (lm 10 r).length ((10 * r + d) / 10) = _
  rw [show (10 * r + d) % 10 = d by omega, show (10 * r + d) / 10 = r by omega, lm_len]
  rfl
set_option exponentiation.threshold 500000 in
theorem l55 {n k vo} (x y w : Nat) (hw : w = (lm 10 x).length) (hxs : x < 10 ^ 500) (hy : 0 < y) (hys : y < 10 ^ 500) (hnn : 20 < n) {P : Option (Ex × St) → Prop} : ∀ j n' s, j ≤ w → j < n' →
    P55 s x y w vo (x / 10 ^ j / y * 10 ^ j) ((j : Int) - 1) → A7 s (x / 10 ^ j % y) (j = w) →
    (∀ s', P55 s' x y w vo (x / y) (-1) → A7 s' (x % y) (0 = w) → P (X (M55 (hand T55) n) (.exit 0) k s')) →
    P (L (M55 (hand T55) n) (sub [1, 1, 1, 0, 1, 0, 0] c55) n' k s) := by
  have hwb : w ≤ 500 := by rw [hw]; exact (lm_len_le b10 x 500).2 hxs
  intro j
  induction j with
  | zero =>
    intro n' s hj hn hP h7 hx
    obtain ⟨n', rfl⟩ : ∃ m, n' = m + 1 := ⟨n' - 1, by omega⟩
    rw [Nat.pow_zero, Nat.div_one, Nat.mul_one] at hP
    rw [Nat.pow_zero, Nat.div_one] at h7
    obtain ⟨h0, h1, h6, h6', h8⟩ := hP
    have e8 : (((0 : Nat) : Int) - 1) = -1 := rfl
    rw [e8] at h8
    have hc : ((-1 : Int) ≥ 0) = False := by decide
    rw [L_succ]
    simp only [vmr, vmw, vmp, vza, ↓reduceIte, Nat.reduceBEq, Nat.reduceLT, Nat.reduceAdd, Nat.reduceEqDiff, reduceCtorEq, vmt, vzb, vzc, vlen, vleaf, velems, oks, vst, vmd, ty, Nat.reduceLeDiff, Nat.reduceMul, Nat.reduceSub, c55, Tryz.f28, m55, h8, hc]
    refine hx _ ⟨?_, ?_, ?_, ?_, ?_⟩ ?_
    case refine_6 =>
      rcases h7 with ⟨h7e, h7⟩ | ⟨h7e, h7a, v, h7b, h7c⟩
      · refine .inl ⟨h7e, ?_⟩
        simp only [vmr, vmw, vmp, vza, ↓reduceIte, Nat.reduceBEq, Nat.reduceLT, Nat.reduceAdd, Nat.reduceEqDiff, reduceCtorEq, vmt, vzb, vzc, vlen, vleaf, velems, oks, vst, vmd, ty, Nat.reduceLeDiff, Nat.reduceMul, Nat.reduceSub, m55, h7]
      · refine .inr ⟨h7e, h7a, v, ?_, ?_⟩
        all_goals simp only [vmr, vmw, vmp, vza, ↓reduceIte, Nat.reduceBEq, Nat.reduceLT, Nat.reduceAdd, Nat.reduceEqDiff, reduceCtorEq, vmt, vzb, vzc, vlen, vleaf, velems, oks, vst, vmd, ty, Nat.reduceLeDiff, Nat.reduceMul, Nat.reduceSub, m55, h7b, h7c]
    all_goals simp only [vmr, vmw, vmp, vza, ↓reduceIte, Nat.reduceBEq, Nat.reduceLT, Nat.reduceAdd, Nat.reduceEqDiff, reduceCtorEq, vmt, vzb, vzc, vlen, vleaf, velems, oks, vst, vmd, ty, Nat.reduceLeDiff, Nat.reduceMul, Nat.reduceSub, m55, h0, h1, h6, h6', h8]
  | succ i ih =>
    intro n' s hj hn hP h7 hx
    obtain ⟨n', rfl⟩ : ∃ m, n' = m + 1 := ⟨n' - 1, by omega⟩
    obtain ⟨h0, h1, h6, h6', h8⟩ := hP
    have e8 : (((i + 1 : Nat) : Int) - 1) = (i : Int) := by omega
    rw [e8] at h8
    have hc : ((i : Int) ≥ 0) = True := eq_true (by omega)
    obtain ⟨g1, g2, g3⟩ := quo_digit b10 hy x i
    have hd := Nat.mod_lt (x / 10 ^ i) (show 0 < 10 by omega)
    have gx : ((lm 10 x).map I)[i]? = some (I ((x / 10 ^ i % 10 : Nat) : Int)) := by simp [lm_get b10 x i (by omega)]
    have hix : ((i : Int) < ((lm 10 x).length : Int)) = True := eq_true (by omega)
    have hR := Nat.mod_lt (x / 10 ^ (i + 1)) hy
    have hw' : IntKind.i64.wrap ((i : Int) - 1) = (i : Int) - 1 := by rw [wrap_id] <;> omega
    have ih := fun s => ih n' s (by omega) (by omega)
    rw [g3] at ih
    rw [← g2] at ih
    have hQe : x / 10 ^ (i + 1) / y * 10 ^ (i + 1) = x / 10 ^ (i + 1) / y * 10 * 10 ^ i := by rw [Nat.pow_succ, Nat.mul_comm (10 ^ i) 10, Nat.mul_assoc]
    have hQ : ∃ q, x / 10 ^ (i + 1) / y * 10 ^ (i + 1) = q * 10 ^ (i + 1) := ⟨_, rfl⟩
    rw [Nat.add_mul, ← hQe] at ih
    generalize x / 10 ^ (i + 1) / y * 10 ^ (i + 1) = Q at *
    generalize x / 10 ^ (i + 1) % y = R at *
    generalize x / 10 ^ i % 10 = d at *
    rw [Nat.mul_comm R 10] at g1 ih
    have hTs : 10 * R + d < 10 ^ 2000 := by
      have h1 : (10 : Nat) ^ 501 ≤ 10 ^ 2000 := Nat.pow_le_pow_right (by omega) (by omega)
      have h2 : 10 * R + d < 10 ^ 501 := by rw [Nat.pow_succ]; omega
      omega
    have hRs : R < 10 ^ 2000 := by omega
    have hRl := short_len hRs
    have hRlt := lm_lt b10 R
    have e47 := F47_D (k := (lm 10 R).length + 1) (n := 10 * R + d) (by omega) (by rw [Nat.pow_succ]; omega)
    rw [fx_cons d R hd] at e47
    replace e47 : F47 [.agg [.bool false, .lst (I (d : Int) :: (lm 10 R).map I)]] = some (.agg [.bool false, D (10 * R + d)]) := e47
    have hyS : short y := Nat.lt_of_lt_of_le hys (Nat.pow_le_pow_right (by omega) (by omega))
    have a1 := fun k s => @l55b n k vo x y w Q i hy hyS (by omega) (by omega) hQ P ((10 * R + d) / y) (10 * R + d) 0 n s rfl (by omega) (by omega) hTs
    rw [Nat.zero_mul, Nat.add_zero, Nat.zero_add] at a1
    have htk : List.take ((lm 10 R).length + 1) (I (d : Int) :: (lm 10 R).map I) = I (d : Int) :: (lm 10 R).map I := List.take_of_length_le (by simp)
    have hr1 := @room3 1 (by omega)
    have hr2 := @room3 ((lm 10 R).length + 1) (by omega)
    have hr3 := @room3 (1 + (lm 10 R).length) (by omega)
    simp only [sub, c55, Tryz.f28, gets] at a1 ih
    rw [L_succ]
    rcases h7 with ⟨_, h7⟩ | ⟨_, rfl, v, h7b, h7c⟩
    · simp only [vmr, vmw, vmp, vza, ↓reduceIte, Nat.reduceBEq, Nat.reduceLT, Nat.reduceAdd, Nat.reduceEqDiff, reduceCtorEq, vmt, vzb, vzc, vlen, vleaf, velems, oks, vst, vmd, ty, Nat.reduceLeDiff, Nat.reduceMul, Nat.reduceSub, c55, Tryz.f28, m55, h0, h8, hc, gx, hix, h7, hr1, hr2, hr3, fitsI, allfitsI, htk, e47, List.map_cons, allflatI, pureLI, shI, import_I, refsI]
      refine a1 _ _ ⟨?_, ?_, ?_, ?_, ?_⟩ ?_ (fun s' ⟨h0, h1, h6, h6', h8⟩ h7 => ?_)
      case refine_7 =>
        simp only [vmr, vmw, vmp, vza, ↓reduceIte, Nat.reduceBEq, Nat.reduceLT, Nat.reduceAdd, Nat.reduceEqDiff, reduceCtorEq, vmt, vzb, vzc, vlen, vleaf, velems, oks, vst, vmd, ty, Nat.reduceLeDiff, Nat.reduceMul, Nat.reduceSub, m55, h8, hw']
        refine ih _ ⟨?_, ?_, ?_, ?_, ?_⟩ (.inl ⟨by omega, ?_⟩) hx
        all_goals simp only [vmr, vmw, vmp, vza, ↓reduceIte, Nat.reduceBEq, Nat.reduceLT, Nat.reduceAdd, Nat.reduceEqDiff, reduceCtorEq, vmt, vzb, vzc, vlen, vleaf, velems, oks, vst, vmd, ty, Nat.reduceLeDiff, Nat.reduceMul, Nat.reduceSub, m55, h0, h1, h6, h6', h7]
      all_goals simp only [vmr, vmw, vmp, vza, ↓reduceIte, Nat.reduceBEq, Nat.reduceLT, Nat.reduceAdd, Nat.reduceEqDiff, reduceCtorEq, vmt, vzb, vzc, vlen, vleaf, velems, oks, vst, vmd, ty, Nat.reduceLeDiff, Nat.reduceMul, Nat.reduceSub, m55, h0, h1, h6, h6', h8]
    · simp only [lm_zero, List.length_nil, List.map_nil] at e47 htk hr2 hr3
      simp only [vmr, vmw, vmp, vza, ↓reduceIte, Nat.reduceBEq, Nat.reduceLT, Nat.reduceAdd, Nat.reduceEqDiff, reduceCtorEq, vmt, vzb, vzc, vlen, vleaf, velems, oks, vst, vmd, ty, Nat.reduceLeDiff, Nat.reduceMul, Nat.reduceSub, c55, Tryz.f28, m55, h0, h8, hc, gx, hix, h7b, h7c, hr1, hr2, hr3, fitsI, allfitsI, htk, e47, List.map_cons, List.map_nil, allflatI, pureLI, shI, import_I, refsI]
      refine a1 _ _ ⟨?_, ?_, ?_, ?_, ?_⟩ ?_ (fun s' ⟨h0, h1, h6, h6', h8⟩ h7 => ?_)
      case refine_7 =>
        simp only [vmr, vmw, vmp, vza, ↓reduceIte, Nat.reduceBEq, Nat.reduceLT, Nat.reduceAdd, Nat.reduceEqDiff, reduceCtorEq, vmt, vzb, vzc, vlen, vleaf, velems, oks, vst, vmd, ty, Nat.reduceLeDiff, Nat.reduceMul, Nat.reduceSub, m55, h8, hw']
        refine ih _ ⟨?_, ?_, ?_, ?_, ?_⟩ (.inl ⟨by omega, ?_⟩) hx
        all_goals simp only [vmr, vmw, vmp, vza, ↓reduceIte, Nat.reduceBEq, Nat.reduceLT, Nat.reduceAdd, Nat.reduceEqDiff, reduceCtorEq, vmt, vzb, vzc, vlen, vleaf, velems, oks, vst, vmd, ty, Nat.reduceLeDiff, Nat.reduceMul, Nat.reduceSub, m55, h0, h1, h6, h6', h7]
      all_goals simp only [vmr, vmw, vmp, vza, ↓reduceIte, Nat.reduceBEq, Nat.reduceLT, Nat.reduceAdd, Nat.reduceEqDiff, reduceCtorEq, vmt, vzb, vzc, vlen, vleaf, velems, oks, vst, vmd, ty, Nat.reduceLeDiff, Nat.reduceMul, Nat.reduceSub, m55, h0, h1, h6, h6', h8]
def F55P (n : Nat) (v : V) (r : Option (Ex × St)) : Prop := Fin (M55 (hand T55) n) [.tmp 4, .tmp 5] r = some (.ret v)
def divR (x y : Nat) : V := .tup [D (x / y), if (lm 10 x).length = 0 then .own 1 [] else D (x % y)]
theorem divR_pure {x y} : pureR (divR x y) = true := by
  unfold divR
  split
  · show (pureR (D (x / y)) && true) = true
    simp only [pureR, pureLI, Bool.and_self]
  · show (pureR (D (x / y)) && (pureR (D (x % y)) && true)) = true
    simp only [pureR, pureLI, Bool.and_self]
theorem k55 (x y : Nat) (hxs : x < 10 ^ 500) (hy : 0 < y) (hys : y < 10 ^ 500) : SoundPure Tryz.prog 28 [D x, D y] (.ret (divR x y)) := by
  have hwb : (lm 10 x).length ≤ 500 := (lm_len_le b10 x 500).2 hxs
  refine s55 hT55 600 (by simp) divR_pure ?_
  show F55P 600 _ _
  generalize hw : (lm 10 x).length = w at hwb
  have hlt := lm_lt b10 x
  rw [hw] at hlt
  have a1 := fun k vo s => @l55 600 k vo x y w hw.symm hxs hy hys (by omega) (F55P 600 (divR x y)) w 600 s (by omega) (by omega)
  rw [Nat.div_eq_of_lt hlt, Nat.zero_div, Nat.zero_mul, Nat.zero_mod] at a1
  have hr := @room3 w (by omega)
  have hr0 := @room3 0 (by omega)
  have hm : (((w : Nat) : Int) ≤ 9223372036854775807) = True := eq_true (by omega)
  have hm2 : (((w : Nat) : Int) ≤ ((w : Nat) : Int)) = True := eq_true (by omega)
  have hm3 : ((0 : Int) ≤ ((w : Nat) : Int)) = True := eq_true (by omega)
  have w1 : IntKind.i64.wrap (((w : Nat) : Int) - 1) = ((w : Nat) : Int) - 1 := by rw [wrap_id] <;> omega
  have e47 := F47_D (k := w) (n := x / y) (by omega) (Nat.lt_of_le_of_lt (Nat.div_le_self _ _) hlt)
  simp only [sub, c55, Tryz.f28, gets] at a1 ⊢
  simp only [vmr, vmw, vmp, vza, ↓reduceIte, Nat.reduceBEq, Nat.reduceLT, Nat.reduceAdd, Nat.reduceEqDiff, reduceCtorEq, vmt, vzb, vzc, vlen, vleaf, velems, oks, vst, vmd, ty, Nat.reduceLeDiff, Nat.reduceMul, Nat.reduceSub, m55, hw, hr, hr0, hm, hm2, hm3, fitsI, List.map_nil, w1]
  refine a1 _ 1 _ ⟨?_, ?_, ?_, ?_, ?_⟩ (.inr ⟨trivial, rfl, 3, ?_, ?_⟩) (fun s' ⟨h0, h1, h6, h6', h8⟩ h7 => ?_)
  case refine_8 =>
    have htk : List.take w ((fx 10 w (x / y)).map I) = (fx 10 w (x / y)).map I := take_of _ (fx_len ..)
    unfold divR
    rw [hw]
    rcases h7 with ⟨h7e, h7⟩ | ⟨h7e, h7a, v, h7b, h7c⟩
    · rw [if_neg (fun h => h7e h.symm)]
      unfold F55P
      simp only [vmr, vmw, vmp, vza, ↓reduceIte, Nat.reduceBEq, Nat.reduceLT, Nat.reduceAdd, Nat.reduceEqDiff, reduceCtorEq, vmt, vzb, vzc, vlen, vleaf, velems, oks, vst, vmd, ty, Nat.reduceLeDiff, Nat.reduceMul, Nat.reduceSub, vzr, m55, h6, h6', h7, e47, fx_len, allflatI, pureLI, shI, htk, import_I, refsI]
    · rw [if_pos h7e.symm]
      unfold F55P
      simp only [vmr, vmw, vmp, vza, ↓reduceIte, Nat.reduceBEq, Nat.reduceLT, Nat.reduceAdd, Nat.reduceEqDiff, reduceCtorEq, vmt, vzb, vzc, vlen, vleaf, velems, oks, vst, vmd, ty, Nat.reduceLeDiff, Nat.reduceMul, Nat.reduceSub, vzr, m55, h6, h6', h7b, h7c, e47, fx_len, allflatI, pureLI, shI, htk, import_I, refsI]
  all_goals simp only [vmr, vmw, vmp, vza, ↓reduceIte, Nat.reduceBEq, Nat.reduceLT, Nat.reduceAdd, Nat.reduceEqDiff, reduceCtorEq, vmt, vzb, vzc, vlen, vleaf, velems, oks, vst, vmd, ty, Nat.reduceLeDiff, Nat.reduceMul, Nat.reduceSub, m55, repl_fx10, fx_len]
theorem w55 (x y : Nat) (hxs : x < 10 ^ 500) (hy : 0 < y) (hys : y < 10 ^ 500) : SoundPure Tryz.prog 28 [D x, D y] (.ret (.tup [D (x / y), D (x % y)])) := by
  have := sound_imm (k55 x y hxs hy hys) divR_pure
  have e : can (imm (divR x y)) = .tup [D (x / y), D (x % y)] := by
    unfold divR
    by_cases h : (lm 10 x).length = 0
    · rw [if_pos h]
      have hx0 := (lm_nil b10 x).1 h
      subst hx0
      rw [Nat.zero_mod]
      simp only [imm, immL, can, cans, cans_I]
      rfl
    · rw [if_neg h]
      simp only [imm, immL, can, cans, cans_I]
  rw [e] at this
  exact this
noncomputable def F55 : List V → Option V := hF (α := Nat × Nat) (fun a => [D a.1, D a.2]) (fun a => a.1 < 10 ^ 500 ∧ 0 < a.2 ∧ a.2 < 10 ^ 500) (fun a => .tup [D (a.1 / a.2), D (a.1 % a.2)])
theorem F55_eq {x y : Nat} (h : x < 10 ^ 500) (hy : 0 < y) (hb : y < 10 ^ 500) : F55 [D x, D y] = some (.tup [D (x / y), D (x % y)]) := hF_eq (a := (x, y)) two_D (by simp only [cans, canD]) ⟨h, hy, hb⟩
end Go.Vi
set_option maxRecDepth 100000
set_option maxHeartbeats 1000000
namespace Go.Vi
open Go Go.Proofs

set_option exponentiation.threshold 2000000 in
theorem small_k {n : Nat} (h : n < 10 ^ 500) : n < 10 ^ 1000 := Nat.lt_of_lt_of_le h (Nat.pow_le_pow_right (by omega) (by omega))
end Go.Vi
set_option maxRecDepth 100000
set_option maxHeartbeats 1000000
namespace Go.Vi
open Go Go.Proofs

end Go.Vi
set_option maxRecDepth 100000
set_option maxHeartbeats 1000000
namespace Go.Vi
open Go Go.Proofs

end Go.Vi
