/-
  Walks of package arith: divide.
-/
import Derived.Test.YtpdeblfnbcponaaGreatDoorXB
set_option linter.unusedSimpArgs false
set_option linter.unusedVariables false
set_option maxRecDepth 100000
set_option maxHeartbeats 1000000
namespace Go.Vi
open Go Go.Proofs

theorem guess {y r l : Nat} (hl : 0 < l) (hy1 : 10000 ^ (l - 1) ≤ y) (hy2 : y < 10000 ^ l) (hr : r < y * 10000) :
    0 < y / 10000 ^ (l - 1) ∧ y / 10000 ^ (l - 1) < 10000 ∧ r / 10000 ^ l % 10000 * 10000 + r / 10000 ^ (l - 1) % 10000 ≤ 99999999 ∧
    r / y ≤ (r / 10000 ^ l % 10000 * 10000 + r / 10000 ^ (l - 1) % 10000) / (y / 10000 ^ (l - 1)) ∧ r / y ≤ 9999 := by
  obtain ⟨j, rfl⟩ : ∃ j, l = j + 1 := ⟨l - 1, by omega⟩
  simp only [Nat.add_sub_cancel] at *
  have hP : 0 < 10000 ^ j := pow_pos' b2 j
  have hy0 : 0 < y := by omega
  have ht : 0 < y / 10000 ^ j := Nat.div_pos hy1 hP
  have ht2 : y / 10000 ^ j < 10000 := by rw [Nat.div_lt_iff_lt_mul hP, Nat.mul_comm, ← Nat.pow_succ]; exact hy2
  have hq : r / y ≤ 9999 := by
    have : r / y < 10000 := by rw [Nat.div_lt_iff_lt_mul hy0, Nat.mul_comm]; exact hr
    omega
  have hd := div_succ 10000 r j
  have hr2 : r / 10000 ^ (j + 1) < 10000 := by
    rw [Nat.div_lt_iff_lt_mul (pow_pos' b2 _)]
    calc r < y * 10000 := hr
      _ ≤ 10000 ^ (j + 1) * 10000 := Nat.mul_le_mul_right _ (by omega)
      _ = 10000 * 10000 ^ (j + 1) := Nat.mul_comm ..
  have e : r / 10000 ^ (j + 1) % 10000 * 10000 + r / 10000 ^ j % 10000 = r / 10000 ^ j := by
    rw [Nat.mod_eq_of_lt hr2, hd]
    omega
  refine ⟨ht, ht2, by omega, ?_, hq⟩
  rw [e, Nat.le_div_iff_mul_le ht, Nat.le_div_iff_mul_le hP, Nat.mul_assoc]
  calc r / y * (y / 10000 ^ j * 10000 ^ j) ≤ r / y * y := Nat.mul_le_mul_left _ (Nat.div_mul_le_self y _)
    _ ≤ r := Nat.div_mul_le_self r y
/-- Numbers that have room to grow. -/
abbrev fewer (n : Nat) : Prop := (lm 10000 n).length ≤ 50000
set_option exponentiation.threshold 500000 in
theorem fewer_mul {n z : Nat} (h : fewer n) (hz : z ≤ 10000 ^ 2) : few (n * z) := by
  have h1 : n < 10000 ^ 50000 := (lm_len_le b2 n 50000).1 h
  refine Nat.le_trans ((lm_len_le b2 (n * z) 50002).2 ?_) (by omega)
  have : n * z ≤ n * 10000 ^ 2 := Nat.mul_le_mul_left _ hz
  rw [show (50002 : Nat) = 50000 + 2 by omega, Nat.pow_add]
  have h2 : n * 10000 ^ 2 < 10000 ^ 50000 * 10000 ^ 2 := Nat.mul_lt_mul_of_pos_right h1 (by omega)
  generalize 10000 ^ 50000 = P at *
  omega
theorem fewer_few {n : Nat} (h : fewer n) : few n := Nat.le_trans h (by omega)
theorem l52a {n k out} (x y : Nat) (v8 : V) (vo : Nat) (hx0 : few x) (hy : fewer y) (hy0 : 0 < y) (hnn : 10000 < n) : ∀ i n' s, i ≤ (lm 10000 x).length → i < n' →
    tget s.τ 0 = N x → tget s.τ 1 = N y → tget s.τ 8 = v8 → tget s.τ 9 = I (y / 10000 ^ ((lm 10000 y).length - 1) : Nat) → tget s.τ 10 = .ref ⟨0, 10, 0⟩ vo 0 (lm 10000 x).length →
    lget s.L (10, 0) = some (vo, .arr 1 ((fx 10000 (lm 10000 x).length (x / 10000 ^ i / y * 10000 ^ i)).map I)) → (tget s.τ 11 = N (x / 10000 ^ i % y) ∨ tget s.τ 11 = .nilS ∧ x / 10000 ^ i % y = 0) → tget s.τ 12 = I ((i : Int) - 1) →
    (∀ s', tget s'.τ 8 = v8 → tget s'.τ 10 = .ref ⟨0, 10, 0⟩ vo 0 (lm 10000 x).length → lget s'.L (10, 0) = some (vo, .arr 1 ((fx 10000 (lm 10000 x).length (x / y)).map I)) → (tget s'.τ 11 = N (x % y) ∨ tget s'.τ 11 = .nilS ∧ x % y = 0) →
      Fin (M52 (hand T52) n) [.tmp 4, .tmp 5] (X (M52 (hand T52) n) (.exit 0) k s') = out) →
    Fin (M52 (hand T52) n) [.tmp 4, .tmp 5] (L (M52 (hand T52) n) (sub [1, 1, 1, 1, 1, 1, 1, 1, 0, 1, 0, 0] c52) n' k s) = out := by
  have hxb : (lm 10000 x).length ≤ 100000 := hx0
  have hyb : (lm 10000 y).length ≤ 50000 := hy
  intro i
  induction i with
  | zero =>
    intro n' s hi hn h0 h1 h8 h9 h10 h10' h11 h12 hx
    obtain ⟨n', rfl⟩ : ∃ m, n' = m + 1 := ⟨n' - 1, by omega⟩
    have e5 : (((0 : Nat) : Int) - 1) = -1 := rfl
    rw [e5] at h12
    simp only [Nat.pow_zero, Nat.div_one, Nat.mul_one] at h10' h11
    have hc : ((-1 : Int) ≥ 0) = False := by decide
    rw [L_succ]
    simp only [vmr, vmw, vmp, vza, ↓reduceIte, Nat.reduceBEq, Nat.reduceLT, Nat.reduceAdd, Nat.reduceEqDiff, reduceCtorEq, vmt, vzb, vzc, vlen, vleaf, velems, oks, vst, vmd, ty, Nat.reduceLeDiff, Nat.reduceMul, Nat.reduceSub, c52, Tryz.f44, m52, h12, hc]
    refine hx _ ?_ ?_ ?_ ?_
    case refine_4 => rcases h11 with h11 | ⟨h11, h11'⟩
                     · left; simp only [vmr, vmw, vmp, vza, ↓reduceIte, Nat.reduceBEq, Nat.reduceLT, Nat.reduceAdd, Nat.reduceEqDiff, reduceCtorEq, vmt, vzb, vzc, vlen, vleaf, velems, oks, vst, vmd, ty, Nat.reduceLeDiff, Nat.reduceMul, Nat.reduceSub, m52, h11]
                     · right; refine ⟨?_, h11'⟩; simp only [vmr, vmw, vmp, vza, ↓reduceIte, Nat.reduceBEq, Nat.reduceLT, Nat.reduceAdd, Nat.reduceEqDiff, reduceCtorEq, vmt, vzb, vzc, vlen, vleaf, velems, oks, vst, vmd, ty, Nat.reduceLeDiff, Nat.reduceMul, Nat.reduceSub, m52, h11]
    all_goals simp only [vmr, vmw, vmp, vza, ↓reduceIte, Nat.reduceBEq, Nat.reduceLT, Nat.reduceAdd, Nat.reduceEqDiff, reduceCtorEq, vmt, vzb, vzc, vlen, vleaf, velems, oks, vst, vmd, ty, Nat.reduceLeDiff, Nat.reduceMul, Nat.reduceSub, m52, h8, h10, h10']
  | succ i ih =>
    intro n' s hi hn h0 h1 h8 h9 h10 h10' h11 h12 hx
    obtain ⟨n', rfl⟩ : ∃ m, n' = m + 1 := ⟨n' - 1, by omega⟩
    have e5 : (((i + 1 : Nat) : Int) - 1) = (i : Int) := by omega
    rw [e5] at h12
    have hlt : i < (lm 10000 x).length := by omega
    have hc := ilt hlt
    have hg := lm_get b2 x i hlt
    have d1 := Nat.mod_lt (x / 10000 ^ i) (show 0 < 10000 by omega)
    obtain ⟨g1, g2, g3⟩ := quo_digit b2 hy0 x i
    have rlt := Nat.mod_lt (x / 10000 ^ (i + 1)) hy0
    have hst := congrArg (List.map I) (fx_top (x / 10000 ^ (i + 1) / y) _ i hlt g1)
    rw [← setI, ← g3] at hst
    have ih := fun s => ih n' s (by omega) (by omega)
    rw [← g2] at ih
    have hfl : ∃ z, (fx 10000 (lm 10000 x).length (x / 10000 ^ (i + 1) / y * 10000 ^ (i + 1)))[i]? = some z := ⟨_, fx_get _ _ _ _ hlt⟩
    obtain ⟨z, hfl⟩ := hfl
    have hwi : IntKind.i64.wrap ((i : Int) - 1) = (i : Int) - 1 := by rw [wrap_id] <;> omega
    have hRf : few (x / 10000 ^ (i + 1) % y) := few_le (by omega) (fewer_few hy)
    have eF63 := F63_cons d1 hRf
    have hyl := lm_lt b2 y
    have hly : 0 < (lm 10000 y).length := Nat.pos_of_ne_zero fun h => by have := (lm_nil b2 y).1 h; omega
    have hyg : 10000 ^ ((lm 10000 y).length - 1) ≤ y := by
      rcases Nat.lt_or_ge y (10000 ^ ((lm 10000 y).length - 1)) with h | h
      · have := (lm_len_le b2 y _).2 h; omega
      · exact h
    have hcat : [I ((x / 10000 ^ i % 10000 : Nat) : Int)] ++ (lm 10000 (x / 10000 ^ (i + 1) % y)).map I = I ((x / 10000 ^ i % 10000 : Nat) : Int) :: (lm 10000 (x / 10000 ^ (i + 1) % y)).map I := rfl
    have hrl : ((lm 10000 (x / 10000 ^ (i + 1) % y)).length + 1) ≤ 1000000 := by have : _ ≤ 100000 := hRf; omega
    generalize x / 10000 ^ i % 10000 = A at *
    generalize x / 10000 ^ (i + 1) % y = R at *
    have hr : R * 10000 + A < y * 10000 := by omega
    obtain ⟨t1, t2, t3, t4, t5⟩ := guess hly hyg hyl hr
    have hrf : few (R * 10000 + A) := by
      refine few_le (m := y * 10000) (by omega) (fewer_mul hy (by omega))
    have hmod : R * 10000 + A - y * ((R * 10000 + A) / y) = (R * 10000 + A) % y := by have := Nat.div_add_mod (R * 10000 + A) y; omega
    have hq1 : y * ((R * 10000 + A) / y) ≤ R * 10000 + A := Nat.mul_div_le _ y
    have hq2 : R * 10000 + A < y * ((R * 10000 + A) / y + 1) := by
      have h1 := Nat.div_add_mod (R * 10000 + A) y
      have h2 := Nat.mod_lt (R * 10000 + A) hy0
      rw [Nat.mul_add, Nat.mul_one]; omega
    generalize R * 10000 + A = r at *
    generalize (fx 10000 (lm 10000 x).length (x / 10000 ^ (i + 1) / y * 10000 ^ (i + 1))) = qs at *
    have e84a := F84_N r (lm 10000 y).length
    have e84b := F84_N r ((lm 10000 y).length - 1)
    have wl : IntKind.i64.wrap (((lm 10000 y).length : Int) - 1) = (((lm 10000 y).length - 1 : Nat) : Int) := by rw [wrap_id] <;> omega
    generalize hrh : r / 10000 ^ (lm 10000 y).length % 10000 = rh at *
    generalize hrl2 : r / 10000 ^ ((lm 10000 y).length - 1) % 10000 = rl at *
    generalize y / 10000 ^ ((lm 10000 y).length - 1) = top at *
    have e85 := F85_eq hq1 hrf
    rw [hmod] at e85
    generalize hq : r / y = q at *
    have w1 : IntKind.i64.wrap ((rh : Int) * 10000) = (rh : Int) * 10000 := by rw [wrap_id] <;> omega
    have w2 : IntKind.i64.wrap ((rh : Int) * 10000 + (rl : Int)) = ((rh * 10000 + rl : Nat) : Int) := by rw [wrap_id] <;> omega
    generalize rh * 10000 + rl = G at *
    have hGt : G / top ≤ 99999999 := Nat.le_trans (Nat.div_le_self _ _) t3
    have w3 := wrapN (a := G / top) (by omega)
    have tz : ((top : Int) = 0) = False := eq_false (by omega)
    generalize hG0 : G / top = G0 at *
    have hmin : (if (9999 : Int) < (G0 : Int) then (9999 : Int) else (G0 : Int)) = ((min G0 9999 : Nat) : Int) := by split <;> omega
    obtain ⟨d, hd⟩ : ∃ d, min G0 9999 = q + d := ⟨min G0 9999 - q, by omega⟩
    have hd9 : q + d ≤ 9999 := by omega
    rw [hd] at hmin
    have e63b := F63_one (r := q + d) (by omega)
    have e79 := F79_eq (x := y) (y := q + d) (fewer_few hy) (Nat.le_trans ((lm_len_le b2 (q + d) 1).2 (by omega)) (by omega))
    have a2 := fun k s => @l52b n k out x y top v8 vo (lm 10000 x).length (qs.map I) i r q hq1 hq2 hrf (fewer_mul hy (by omega)) d n s
    simp only [sub, c52, Tryz.f44, gets] at ih a2
    have hroom := @room3 (1 + (lm 10000 R).length) (by omega)
    have hroom1 := @room3 1 (by omega)
    have hcI : ((i : Int) ≥ 0) = True := eq_true (by omega)
    rw [L_succ]
    rcases h11 with h11 | ⟨h11, hR0⟩
    · simp only [vmr, vmw, vmp, vza, ↓reduceIte, Nat.reduceBEq, Nat.reduceLT, Nat.reduceAdd, Nat.reduceEqDiff, reduceCtorEq, vmt, vzb, vzc, vlen, vleaf, velems, oks, vst, vmd, ty, Nat.reduceLeDiff, Nat.reduceMul, Nat.reduceSub, c52, Tryz.f44, m52, h0, h1, h8, h9, h10, h10', h11, h12, hcI, hg, fitsI, allfitsI, List.map_cons, hroom, hroom1, eF63, e84a, e84b, wl, w1, w2, w3, tdivNN, tz, minL, hmin, hG0, e63b, e79, shI, take_len]
      refine a2 _ _ (by omega) hd9 ⟨?_, ?_, ?_, ?_, ?_, ?_, ?_⟩ ?_ ?_ ?_ (fun s' ⟨h0, h1, h8, h9, h10, h10', h12⟩ h11 h13 h14 => ?_)
      case refine_11 =>
        simp only [vmr, vmw, vmp, vza, ↓reduceIte, Nat.reduceBEq, Nat.reduceLT, Nat.reduceAdd, Nat.reduceEqDiff, reduceCtorEq, vmt, vzb, vzc, vlen, vleaf, velems, oks, vst, vmd, ty, Nat.reduceLeDiff, Nat.reduceMul, Nat.reduceSub, m52, h0, h1, h8, h9, h10, h10', h11, h12, h13, h14, e85, hc, hst, hfl, hwi, shI]
        refine ih _ ?_ ?_ ?_ ?_ ?_ ?_ (.inl ?_) ?_ hx
        all_goals simp only [vmr, vmw, vmp, vza, ↓reduceIte, Nat.reduceBEq, Nat.reduceLT, Nat.reduceAdd, Nat.reduceEqDiff, reduceCtorEq, vmt, vzb, vzc, vlen, vleaf, velems, oks, vst, vmd, ty, Nat.reduceLeDiff, Nat.reduceMul, Nat.reduceSub, m52, h0, h1, h8, h9, h10, h10', hst]
      all_goals simp only [vmr, vmw, vmp, vza, ↓reduceIte, Nat.reduceBEq, Nat.reduceLT, Nat.reduceAdd, Nat.reduceEqDiff, reduceCtorEq, vmt, vzb, vzc, vlen, vleaf, velems, oks, vst, vmd, ty, Nat.reduceLeDiff, Nat.reduceMul, Nat.reduceSub, m52, h0, h1, h8, h9, h10, h10', h12]
    · subst hR0
      simp only [lm_zero, List.map_nil, List.length_nil] at eF63 hroom
      simp only [vmr, vmw, vmp, vza, ↓reduceIte, Nat.reduceBEq, Nat.reduceLT, Nat.reduceAdd, Nat.reduceEqDiff, reduceCtorEq, vmt, vzb, vzc, vlen, vleaf, velems, oks, vst, vmd, ty, Nat.reduceLeDiff, Nat.reduceMul, Nat.reduceSub, c52, Tryz.f44, m52, h0, h1, h8, h9, h10, h10', h11, h12, hcI, hg, fitsI, allfitsI, List.map_cons, hroom, hroom1, eF63, e84a, e84b, wl, w1, w2, w3, tdivNN, tz, minL, hmin, hG0, e63b, e79, shI, take_len]
      refine a2 _ _ (by omega) hd9 ⟨?_, ?_, ?_, ?_, ?_, ?_, ?_⟩ ?_ ?_ ?_ (fun s' ⟨h0, h1, h8, h9, h10, h10', h12⟩ h11 h13 h14 => ?_)
      case refine_11 =>
        simp only [vmr, vmw, vmp, vza, ↓reduceIte, Nat.reduceBEq, Nat.reduceLT, Nat.reduceAdd, Nat.reduceEqDiff, reduceCtorEq, vmt, vzb, vzc, vlen, vleaf, velems, oks, vst, vmd, ty, Nat.reduceLeDiff, Nat.reduceMul, Nat.reduceSub, m52, h0, h1, h8, h9, h10, h10', h11, h12, h13, h14, e85, hc, hst, hfl, hwi, shI]
        refine ih _ ?_ ?_ ?_ ?_ ?_ ?_ (.inl ?_) ?_ hx
        all_goals simp only [vmr, vmw, vmp, vza, ↓reduceIte, Nat.reduceBEq, Nat.reduceLT, Nat.reduceAdd, Nat.reduceEqDiff, reduceCtorEq, vmt, vzb, vzc, vlen, vleaf, velems, oks, vst, vmd, ty, Nat.reduceLeDiff, Nat.reduceMul, Nat.reduceSub, m52, h0, h1, h8, h9, h10, h10', hst]
      all_goals simp only [vmr, vmw, vmp, vza, ↓reduceIte, Nat.reduceBEq, Nat.reduceLT, Nat.reduceAdd, Nat.reduceEqDiff, reduceCtorEq, vmt, vzb, vzc, vlen, vleaf, velems, oks, vst, vmd, ty, Nat.reduceLeDiff, Nat.reduceMul, Nat.reduceSub, m52, h0, h1, h8, h9, h10, h10', h12]
end Go.Vi
set_option maxRecDepth 100000
set_option maxHeartbeats 1000000
namespace Go.Vi
open Go Go.Proofs

abbrev tiny (n : Nat) : Prop := (lm 10000 n).length ≤ 40000
theorem tiny_few {n : Nat} (h : tiny n) : few n := Nat.le_trans h (by omega)
set_option exponentiation.threshold 500000 in
theorem tiny_mul {n z : Nat} (h : tiny n) (hz : z ≤ 10000) : fewer (n * z) := by
  have h1 : n < 10000 ^ 40000 := (lm_len_le b2 n 40000).1 h
  refine Nat.le_trans ((lm_len_le b2 (n * z) 40001).2 ?_) (by omega)
  have : n * z ≤ n * 10000 := Nat.mul_le_mul_left _ hz
  rw [show (40001 : Nat) = 40000 + 1 by omega, Nat.pow_succ]
  generalize 10000 ^ 40000 = P at *
  omega
theorem F74_nil {b : Nat} (h0 : 0 < b) (h1 : b ≤ 10000) : F74 [.nilS, I (b : Nat)] = some (.tup [N 0, I ((0 : Nat) : Int)]) := by
  have := hF_eq (enc := fun a : Nat × Nat => [N a.1, I (a.2 : Nat)]) (ok := fun a => few a.1 ∧ 0 < a.2 ∧ a.2 ≤ 10000) (out := fun a => .tup [N (a.1 / a.2), I (a.1 % a.2 : Nat)]) (a := (0, b)) (args := [.nilS, I (b : Nat)]) (two_inj (fun _ _ => N_inj) (fun _ _ => natI_inj)) rfl ⟨Nat.zero_le _, h0, h1⟩
  rw [Nat.zero_div, Nat.zero_mod] at this
  exact this
theorem w52 (x y : Nat) (hx : tiny x) (hy : tiny y) (hy0 : 0 < y) : SoundPure Tryz.prog 44 [N x, N y] (.ret (.tup [N (x / y), N (x % y)])) := by
  have e61 := F61_eq (tiny_few hx) (tiny_few hy)
  by_cases hlt : x < y
  · rw [Nat.div_eq_of_lt hlt, Nat.mod_eq_of_lt hlt]
    have key : SoundPure Tryz.prog 44 [N x, N y] (.ret (.tup [.nilS, N x])) := by
      refine s52 hT52 1 (by simp) (by simp only [pureR, pureRL, pureLI, Bool.and_self]) ?_
      have hc := cmp3_lt hlt
      have e62 := F62_eq (l := lm 10000 x) (by have : _ ≤ 40000 := hx; omega)
      simp only [c52, Tryz.f44, gets]
      simp only [vmr, vmw, vmp, vza, ↓reduceIte, Nat.reduceBEq, Nat.reduceLT, Nat.reduceAdd, Nat.reduceEqDiff, reduceCtorEq, vmt, vzb, vzc, vlen, vleaf, velems, oks, vst, vmd, ty, Nat.reduceLeDiff, Nat.reduceMul, Nat.reduceSub, vzr, m52, e61, hc, e62, shI]
    have := sound_imm key (by simp only [pureR, pureRL, pureLI, Bool.and_self])
    simp only [imm, immL, can, cans, cans_I] at this
    exact this
  have hge : y ≤ x := by omega
  have hc := cmp3_ge hge
  have hyl := lm_lt b2 y
  have hyb : (lm 10000 y).length ≤ 40000 := hy
  have hly : 0 < (lm 10000 y).length := Nat.pos_of_ne_zero fun h => by have := (lm_nil b2 y).1 h; omega
  by_cases hone : (lm 10000 y).length = 1
  · refine s52 hT52 1 (by simp) (by simp only [pureR, pureRL, pureLI, Bool.and_self]) ?_
    have hys : y < 10000 := by rw [hone] at hyl; simpa using hyl
    have e74 := F74_eq (tiny_few hx) hy0 (by omega)
    have hl1 := lm_one hy0 hys
    have e63 := F63_one (r := x % y) (by have := Nat.mod_lt x hy0; omega)
    have z : ((1 : Int) == 1) = true := rfl
    rw [show N y = .lst [I (y : Int)] by simp [N, hl1]] at e61 ⊢
    simp only [c52, Tryz.f44, gets]
    simp only [vmr, vmw, vmp, vza, ↓reduceIte, Nat.reduceBEq, Nat.reduceLT, Nat.reduceAdd, Nat.reduceEqDiff, reduceCtorEq, vmt, vzb, vzc, vlen, vleaf, velems, oks, vst, vmd, ty, Nat.reduceLeDiff, Nat.reduceMul, Nat.reduceSub, vzr, m52, e61, hc, e74, e63, z, shI, fitsI, List.map_cons, room3, allflatI]
  · have htop : 0 < y / 10000 ^ ((lm 10000 y).length - 1) ∧ y / 10000 ^ ((lm 10000 y).length - 1) < 10000 := by
      have hyg : 10000 ^ ((lm 10000 y).length - 1) ≤ y := by
        rcases Nat.lt_or_ge y (10000 ^ ((lm 10000 y).length - 1)) with h | h
        · have := (lm_len_le b2 y _).2 h; omega
        · exact h
      obtain ⟨t1, t2, _⟩ := guess (r := 0) hly hyg hyl (by omega)
      exact ⟨t1, t2⟩
    have hg := lm_get b2 y ((lm 10000 y).length - 1) (by omega)
    rw [Nat.mod_eq_of_lt htop.2] at hg
    generalize htv : y / 10000 ^ ((lm 10000 y).length - 1) = top at *
    -- the scale
    have hs1 : 0 < 10000 / (top + 1) := Nat.div_pos (by omega) (by omega)
    have hs2 : 10000 / (top + 1) ≤ 5000 := by rw [Nat.div_le_iff_le_mul_add_pred (by omega)]; omega
    have w1 : IntKind.i64.wrap ((top : Int) + 1) = ((top + 1 : Nat) : Int) := by rw [wrap_id] <;> omega
    have wz : (((top + 1 : Nat) : Int) = 0) = False := eq_false (by omega)
    have wq : Int.tdiv 10000 ((top + 1 : Nat) : Int) = ((10000 / (top + 1) : Nat) : Int) := rfl
    generalize 10000 / (top + 1) = sc at *
    have w2 := wrapN (a := sc) (by omega)
    have hsc := lm_one hs1 (by omega)
    have hfs : few sc := by unfold few; rw [hsc]; simp
    have e79x := F79_eq (x := x) (y := sc) (tiny_few hx) hfs
    have e79y := F79_eq (x := y) (y := sc) (tiny_few hy) hfs
    rw [show N sc = .lst [I (sc : Int)] by simp [N, hsc]] at e79x e79y
    have wl : IntKind.i64.wrap (((lm 10000 y).length : Int) - 1) = (((lm 10000 y).length - 1 : Nat) : Int) := by rw [wrap_id] <;> omega
    have hX := tiny_mul hx (z := sc) (by omega)
    have hY := tiny_mul hy (z := sc) (by omega)
    have hY0 : 0 < y * sc := Nat.mul_pos hy0 hs1
    have hdiv : x * sc / (y * sc) = x / y := Nat.mul_div_mul_right _ _ hs1
    have hmod : x * sc % (y * sc) = x % y * sc := Nat.mul_mod_mul_right ..
    have hmd : x * sc % (y * sc) / sc = x % y := by rw [hmod, Nat.mul_div_cancel _ hs1]
    have hone' : (((lm 10000 y).length : Int) == 1) = false := by simpa using (show ¬ ((lm 10000 y).length : Int) = 1 by omega)
    have hlm1 : (((lm 10000 y).length - 1 : Nat) : Int) < ((lm 10000 y).length : Int) := by omega
    have hYl := lm_lt b2 (y * sc)
    have hXb : (lm 10000 (x * sc)).length ≤ 50000 := hX
    have hYb : (lm 10000 (y * sc)).length ≤ 50000 := hY
    have hlY : 0 < (lm 10000 (y * sc)).length := Nat.pos_of_ne_zero fun h => by have := (lm_nil b2 (y * sc)).1 h; omega
    have hg2 := lm_get b2 (y * sc) ((lm 10000 (y * sc)).length - 1) (by omega)
    have hYt : y * sc / 10000 ^ ((lm 10000 (y * sc)).length - 1) < 10000 := by
      rw [Nat.div_lt_iff_lt_mul (pow_pos' b2 _), Nat.mul_comm 10000, ← Nat.pow_succ]
      rw [show ((lm 10000 (y * sc)).length - 1).succ = (lm 10000 (y * sc)).length by omega]
      exact hYl
    rw [Nat.mod_eq_of_lt hYt] at hg2
    have wl2 : IntKind.i64.wrap (((lm 10000 (y * sc)).length : Int) - 1) = (((lm 10000 (y * sc)).length - 1 : Nat) : Int) := by rw [wrap_id] <;> omega
    have wl3 : IntKind.i64.wrap (((lm 10000 (x * sc)).length : Int) - 1) = ((lm 10000 (x * sc)).length : Int) - 1 := by rw [wrap_id] <;> omega
    have hr := @room3 (lm 10000 (x * sc)).length (by omega)
    have hm : (((lm 10000 (x * sc)).length : Int) ≤ 9223372036854775807) = True := eq_true (by omega)
    have hm2 : (((lm 10000 (x * sc)).length : Int) ≤ ((lm 10000 (x * sc)).length : Int)) = True := eq_true (by omega)
    have hXl := lm_lt b2 (x * sc)
    have z1 : x * sc / 10000 ^ (lm 10000 (x * sc)).length = 0 := Nat.div_eq_of_lt hXl
    have a1 := fun v8 vo k out => @l52a ((lm 10000 (x * sc)).length + 10001) k out (x * sc) (y * sc) v8 vo (fewer_few hX) hY hY0 (by omega) (lm 10000 (x * sc)).length ((lm 10000 (x * sc)).length + 10001)
    have e74 := F74_eq (x := x * sc % (y * sc)) (b := sc) (few_le (Nat.le_of_lt (Nat.mod_lt _ hY0)) (fewer_few hY)) hs1 (by omega)
    have e74n := F74_nil (b := sc) hs1 (by omega)
    have e63 := F63_fx (k := (lm 10000 (x * sc)).length) (n := x * sc / (y * sc)) (by omega) (Nat.lt_of_le_of_lt (Nat.div_le_self _ _) hXl)
    rw [hmd] at e74
    refine s52 hT52 ((lm 10000 (x * sc)).length + 10001) (by simp) (by simp only [pureR, pureRL, pureLI, Bool.and_self]) ?_
    rw [← hdiv]
    have hr1 := @room3 1 (by omega)
    generalize hXX : x * sc = X at *
    generalize hYY : y * sc = Y at *
    simp only [sub, c52, Tryz.f44, gets] at a1 ⊢
    simp only [vmr, vmw, vmp, vza, ↓reduceIte, Nat.reduceBEq, Nat.reduceLT, Nat.reduceAdd, Nat.reduceEqDiff, reduceCtorEq, vmt, vzb, vzc, vlen, vleaf, velems, oks, vst, vmd, ty, Nat.reduceLeDiff, Nat.reduceMul, Nat.reduceSub, m52, e61, hc, hone', hg, w1, w2, wz, wq, wl, wl2, wl3, hg2, e79x, e79y, hr, hr1, hm, hm2, shI, fitsI, List.map_cons]
    refine a1 (.lst [I (sc : Int)]) 2 _ _ _ (by omega) (by omega) ?_ ?_ ?_ ?_ ?_ ?_ (.inr ⟨?_, ?_⟩) ?_ (fun s' h8 h10 h10' h11 => ?_)
    case refine_10 =>
      have hXr : sc = sc := rfl
      rcases h11 with h11 | ⟨h11, h11'⟩
      · simp only [vmr, vmw, vmp, vza, ↓reduceIte, Nat.reduceBEq, Nat.reduceLT, Nat.reduceAdd, Nat.reduceEqDiff, reduceCtorEq, vmt, vzb, vzc, vlen, vleaf, velems, oks, vst, vmd, ty, Nat.reduceLeDiff, Nat.reduceMul, Nat.reduceSub, vzr, m52, h8, h10, h10', h11, e74, e63, fx_len, allflatI, pureLI, shI, take_of]
      · rw [h11', Nat.zero_div] at hmd
        rw [← hmd]
        simp only [vmr, vmw, vmp, vza, ↓reduceIte, Nat.reduceBEq, Nat.reduceLT, Nat.reduceAdd, Nat.reduceEqDiff, reduceCtorEq, vmt, vzb, vzc, vlen, vleaf, velems, oks, vst, vmd, ty, Nat.reduceLeDiff, Nat.reduceMul, Nat.reduceSub, vzr, m52, h8, h10, h10', h11, e74n, e63, fx_len, allflatI, pureLI, shI, take_of]
    all_goals simp only [vmr, vmw, vmp, vza, ↓reduceIte, Nat.reduceBEq, Nat.reduceLT, Nat.reduceAdd, Nat.reduceEqDiff, reduceCtorEq, vmt, vzb, vzc, vlen, vleaf, velems, oks, vst, vmd, ty, Nat.reduceLeDiff, Nat.reduceMul, Nat.reduceSub, m52, z1, Nat.zero_div, Nat.zero_mod, Nat.zero_mul, repl_fx, fx_len]
noncomputable def F52 : List V → Option V := hF (α := Nat × Nat) (fun a => [N a.1, N a.2]) (fun a => tiny a.1 ∧ tiny a.2 ∧ 0 < a.2) (fun a => .tup [N (a.1 / a.2), N (a.1 % a.2)])
theorem F52_eq {x y : Nat} (h : tiny x) (hb : tiny y) (h0 : 0 < y) : F52 [N x, N y] = some (.tup [N (x / y), N (x % y)]) := hF_eq (a := (x, y)) two_N (by simp only [cans, canN]) ⟨h, hb, h0⟩
end Go.Vi
