/-
  Walk of arith.power with any bound on limbs.
-/
import Derived.Test.YtpdeblfnbcponaaDoorZA
set_option linter.unusedSimpArgs false
set_option linter.unusedVariables false
set_option maxRecDepth 100000
set_option maxHeartbeats 1000000
set_option exponentiation.threshold 256
namespace Go.Vi
open Go Go.Proofs

set_option exponentiation.threshold 500000 in
theorem pow_lt_m {x i m : Nat} (hx : 2 ≤ x) (hm : m ≤ 140) (h : x ^ i < 10000 ^ m) : i < 2000 := by
  rcases Nat.lt_or_ge i 2000 with h1 | h1
  · exact h1
  · exfalso
    have h2 : 2 ^ 2000 ≤ x ^ i := Nat.le_trans (Nat.pow_le_pow_right (by omega) h1) (Nat.pow_le_pow_left hx i)
    have h3 : (10000 : Nat) ^ m ≤ 2 ^ 2000 := by
      rw [show (2000 : Nat) = 14 * 140 + 40 from rfl, Nat.pow_add, Nat.pow_mul]
      have h4 : (10000 : Nat) ^ m ≤ 10000 ^ 140 := Nat.pow_le_pow_right (by omega) hm
      have h5 : (10000 : Nat) ^ 140 ≤ (2 ^ 14) ^ 140 := Nat.pow_le_pow_left (by omega) 140
      have h6 : (2 ^ 14) ^ 140 * 1 ≤ (2 ^ 14) ^ 140 * 2 ^ 40 := Nat.mul_le_mul_left _ (Nat.pow_pos (by omega))
      rw [Nat.mul_one] at h6
      exact Nat.le_trans h4 (Nat.le_trans h5 h6)
    omega
theorem few_m {n m : Nat} (hm : m ≤ 140) (h : n < 10000 ^ m) : few n := by
  have := (lm_len_le b2 n m).2 h
  show (lm 10000 n).length ≤ 100000
  omega
def powM (x n m : Nat) : V := if x ^ n < 10000 ^ m then .tup [N (x ^ n), .bool true] else .tup [Is [], .bool false]
theorem l58m {n k} {x e m : Nat} (hm : m ≤ 140) (hx : 2 ≤ x) (hxs : few x) (he : e < 9223372036854775808) {P : Option (Ex × St) → Prop} : ∀ d i n' s, 2001 ≤ i + d → d < n' → i ≤ e → x ^ i < 10000 ^ m → tget s.τ 0 = N x → tget s.τ 2 = I (m : Nat) → tget s.τ 8 = N (x ^ i) → tget s.τ 18 = I (e : Nat) → tget s.τ 19 = I (i : Nat) →
    (∀ s', x ^ e < 10000 ^ m → tget s'.τ 8 = N (x ^ e) → P (X (M58 (hand T58) n) (.exit 0) k s')) →
    (∀ s', 10000 ^ m ≤ x ^ e → tget s'.τ 6 = .nilS → tget s'.τ 7 = .bool false → P (some (.ret, s'))) →
    P (L (M58 (hand T58) n) (sub [1, 1, 1, 0, 1, 0, 0] c58) n' k s) := by
  intro d
  induction d with
  | zero =>
    intro i n' s hd hn hie hlt h0 h2 h8 h18 h19 hq hr
    have := pow_lt_m hx hm hlt
    omega
  | succ d ih =>
    intro i n' s hd hn hie hlt h0 h2 h8 h18 h19 hq hr
    obtain ⟨n', rfl⟩ : ∃ m, n' = m + 1 := ⟨n' - 1, by omega⟩
    by_cases hi : i = e
    · subst hi
      have hc : ((i : Int) < (i : Int)) = False := eq_false (by omega)
      rw [L_succ]
      simp only [vmr, vmw, vmp, vza, ↓reduceIte, Nat.reduceBEq, Nat.reduceLT, Nat.reduceAdd, Nat.reduceEqDiff, reduceCtorEq, vmt, vzb, vzc, vlen, vleaf, velems, oks, vst, vmd, ty, Nat.reduceLeDiff, Nat.reduceMul, Nat.reduceSub, c58, Tryd.f58, m58, h18, h19, hc]
      refine hq _ hlt ?_
      simp only [vmr, vmw, vmp, vza, ↓reduceIte, Nat.reduceBEq, Nat.reduceLT, Nat.reduceAdd, Nat.reduceEqDiff, reduceCtorEq, vmt, vzb, vzc, vlen, vleaf, velems, oks, vst, vmd, ty, Nat.reduceLeDiff, Nat.reduceMul, Nat.reduceSub, m58, h8]
    · have hc : ((i : Int) < (e : Int)) = True := eq_true (by omega)
      have hi2 := pow_lt_m hx hm hlt
      have w1 := wsucc9' (i := i) (by omega)
      have e79 := F79_eq (x := x ^ i) (y := x) (few_m hm hlt) hxs
      rw [← Nat.pow_succ] at e79
      by_cases hb : x ^ (i + 1) < 10000 ^ m
      · have hc2 : ((((lm 10000 (x ^ (i + 1))).length : Nat) : Int) > ((m : Nat) : Int)) = False := eq_false (by have := (lm_len_le b2 _ m).2 hb; omega)
        have ih := fun s => ih (i + 1) n' s (by omega) (by omega) (by omega) hb
        simp only [sub, c58, Tryd.f58, gets] at ih
        rw [L_succ]
        simp only [vmr, vmw, vmp, vza, ↓reduceIte, Nat.reduceBEq, Nat.reduceLT, Nat.reduceAdd, Nat.reduceEqDiff, reduceCtorEq, vmt, vzb, vzc, vlen, vleaf, velems, oks, vst, vmd, ty, Nat.reduceLeDiff, Nat.reduceMul, Nat.reduceSub, c58, Tryd.f58, m58, h18, h19, hc, h0, h2, h8, e79, hc2, w1, allflatI, pureLI, shI, import_I]
        refine ih _ ?_ ?_ ?_ ?_ ?_ hq hr
        all_goals simp only [vmr, vmw, vmp, vza, ↓reduceIte, Nat.reduceBEq, Nat.reduceLT, Nat.reduceAdd, Nat.reduceEqDiff, reduceCtorEq, vmt, vzb, vzc, vlen, vleaf, velems, oks, vst, vmd, ty, Nat.reduceLeDiff, Nat.reduceMul, Nat.reduceSub, m58, h0, h2, h18]
      · have hc2 : ((((lm 10000 (x ^ (i + 1))).length : Nat) : Int) > ((m : Nat) : Int)) = True := eq_true (by have := mt (lm_len_le b2 (x ^ (i + 1)) m).1 hb; omega)
        have hbig : 10000 ^ m ≤ x ^ e := Nat.le_trans (by omega) (Nat.pow_le_pow_right (by omega) (show i + 1 ≤ e by omega))
        rw [L_succ]
        simp only [vmr, vmw, vmp, vza, ↓reduceIte, Nat.reduceBEq, Nat.reduceLT, Nat.reduceAdd, Nat.reduceEqDiff, reduceCtorEq, vmt, vzb, vzc, vlen, vleaf, velems, oks, vst, vmd, ty, Nat.reduceLeDiff, Nat.reduceMul, Nat.reduceSub, c58, Tryd.f58, m58, h18, h19, hc, h0, h2, h8, e79, hc2, w1, allflatI, pureLI, shI, import_I]
        refine hr _ hbig ?_ ?_
        all_goals simp only [vmr, vmw, vmp, vza, ↓reduceIte, Nat.reduceBEq, Nat.reduceLT, Nat.reduceAdd, Nat.reduceEqDiff, reduceCtorEq, vmt, vzb, vzc, vlen, vleaf, velems, oks, vst, vmd, ty, Nat.reduceLeDiff, Nat.reduceMul, Nat.reduceSub, m58]
/-- The answer as it is handed back. -/
def powRm (x e m : Nat) : V := if e = 0 then .tup [.own 1 [I 1], .bool true] else if x ^ e < 10000 ^ m then .tup [N (x ^ e), .bool true] else .tup [.nilS, .bool false]
theorem powRm_pure {x e m} : pureR (powRm x e m) = true := by
  unfold powRm
  split
  · rfl
  · split
    · show (pureR (N (x ^ e)) && (pureR (.bool true) && true)) = true
      simp only [pureR, pureLI, Bool.and_self]
    · rfl
theorem powRm_imm {x e m} (hm : 0 < m) : can (imm (powRm x e m)) = powM x e m := by
  unfold powRm powM
  by_cases h : e = 0
  · subst h
    rw [if_pos rfl, Nat.pow_zero, if_pos (Nat.one_lt_pow (by omega) (by omega))]
    rfl
  · rw [if_neg h]
    split
    · simp only [imm, immL, can, cans, cans_I]
    · rfl
theorem k58m (x e m : Nat) (hm0 : 0 < m) (hm : m ≤ 140) (hxs : few x) (he : e < 9223372036854775808) : SoundPure Tryd.prog 58 [N x, I (e : Nat), I (m : Nat)] (.ret (powRm x e m)) := by
  refine s58 hT58 2010 (by simp) powRm_pure ?_
  have e61 : F61 [N x, .lst [I 1]] = some (I (cmp3 x 1)) := F61_eq (x := x) (y := 1) hxs (by decide)
  show F58P (hand T58) 2010 (powRm x e m) _
  simp only [c58, Tryd.f58, gets, sub]
  have hr1 := @room3 1 (by omega)
  by_cases h1 : x ≤ 1
  · have c1 : (cmp3 x 1 ≤ 0) = True := eq_true (by unfold cmp3; split <;> (try split) <;> omega)
    by_cases h2 : e = 0
    · have c2 : ((e : Int) > 0) = False := eq_false (by omega)
      have hv : powRm x e m = .tup [.own 1 [I 1], .bool true] := by unfold powRm; rw [if_pos h2]
      rw [hv]
      simp only [vmr, vmw, vmp, vza, ↓reduceIte, Nat.reduceBEq, Nat.reduceLT, Nat.reduceAdd, Nat.reduceEqDiff, reduceCtorEq, vmt, vzb, vzc, vlen, vleaf, velems, oks, vst, vmd, ty, Nat.reduceLeDiff, Nat.reduceMul, Nat.reduceSub, m58, e61, c1, c2, List.map_cons, fitsI, hr1, allflatI, pureLI, shI, import_I]
      unfold F58P
      simp only [vmr, vmw, vmp, vza, ↓reduceIte, Nat.reduceBEq, Nat.reduceLT, Nat.reduceAdd, Nat.reduceEqDiff, reduceCtorEq, vmt, vzb, vzc, vlen, vleaf, velems, oks, vst, vmd, ty, Nat.reduceLeDiff, Nat.reduceMul, Nat.reduceSub, vzr, m58]
    · have c2 : ((e : Int) > 0) = True := eq_true (by omega)
      have hv : powRm x e m = .tup [N x, .bool true] := by
        have : x ^ e = x := by
          rcases Nat.le_one_iff_eq_zero_or_eq_one.1 h1 with rfl | rfl
          · exact Nat.zero_pow (by omega)
          · exact Nat.one_pow _
        unfold powRm
        rw [if_neg h2, this, if_pos (Nat.lt_of_le_of_lt h1 (Nat.one_lt_pow (by omega) (by omega)))]
      rw [hv]
      simp only [vmr, vmw, vmp, vza, ↓reduceIte, Nat.reduceBEq, Nat.reduceLT, Nat.reduceAdd, Nat.reduceEqDiff, reduceCtorEq, vmt, vzb, vzc, vlen, vleaf, velems, oks, vst, vmd, ty, Nat.reduceLeDiff, Nat.reduceMul, Nat.reduceSub, m58, e61, c1, c2, List.map_cons, fitsI, hr1, allflatI, pureLI, shI, import_I]
      unfold F58P
      simp only [vmr, vmw, vmp, vza, ↓reduceIte, Nat.reduceBEq, Nat.reduceLT, Nat.reduceAdd, Nat.reduceEqDiff, reduceCtorEq, vmt, vzb, vzc, vlen, vleaf, velems, oks, vst, vmd, ty, Nat.reduceLeDiff, Nat.reduceMul, Nat.reduceSub, vzr, m58]
  · have c1 : (cmp3 x 1 ≤ 0) = False := eq_false (by unfold cmp3; rw [if_neg (by omega), if_neg (by omega)]; omega)
    simp only [vmr, vmw, vmp, vza, ↓reduceIte, Nat.reduceBEq, Nat.reduceLT, Nat.reduceAdd, Nat.reduceEqDiff, reduceCtorEq, vmt, vzb, vzc, vlen, vleaf, velems, oks, vst, vmd, ty, Nat.reduceLeDiff, Nat.reduceMul, Nat.reduceSub, m58, e61, c1, List.map_cons, fitsI, hr1, allflatI, pureLI, shI, import_I]
    by_cases h2 : e = 0
    · have c2 : ((0 : Int) < (e : Int)) = False := eq_false (by omega)
      have hv : powRm x e m = .tup [.own 1 [I 1], .bool true] := by unfold powRm; rw [if_pos h2]
      rw [hv, show (2010 : Nat) = 2009 + 1 from rfl, L_succ]
      simp only [vmr, vmw, vmp, vza, ↓reduceIte, Nat.reduceBEq, Nat.reduceLT, Nat.reduceAdd, Nat.reduceEqDiff, reduceCtorEq, vmt, vzb, vzc, vlen, vleaf, velems, oks, vst, vmd, ty, Nat.reduceLeDiff, Nat.reduceMul, Nat.reduceSub, m58, c2]
      unfold F58P
      simp only [vmr, vmw, vmp, vza, ↓reduceIte, Nat.reduceBEq, Nat.reduceLT, Nat.reduceAdd, Nat.reduceEqDiff, reduceCtorEq, vmt, vzb, vzc, vlen, vleaf, velems, oks, vst, vmd, ty, Nat.reduceLeDiff, Nat.reduceMul, Nat.reduceSub, vzr, m58]
    · have c2 : ((0 : Int) < (e : Int)) = True := eq_true (by omega)
      have e79 : F79 [.lst [I 1], N x] = some (N (1 * x)) := F79_eq (x := 1) (y := x) (by decide) hxs
      rw [Nat.one_mul] at e79
      rw [show (2010 : Nat) = 2009 + 1 from rfl, L_succ]
      by_cases hxm : x < 10000 ^ m
      · have hc2 : ((((lm 10000 x).length : Nat) : Int) > ((m : Nat) : Int)) = False := eq_false (by have := (lm_len_le b2 x m).2 hxm; omega)
        have a1 := fun k s => @l58m 2010 k x e m hm (by omega) hxs he (F58P (hand T58) 2010 (powRm x e m)) 2005 1 2009 s (by omega) (by omega) (by omega) (by rw [Nat.pow_one]; exact hxm)
        rw [Nat.pow_one] at a1
        simp only [sub, c58, Tryd.f58, gets] at a1
        simp only [vmr, vmw, vmp, vza, ↓reduceIte, Nat.reduceBEq, Nat.reduceLT, Nat.reduceAdd, Nat.reduceEqDiff, reduceCtorEq, vmt, vzb, vzc, vlen, vleaf, velems, oks, vst, vmd, ty, Nat.reduceLeDiff, Nat.reduceMul, Nat.reduceSub, m58, c2, e79, hc2, allflatI, pureLI, shI, import_I]
        refine a1 _ _ ?_ ?_ ?_ ?_ ?_ (fun s' hlt h8 => ?_) (fun s' hge h6 h7 => ?_)
        case refine_6 =>
          unfold powRm
          rw [if_neg h2, if_pos hlt]
          simp only [vmr, vmw, vmp, vza, ↓reduceIte, Nat.reduceBEq, Nat.reduceLT, Nat.reduceAdd, Nat.reduceEqDiff, reduceCtorEq, vmt, vzb, vzc, vlen, vleaf, velems, oks, vst, vmd, ty, Nat.reduceLeDiff, Nat.reduceMul, Nat.reduceSub, m58, h8]
          unfold F58P
          simp only [vmr, vmw, vmp, vza, ↓reduceIte, Nat.reduceBEq, Nat.reduceLT, Nat.reduceAdd, Nat.reduceEqDiff, reduceCtorEq, vmt, vzb, vzc, vlen, vleaf, velems, oks, vst, vmd, ty, Nat.reduceLeDiff, Nat.reduceMul, Nat.reduceSub, vzr, m58]
        case refine_7 =>
          unfold powRm
          rw [if_neg h2, if_neg (by omega)]
          unfold F58P
          simp only [vmr, vmw, vmp, vza, ↓reduceIte, Nat.reduceBEq, Nat.reduceLT, Nat.reduceAdd, Nat.reduceEqDiff, reduceCtorEq, vmt, vzb, vzc, vlen, vleaf, velems, oks, vst, vmd, ty, Nat.reduceLeDiff, Nat.reduceMul, Nat.reduceSub, vzr, m58, h6, h7]
        all_goals simp only [vmr, vmw, vmp, vza, ↓reduceIte, Nat.reduceBEq, Nat.reduceLT, Nat.reduceAdd, Nat.reduceEqDiff, reduceCtorEq, vmt, vzb, vzc, vlen, vleaf, velems, oks, vst, vmd, ty, Nat.reduceLeDiff, Nat.reduceMul, Nat.reduceSub, m58]
        rfl
      · have hc2 : ((((lm 10000 x).length : Nat) : Int) > ((m : Nat) : Int)) = True := eq_true (by have := mt (lm_len_le b2 x m).1 hxm; omega)
        have hv : powRm x e m = .tup [.nilS, .bool false] := by
          have : x ^ 1 ≤ x ^ e := Nat.pow_le_pow_right (by omega) (by omega)
          rw [Nat.pow_one] at this
          unfold powRm
          rw [if_neg h2, if_neg (by omega)]
        rw [hv]
        simp only [vmr, vmw, vmp, vza, ↓reduceIte, Nat.reduceBEq, Nat.reduceLT, Nat.reduceAdd, Nat.reduceEqDiff, reduceCtorEq, vmt, vzb, vzc, vlen, vleaf, velems, oks, vst, vmd, ty, Nat.reduceLeDiff, Nat.reduceMul, Nat.reduceSub, m58, c2, e79, hc2, allflatI, pureLI, shI, import_I]
        unfold F58P
        simp only [vmr, vmw, vmp, vza, ↓reduceIte, Nat.reduceBEq, Nat.reduceLT, Nat.reduceAdd, Nat.reduceEqDiff, reduceCtorEq, vmt, vzb, vzc, vlen, vleaf, velems, oks, vst, vmd, ty, Nat.reduceLeDiff, Nat.reduceMul, Nat.reduceSub, vzr, m58]
theorem w58m (x e m : Nat) (hm0 : 0 < m) (hm : m ≤ 140) (hxs : few x) (he : e < 9223372036854775808) : SoundPure Tryd.prog 58 [N x, I (e : Nat), I (m : Nat)] (.ret (powM x e m)) := by
  have := sound_imm (k58m x e m hm0 hm hxs he) powRm_pure
  rw [powRm_imm hm0] at this
  exact this
noncomputable def F58m : List V → Option V := hF (α := Nat × Nat × Nat) (fun a => [N a.1, I (a.2.1 : Nat), I (a.2.2 : Nat)]) (fun a => few a.1 ∧ a.2.1 < 9223372036854775808 ∧ 0 < a.2.2 ∧ a.2.2 ≤ 140) (fun a => powM a.1 a.2.1 a.2.2)
theorem F58m_eq {x e m : Nat} (h : few x) (he : e < 9223372036854775808) (hm0 : 0 < m) (hm : m ≤ 140) : F58m [N x, I (e : Nat), I (m : Nat)] = some (powM x e m) := hF_eq (a := (x, e, m)) (fun a b h => by
  injection h with h1 h2
  injection h2 with h2 h3
  injection h3 with h3 _
  exact Prod.ext (N_inj h1) (Prod.ext (natI_inj h2) (natI_inj h3))) (by simp only [cans, canN, canI]) ⟨h, he, hm0, hm⟩
end Go.Vi
set_option maxRecDepth 100000
set_option maxHeartbeats 1000000
set_option exponentiation.threshold 256
namespace Go.Vi
open Go Go.Proofs

/-- The greatest number up to k whose power is at most x. -/
def rtK (n x : Nat) : Nat → Nat
  | 0 => 0
  | k + 1 => if (k + 1) ^ n ≤ x then k + 1 else rtK n x k
def rootN (n x : Nat) : Nat := rtK n x x
theorem rtK_le (n x : Nat) : ∀ k, rtK n x k ≤ k
  | 0 => Nat.le_refl _
  | k + 1 => by
    unfold rtK
    split
    · exact Nat.le_refl _
    · have := rtK_le n x k; omega
theorem rtK_iff {n x : Nat} (hn : 1 ≤ n) : ∀ k j, j ≤ k → (j ^ n ≤ x ↔ j ≤ rtK n x k)
  | 0, j, h => by
    obtain rfl : j = 0 := by omega
    rw [Nat.zero_pow (by omega)]
    simp
  | k + 1, j, h => by
    unfold rtK
    split
    · rename_i h1
      exact ⟨fun _ => h, fun _ => Nat.le_trans (Nat.pow_le_pow_left h n) h1⟩
    · rename_i h1
      by_cases hj : j = k + 1
      · subst hj
        have := rtK_le n x k
        exact ⟨fun h => absurd h h1, fun h => by omega⟩
      · exact rtK_iff hn k j (by omega)
theorem root_iff {n x : Nat} (hn : 1 ≤ n) (j : Nat) : j ^ n ≤ x ↔ j ≤ rootN n x := by
  unfold rootN
  by_cases hj : j ≤ x
  · exact rtK_iff hn x j hj
  · have h1 : j ≤ j ^ n := by
      have := Nat.pow_le_pow_right (n := j) (by omega) hn
      rwa [Nat.pow_one] at this
    have h2 := rtK_le n x x
    exact ⟨fun h => by omega, fun h => by omega⟩
theorem root_le {n x : Nat} : rootN n x ≤ x := rtK_le n x x
theorem root_one (x : Nat) : rootN 1 x = x := by
  have h1 := (root_iff (x := x) (Nat.le_refl 1) x).1 (by rw [Nat.pow_one]; exact Nat.le_refl x)
  have h2 := @root_le 1 x
  omega
/-- A root has not many more digits than the number's by the exponent. -/
theorem root_lt {B n x len la : Nat} (hB : 2 ≤ B) (hn : 1 ≤ n) (hx : x < B ^ len) (hl : len ≤ la * n) : rootN n x < B ^ la := by
  rcases Nat.lt_or_ge (rootN n x) (B ^ la) with h | h
  · exact h
  · exfalso
    have h1 := (root_iff (x := x) hn (B ^ la)).2 h
    rw [← Nat.pow_mul] at h1
    have h2 : B ^ len ≤ B ^ (la * n) := Nat.pow_le_pow_right (by omega) hl
    omega
/-- A digit of the root, by trial. -/
theorem root_digit {B R i c : Nat} (hB : 2 ≤ B) (hc : c < B) : R / B ^ (i + 1) * B ^ (i + 1) + c * B ^ i ≤ R ↔ c ≤ R / B ^ i % B := by
  have hP := pow_pos' hB i
  rw [div_succ]
  have e1 : R / B ^ i / B * B ^ (i + 1) + c * B ^ i = (R / B ^ i / B * B + c) * B ^ i := by rw [Nat.pow_succ, Nat.add_mul, Nat.mul_assoc, Nat.mul_comm B]
  rw [e1]
  have hd := Nat.div_add_mod R (B ^ i)
  have hm := Nat.mod_lt R hP
  have hd2 := Nat.div_add_mod (R / B ^ i) B
  have key : (R / B ^ i / B * B + c) * B ^ i ≤ R ↔ R / B ^ i / B * B + c ≤ R / B ^ i := (Nat.le_div_iff_mul_le hP).symm
  rw [key, Nat.mul_comm (R / B ^ i / B)]
  omega
/-- The row in which the digits behind the i-th are laid, and a digit at the i-th. -/
theorem trial_get {B Q i c : Nat} (hB : 2 ≤ B) (hc : c < B) : (Q * B ^ (i + 1) + c * B ^ i) / B ^ i % B = c := by
  have hP := pow_pos' hB i
  have e1 : Q * B ^ (i + 1) + c * B ^ i = (Q * B + c) * B ^ i := by rw [Nat.pow_succ, Nat.add_mul, Nat.mul_assoc, Nat.mul_comm B]
  rw [e1, Nat.mul_div_cancel _ hP, Nat.mul_add_mod_self_right, Nat.mod_eq_of_lt hc]
theorem trial_set {B Q i c d la : Nat} (hB : 2 ≤ B) (hi : i < la) (hc : c < B) (hd : d < B) : (fx B la (Q * B ^ (i + 1) + c * B ^ i)).set i (d : Int) = fx B la (Q * B ^ (i + 1) + d * B ^ i) :=
  fx_set hB la _ i d _ hi hd (by rw [trial_get hB hc]; omega)
theorem trial_next {B R i : Nat} : R / B ^ (i + 1) * B ^ (i + 1) + R / B ^ i % B * B ^ i = R / B ^ i * B ^ i := by
  rw [div_succ, Nat.pow_succ, ← Nat.mul_assoc, Nat.mul_right_comm, ← Nat.add_mul, Nat.mul_comm _ B, Nat.div_add_mod]
theorem trial_lt {B R i c la : Nat} (hB : 2 ≤ B) (hR : R < B ^ la) (hi : i < la) (hc : c < B) : R / B ^ (i + 1) * B ^ (i + 1) + c * B ^ i < B ^ la := by
  have e : la = (la - (i + 1)) + (i + 1) := by omega
  have hP := pow_pos' hB i
  have h1 : R / B ^ (i + 1) < B ^ (la - (i + 1)) := by
    rw [Nat.div_lt_iff_lt_mul (pow_pos' hB _), ← Nat.pow_add, ← e]
    exact hR
  have h2 : (R / B ^ (i + 1) + 1) * B ^ (i + 1) ≤ B ^ (la - (i + 1)) * B ^ (i + 1) := Nat.mul_le_mul_right _ h1
  rw [← Nat.pow_add, ← e, Nat.add_mul, Nat.one_mul] at h2
  have h3 : c * B ^ i < B ^ (i + 1) := by
    rw [Nat.pow_succ, Nat.mul_comm (B ^ i)]
    exact Nat.mul_lt_mul_of_pos_right hc hP
  omega
/-! ### Root's closure -/
noncomputable abbrev T60 : List (FuncId × (List V → Option V)) := (58, F58m) :: (61, F61) :: []
theorem hT60 : SoundHand Tryd.prog (hand T60) := sound_cons (hF_sound fun a h => w58m a.1 a.2.1 a.2.2 h.2.2.1 h.2.2.2 h.1 h.2.1) <| sound_cons (hF_sound fun a h => w61N a.1 a.2 h.1 h.2) sound_nil
theorem w60 (r e x : Nat) (hr : few r) (he : e < 9223372036854775808) (hx : (lm 10000 x).length ≤ 130) : SoundPure Tryd.prog 60 [N r, .iptr [I (e : Nat)], .iptr [.bool false, N x]] (.ret (.bool (decide (r ^ e ≤ x)))) := by
  refine s60 hT60 6 (by simp) rfl ?_
  have e58 := F58m_eq (m := (lm 10000 x).length + 1) hr he (by omega) (by omega)
  have w1 : IntKind.i64.wrap (((lm 10000 x).length : Int) + 1) = (((lm 10000 x).length + 1 : Nat) : Int) := wsucc9' (by omega)
  have hlt := lm_lt b2 x
  have hlt2 : (10000 : Nat) ^ (lm 10000 x).length ≤ 10000 ^ ((lm 10000 x).length + 1) := Nat.pow_le_pow_right (by omega) (by omega)
  simp only [c60, Tryd.f60, gets]
  unfold powM at e58
  by_cases h1 : r ^ e < 10000 ^ ((lm 10000 x).length + 1)
  · rw [if_pos h1] at e58
    have e61 := F61_eq (x := r ^ e) (y := x) (few_m (m := (lm 10000 x).length + 1) (by omega) h1) (show (lm 10000 x).length ≤ 100000 by omega)
    by_cases h2 : r ^ e ≤ x
    · have hc : (cmp3 (r ^ e) x ≤ 0) = True := eq_true (by unfold cmp3; repeat' split
                                                           all_goals omega)
      rw [decide_eq_true h2]
      simp only [vmr, vmw, vmp, vza, ↓reduceIte, Nat.reduceBEq, Nat.reduceLT, Nat.reduceAdd, Nat.reduceEqDiff, reduceCtorEq, vmt, vzb, vzc, vlen, vleaf, velems, oks, vst, vmd, ty, Nat.reduceLeDiff, Nat.reduceMul, Nat.reduceSub, vzr, m60, w1, e58, e61, hc, allflatI, pureLI, shI, import_I]
    · have hc : (cmp3 (r ^ e) x ≤ 0) = False := eq_false (by unfold cmp3; rw [if_neg (by omega), if_neg (by omega)]; omega)
      rw [decide_eq_false h2]
      simp only [vmr, vmw, vmp, vza, ↓reduceIte, Nat.reduceBEq, Nat.reduceLT, Nat.reduceAdd, Nat.reduceEqDiff, reduceCtorEq, vmt, vzb, vzc, vlen, vleaf, velems, oks, vst, vmd, ty, Nat.reduceLeDiff, Nat.reduceMul, Nat.reduceSub, vzr, m60, w1, e58, e61, hc, allflatI, pureLI, shI, import_I]
  · rw [if_neg h1] at e58
    rw [decide_eq_false (by omega)]
    simp only [vmr, vmw, vmp, vza, ↓reduceIte, Nat.reduceBEq, Nat.reduceLT, Nat.reduceAdd, Nat.reduceEqDiff, reduceCtorEq, vmt, vzb, vzc, vlen, vleaf, velems, oks, vst, vmd, ty, Nat.reduceLeDiff, Nat.reduceMul, Nat.reduceSub, vzr, m60, w1, e58, allflatI, pureLI, shI, import_I]
noncomputable def F60 : List V → Option V := hF (α := Nat × Nat × Nat) (fun a => [N a.1, .iptr [I (a.2.1 : Nat)], .iptr [.bool false, N a.2.2]]) (fun a => few a.1 ∧ a.2.1 < 9223372036854775808 ∧ (lm 10000 a.2.2).length ≤ 130) (fun a => .bool (decide (a.1 ^ a.2.1 ≤ a.2.2)))
theorem F60_eq {r e x : Nat} (hr : few r) (he : e < 9223372036854775808) (hx : (lm 10000 x).length ≤ 130) : F60 [N r, .iptr [I (e : Nat)], .iptr [.bool false, N x]] = some (.bool (decide (r ^ e ≤ x))) := hF_eq (a := (r, e, x)) (fun a b h => by
  injection h with h1 h2
  injection h2 with h2 h3
  injection h3 with h3 _
  injection h2 with h2
  injection h2 with h2 _
  injection h3 with h3
  injection h3 with _ h3
  injection h3 with h3 _
  exact Prod.ext (N_inj h1) (Prod.ext (natI_inj h2) (N_inj h3))) (by simp only [cans, can, canN, cans_I]) ⟨hr, he, hx⟩
end Go.Vi
