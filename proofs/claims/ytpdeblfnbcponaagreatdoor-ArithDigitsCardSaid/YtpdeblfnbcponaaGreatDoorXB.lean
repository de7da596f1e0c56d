/-
  Walks of package arith: minus, plus, small.
-/
import Derived.Test.YtpdeblfnbcponaaGreatDoorXA
set_option linter.unusedSimpArgs false
set_option linter.unusedVariables false
set_option maxRecDepth 100000
set_option maxHeartbeats 1000000
namespace Go.Vi
open Go Go.Proofs

def valB (B : Nat) : List Int → Int
  | [] => 0
  | x :: r => x + B * valB B r
theorem valB_fx (B : Nat) : ∀ k n, valB B (fx B k n) = ((n % B ^ k : Nat) : Int)
  | 0, n => by simp [fx, valB, Nat.mod_one]
  | k + 1, n => by
    rw [fx, valB, valB_fx B k, Nat.pow_succ, Nat.mul_comm, Nat.mod_mul]
    omega
theorem valB_lm {B : Nat} (hB : 2 ≤ B) (n : Nat) : valB B (lm B n) = n := by
  have h := lm_lt hB n
  rw [lm_len] at h
  unfold lm
  rw [valB_fx, Nat.mod_eq_of_lt h]
theorem lm_inj {B : Nat} (hB : 2 ≤ B) {n m : Nat} (h : lm B n = lm B m) : n = m := by
  have h1 := valB_lm hB n
  rw [h, valB_lm hB] at h1
  omega
/-- A natural number: its limbs. -/
abbrev N (n : Nat) : V := Is (lm 10000 n)
theorem N_inj {n m : Nat} (h : N n = N m) : n = m := lm_inj (by omega) (Is_inj h)
theorem canN (n : Nat) : can (N n) = N n := canIs _
theorem b2 : 2 ≤ 10000 := by omega
theorem lm_dig (n : Nat) : ∀ x ∈ lm 10000 n, 0 ≤ x ∧ x ≤ 10000 := by
  intro x hx
  obtain ⟨i, hi⟩ := List.mem_iff_getElem?.1 hx
  have hlt := (List.getElem?_eq_some_iff.1 hi).1
  rw [lm_get b2 n i hlt] at hi
  injection hi with hi
  have := Nat.mod_lt (n / 10000 ^ i) (show 0 < 10000 by omega)
  omega
/-- Numbers that are not too long. -/
abbrev few (n : Nat) : Prop := (lm 10000 n).length ≤ 100000
theorem few_le {n m : Nat} (h : n ≤ m) (hm : few m) : few n := by
  unfold few at *
  rw [lm_len_le b2] at *
  omega
theorem F84_N (n i : Nat) : F84 [N n, I (i : Nat)] = some (I ((n / 10000 ^ i % 10000 : Nat) : Int)) := by rw [F84_eq, lm_getD b2]
theorem repl_fx (k : Nat) : List.replicate k (I 0) = (fx 10000 k 0).map I := by rw [fx_zero, List.map_replicate]
theorem mod_next (n i : Nat) : n % 10000 ^ i / 10000 ^ i % 10000 = 0 := by rw [Nat.div_eq_of_lt (Nat.mod_lt _ (Nat.pow_pos (by omega)))]
theorem fx_next {k : Nat} (w i : Nat) (h : i < k) : (fx 10000 k (w % 10000 ^ i)).set i ((w / 10000 ^ i % 10000 : Nat) : Int) = fx 10000 k (w % 10000 ^ (i + 1)) :=
  fx_set b2 k _ i _ _ h (Nat.mod_lt _ (by omega)) (by rw [mod_next, mod_succ, Nat.zero_mul, Nat.add_zero, Nat.mul_comm (10000 ^ i)])
/-! ### minus -/
noncomputable abbrev T85 : List (FuncId × (List V → Option V)) := (54, F84) :: (35, F63) :: []
theorem hT85 : SoundHand Tryz.prog (hand T85) := sound_cons (hF_sound fun a _ => w84 a.1 a.2) (sound_cons (hF_sound fun a h => w63 a h) sound_nil)
theorem l85 {n k out vo} (x y : Nat) (hxy : y ≤ x) (hb : few x) : ∀ d i n' s, i + d = (lm 10000 x).length → d < n' → tget s.τ 0 = N x → tget s.τ 1 = N y →
    tget s.τ 5 = .ref ⟨0, 5, 0⟩ vo 0 (lm 10000 x).length → lget s.L (5, 0) = some (vo, .arr 1 ((fx 10000 (lm 10000 x).length ((x - y) % 10000 ^ i)).map I)) → tget s.τ 6 = I (bor 10000 x y i : Nat) → tget s.τ 13 = I (lm 10000 x).length → tget s.τ 14 = I (i : Nat) →
    (∀ s', tget s'.τ 5 = .ref ⟨0, 5, 0⟩ vo 0 (lm 10000 x).length → lget s'.L (5, 0) = some (vo, .arr 1 ((fx 10000 (lm 10000 x).length (x - y)).map I)) → Fin (M85 (hand T85) n) [.tmp 4] (X (M85 (hand T85) n) (.exit 0) k s') = out) →
    Fin (M85 (hand T85) n) [.tmp 4] (L (M85 (hand T85) n) (sub [1, 1, 1, 0, 1, 0, 0] c85) n' k s) = out
  | 0, i, n' + 1, s, hi, hn, h0, h1, h5, h5', h6, h13, h14, hx => by
    have hc := inlt (n := (lm 10000 x).length) (i := i) (by omega)
    have hlt := lm_lt b2 x
    rw [Nat.mod_eq_of_lt (by rw [show i = (lm 10000 x).length by omega]; omega)] at h5'
    rw [L_succ]
    simp only [vmr, vmw, vmp, vza, ↓reduceIte, Nat.reduceBEq, Nat.reduceLT, Nat.reduceAdd, Nat.reduceEqDiff, reduceCtorEq, vmt, vzb, vzc, vlen, vleaf, velems, oks, vst, vmd, ty, Nat.reduceLeDiff, Nat.reduceMul, Nat.reduceSub, c85, Tryz.f61, m85, h13, h14, hc]
    refine hx _ ?_ ?_
    all_goals simp only [vmr, vmw, vmp, vza, ↓reduceIte, Nat.reduceBEq, Nat.reduceLT, Nat.reduceAdd, Nat.reduceEqDiff, reduceCtorEq, vmt, vzb, vzc, vlen, vleaf, velems, oks, vst, vmd, ty, Nat.reduceLeDiff, Nat.reduceMul, Nat.reduceSub, m85, h5, h5']
  | d + 1, i, n' + 1, s, hi, hn, h0, h1, h5, h5', h6, h13, h14, hx => by
    have hlt : i < (lm 10000 x).length := by omega
    have hc := ilt hlt
    have hg := lm_get b2 x i hlt
    have e84 := F84_N y i
    have hw := wsucc hlt (show (lm 10000 x).length ≤ 1000000 by unfold few at hb; omega)
    have d1 := Nat.mod_lt (x / 10000 ^ i) (show 0 < 10000 by omega)
    have d2 := Nat.mod_lt (y / 10000 ^ i) (show 0 < 10000 by omega)
    have hbor : bor 10000 x y i ≤ 1 := by unfold bor; split <;> omega
    obtain ⟨sd1, sd2⟩ := sub_digit b2 hxy i
    have hst := congrArg (List.map I) (fx_next (x - y) i hlt)
    rw [← setI] at hst
    have hs : calm (M85 (hand T85) n).E (opsAt (sub [1, 1, 1, 0, 1, 0, 0, 1, 1, 0, 0, 1, 0] c85)) = true := by kernel_rfl
    have ih := fun s => @l85 n k out vo x y hxy hb d (i + 1) n' s (by omega) (by omega)
    simp only [sub, c85, Tryz.f61, gets, opsAt] at hs ih
    have hfl : (fx 10000 (lm 10000 x).length ((x - y) % 10000 ^ i))[i]? = some 0 := by rw [fx_get _ _ _ _ hlt, mod_next]; rfl
    generalize hA : x / 10000 ^ i % 10000 = A at *
    generalize hBB : y / 10000 ^ i % 10000 = B at *
    generalize bor 10000 x y i = c at *
    have w1 : IntKind.i64.wrap ((A : Int) - (B : Int)) = (A : Int) - (B : Int) := by rw [wrap_id] <;> omega
    have w2 : IntKind.i64.wrap ((A : Int) - (B : Int) - (c : Nat)) = (A : Int) - (B : Int) - (c : Nat) := by rw [wrap_id] <;> omega
    have w3 : IntKind.i64.wrap ((A : Int) - (B : Int) - (c : Nat) + 10000) = (A : Int) - (B : Int) - (c : Nat) + 10000 := by rw [wrap_id] <;> omega
    rw [L_succ]
    by_cases q : (A : Int) - (B : Int) - (c : Nat) < 0
    · obtain ⟨g1, g2⟩ := sd1 q
      have q' := eq_true q
      rw [← g1, show ((10000 : Nat) : Int) = 10000 from rfl] at hst
      simp only [vmr, vmw, vmp, vza, ↓reduceIte, Nat.reduceBEq, Nat.reduceLT, Nat.reduceAdd, Nat.reduceEqDiff, reduceCtorEq, vmt, vzb, vzc, vlen, vleaf, velems, oks, vst, vmd, ty, Nat.reduceLeDiff, Nat.reduceMul, Nat.reduceSub, c85, Tryz.f61, m85, h0, h1, h5, h5', h6, h13, h14, hc, hg, hw, e84, hs, w1, w2, w3, q', hfl, shI]
      refine ih _ ?_ ?_ ?_ ?_ ?_ ?_ ?_ hx
      all_goals simp only [vmr, vmw, vmp, vza, ↓reduceIte, Nat.reduceBEq, Nat.reduceLT, Nat.reduceAdd, Nat.reduceEqDiff, reduceCtorEq, vmt, vzb, vzc, vlen, vleaf, velems, oks, vst, vmd, ty, Nat.reduceLeDiff, Nat.reduceMul, Nat.reduceSub, m85, h0, h1, h5, h5', h13, h14, hst, g2]
    · obtain ⟨g1, g2⟩ := sd2 q
      have q' := eq_false q
      rw [← g1] at hst
      simp only [vmr, vmw, vmp, vza, ↓reduceIte, Nat.reduceBEq, Nat.reduceLT, Nat.reduceAdd, Nat.reduceEqDiff, reduceCtorEq, vmt, vzb, vzc, vlen, vleaf, velems, oks, vst, vmd, ty, Nat.reduceLeDiff, Nat.reduceMul, Nat.reduceSub, c85, Tryz.f61, m85, h0, h1, h5, h5', h6, h13, h14, hc, hg, hw, e84, hs, w1, w2, w3, q', hfl, shI]
      refine ih _ ?_ ?_ ?_ ?_ ?_ ?_ ?_ hx
      all_goals simp only [vmr, vmw, vmp, vza, ↓reduceIte, Nat.reduceBEq, Nat.reduceLT, Nat.reduceAdd, Nat.reduceEqDiff, reduceCtorEq, vmt, vzb, vzc, vlen, vleaf, velems, oks, vst, vmd, ty, Nat.reduceLeDiff, Nat.reduceMul, Nat.reduceSub, m85, h0, h1, h5, h5', h13, h14, hst, g2]
theorem F63_fx {k n : Nat} (hb : k ≤ 1000000) (h : n < 10000 ^ k) : F63 [.lst ((fx 10000 k n).map I)] = some (N n) := by
  have := F63_eq (l := fx 10000 k n) (by rw [fx_len]; exact hb)
  rw [trimL_fx b2 n k h] at this
  exact this
theorem w85 (x y : Nat) (hxy : y ≤ x) (hb : few x) : SoundPure Tryz.prog 61 [N x, N y] (.ret (N (x - y))) := by
  refine s85 hT85 ((lm 10000 x).length + 1) (by simp) (by simp only [pureR, pureLI]) ?_
  have hb' : (lm 10000 x).length ≤ 100000 := hb
  have a1 := fun vo k out => @l85 ((lm 10000 x).length + 1) k out vo x y hxy hb (lm 10000 x).length 0 ((lm 10000 x).length + 1)
  have hr := @room3 (lm 10000 x).length (by omega)
  have hm : (((lm 10000 x).length : Int) ≤ 9223372036854775807) = True := eq_true (by omega)
  have hm2 : (((lm 10000 x).length : Int) ≤ ((lm 10000 x).length : Int)) = True := eq_true (by omega)
  have hlt := lm_lt b2 x
  have e63 := F63_fx (k := (lm 10000 x).length) (n := x - y) (by omega) (by omega)
  simp only [sub, c85, Tryz.f61, gets] at a1 ⊢
  simp only [vmr, vmw, vmp, vza, ↓reduceIte, Nat.reduceBEq, Nat.reduceLT, Nat.reduceAdd, Nat.reduceEqDiff, reduceCtorEq, vmt, vzb, vzc, vlen, vleaf, velems, oks, vst, vmd, ty, Nat.reduceLeDiff, Nat.reduceMul, Nat.reduceSub, m85, hr, hm, hm2, fitsI]
  refine a1 1 _ _ _ (by omega) (by omega) ?_ ?_ ?_ ?_ ?_ ?_ ?_ (fun s' h5 h5' => ?_)
  case refine_8 =>
    simp only [vmr, vmw, vmp, vza, ↓reduceIte, Nat.reduceBEq, Nat.reduceLT, Nat.reduceAdd, Nat.reduceEqDiff, reduceCtorEq, vmt, vzb, vzc, vlen, vleaf, velems, oks, vst, vmd, ty, Nat.reduceLeDiff, Nat.reduceMul, Nat.reduceSub, vzr, m85, h5, h5', e63, fx_len, allflatI, pureLI, shI, take_of]
  all_goals simp only [vmr, vmw, vmp, vza, ↓reduceIte, Nat.reduceBEq, Nat.reduceLT, Nat.reduceAdd, Nat.reduceEqDiff, reduceCtorEq, vmt, vzb, vzc, vlen, vleaf, velems, oks, vst, vmd, ty, Nat.reduceLeDiff, Nat.reduceMul, Nat.reduceSub, m85, bor_zero, Nat.pow_zero, Nat.mod_one, repl_fx, fx_len]
theorem two_N : ∀ a b : Nat × Nat, ([N a.1, N a.2] : List V) = [N b.1, N b.2] → a = b := two_inj (fun _ _ => N_inj) (fun _ _ => N_inj)
noncomputable def F85 : List V → Option V := hF (α := Nat × Nat) (fun a => [N a.1, N a.2]) (fun a => a.2 ≤ a.1 ∧ few a.1) (fun a => N (a.1 - a.2))
theorem F85_eq {x y : Nat} (h : y ≤ x) (hb : few x) : F85 [N x, N y] = some (N (x - y)) := hF_eq (a := (x, y)) two_N (by simp only [cans, canN]) ⟨h, hb⟩

/-! ### plus -/
/-- The size of a row's elements, as long as it is nil. -/
def szi (i : Nat) : Nat := if i = 0 then 0 else 1
theorem szi0 : szi 0 = 0 := rfl
theorem szis {i} : szi (i + 1) = 1 := by unfold szi; rw [if_neg (by omega)]
theorem wsucc9' {i : Nat} (h : i ≤ 1000000) : IntKind.i64.wrap ((i:Int) + 1) = ((i + 1 : Nat) : Int) := by rw [wrap_id] <;> omega
theorem fx0 (B n : Nat) : fx B 0 n = [] := rfl
theorem tmodN (a : Nat) : Int.tmod (a : Int) 10000 = ((a % 10000 : Nat) : Int) := rfl
theorem tdivN (a : Nat) : Int.tdiv (a : Int) 10000 = ((a / 10000 : Nat) : Int) := rfl
theorem n10000 : ((10000 : Int) = 0) = False := by decide
theorem l78 {n k out} (x y : Nat) (hbx : few x) (hby : few y) : ∀ d i vr n' s, i + d = max (lm 10000 x).length (lm 10000 y).length + 1 → d < n' → tget s.τ 0 = N x → tget s.τ 1 = N y →
    tget s.τ 5 = .ref ⟨0, 5, 0⟩ vr 0 i → lget s.L (5, 0) = some (vr, .arr (szi i) ((fx 10000 i (x + y)).map I)) → tget s.τ 6 = I ((x % 10000 ^ i + y % 10000 ^ i) / 10000 ^ i : Nat) → tget s.τ 7 = I (i : Nat) →
    (∀ s' vr i, x + y < 10000 ^ i → i ≤ 200000 → tget s'.τ 5 = .ref ⟨0, 5, 0⟩ vr 0 i → lget s'.L (5, 0) = some (vr, .arr (szi i) ((fx 10000 i (x + y)).map I)) → Fin (M78 (hand T85) n) [.tmp 4] (X (M78 (hand T85) n) (.exit 0) k s') = out) →
    Fin (M78 (hand T85) n) [.tmp 4] (L (M78 (hand T85) n) (sub [1, 1, 1, 0, 1, 0, 0] c78) n' k s) = out := by
  have hmx : (if ((lm 10000 y).length : Int) > ((lm 10000 x).length : Int) then ((lm 10000 y).length : Int) else ((lm 10000 x).length : Int)) = ((max (lm 10000 x).length (lm 10000 y).length : Nat) : Int) := by split <;> omega
  have hmb : max (lm 10000 x).length (lm 10000 y).length ≤ 100000 := by unfold few at hbx hby; omega
  have hlx : ∀ i, max (lm 10000 x).length (lm 10000 y).length ≤ i → x < 10000 ^ i ∧ y < 10000 ^ i := fun i h => ⟨(lm_len_le b2 x i).1 (by omega), (lm_len_le b2 y i).1 (by omega)⟩
  intro d
  induction d with
  | zero =>
    intro i vr n' s hi hn h0 h1 h5 h5' h6 h7 hx
    obtain ⟨n', rfl⟩ : ∃ m, n' = m + 1 := ⟨n' - 1, by omega⟩
    obtain ⟨a1, a2⟩ := hlx i (by omega)
    obtain ⟨b1, b2'⟩ := hlx (i - 1) (by omega)
    have hz : (x % 10000 ^ i + y % 10000 ^ i) / 10000 ^ i = 0 := by
      rw [Nat.mod_eq_of_lt a1, Nat.mod_eq_of_lt a2]
      refine Nat.div_eq_of_lt ?_
      obtain ⟨j, rfl⟩ : ∃ j, i = j + 1 := ⟨i - 1, by omega⟩
      rw [Nat.pow_succ]
      simp only [Nat.add_sub_cancel] at b1 b2'
      omega
    have q1 : ((i : Int) < ((max (lm 10000 x).length (lm 10000 y).length : Nat) : Int)) = False := eq_false (by omega)
    have hend := add_end b2 a1 a2 hz
    rw [hz] at h6
    generalize max (lm 10000 x).length (lm 10000 y).length = mx at *
    have q2 : ((0 : Int) > 0) = False := by decide
    rw [L_succ]
    simp only [vmr, vmw, vmp, vza, ↓reduceIte, Nat.reduceBEq, Nat.reduceLT, Nat.reduceAdd, Nat.reduceEqDiff, reduceCtorEq, vmt, vzb, vzc, vlen, vleaf, velems, oks, vst, vmd, ty, Nat.reduceLeDiff, Nat.reduceMul, Nat.reduceSub, c78, Tryz.f33, m78, h0, h1, h6, h7, maxL, hmx, q1, q2]
    refine hx _ vr i hend (by omega) ?_ ?_
    all_goals simp only [vmr, vmw, vmp, vza, ↓reduceIte, Nat.reduceBEq, Nat.reduceLT, Nat.reduceAdd, Nat.reduceEqDiff, reduceCtorEq, vmt, vzb, vzc, vlen, vleaf, velems, oks, vst, vmd, ty, Nat.reduceLeDiff, Nat.reduceMul, Nat.reduceSub, m78, h5, h5']
  | succ d ih =>
    intro i vr n' s hi hn h0 h1 h5 h5' h6 h7 hx
    obtain ⟨n', rfl⟩ : ∃ m, n' = m + 1 := ⟨n' - 1, by omega⟩
    have hcar := add_carry b2 x y i
    by_cases hex : max (lm 10000 x).length (lm 10000 y).length ≤ i ∧ (x % 10000 ^ i + y % 10000 ^ i) / 10000 ^ i = 0
    · obtain ⟨hle, hz⟩ := hex
      obtain ⟨a1, a2⟩ := hlx i (by omega)
      have q1 : ((i : Int) < ((max (lm 10000 x).length (lm 10000 y).length : Nat) : Int)) = False := eq_false (by omega)
      have hend := add_end b2 a1 a2 hz
      rw [hz] at h6
      generalize max (lm 10000 x).length (lm 10000 y).length = mx at *
      have q2 : ((0 : Int) > 0) = False := by decide
      rw [L_succ]
      simp only [vmr, vmw, vmp, vza, ↓reduceIte, Nat.reduceBEq, Nat.reduceLT, Nat.reduceAdd, Nat.reduceEqDiff, reduceCtorEq, vmt, vzb, vzc, vlen, vleaf, velems, oks, vst, vmd, ty, Nat.reduceLeDiff, Nat.reduceMul, Nat.reduceSub, c78, Tryz.f33, m78, h0, h1, h6, h7, maxL, hmx, q1, q2]
      refine hx _ vr i hend (by omega) ?_ ?_
      all_goals simp only [vmr, vmw, vmp, vza, ↓reduceIte, Nat.reduceBEq, Nat.reduceLT, Nat.reduceAdd, Nat.reduceEqDiff, reduceCtorEq, vmt, vzb, vzc, vlen, vleaf, velems, oks, vst, vmd, ty, Nat.reduceLeDiff, Nat.reduceMul, Nat.reduceSub, m78, h5, h5']
    · have e84x := F84_N x i
      have e84y := F84_N y i
      obtain ⟨g1, g2⟩ := add_digit b2 x y i
      have hsn := fx_snoc 10000 i (x + y)
      rw [← g1] at hsn
      have ih := fun vr n' s (hn : d < n') => ih (i + 1) vr n' s (by omega) hn
      rw [← g2] at ih
      have d1 := Nat.mod_lt (x / 10000 ^ i) (show 0 < 10000 by omega)
      have d2 := Nat.mod_lt (y / 10000 ^ i) (show 0 < 10000 by omega)
      have hw := wsucc9' (i := i) (by omega)
      generalize x / 10000 ^ i % 10000 = A at *
      generalize y / 10000 ^ i % 10000 = B at *
      generalize (x % 10000 ^ i + y % 10000 ^ i) / 10000 ^ i = c at *
      have w1 : IntKind.i64.wrap ((A : Int) + (B : Int)) = (A : Int) + (B : Int) := by rw [wrap_id] <;> omega
      have w2 : IntKind.i64.wrap ((c : Int) + ((A : Int) + (B : Int))) = ((c + A + B : Nat) : Int) := by rw [wrap_id] <;> omega
      have w3 : IntKind.i64.wrap (((c + A + B) / 10000 : Nat) : Int) = (((c + A + B) / 10000 : Nat) : Int) := by rw [wrap_id] <;> omega
      have hr1 := @room3 1 (by omega)
      have hr2 := @room3 (i + 1) (by omega)
      have go : ∀ (q : Prop) (hq : (((i : Int) < ((max (lm 10000 x).length (lm 10000 y).length : Nat) : Int)) = q)) (q2 : ¬ q → ((c : Int) > 0) = True), Fin (M78 (hand T85) n) [.tmp 4] (L (M78 (hand T85) n) (sub [1, 1, 1, 0, 1, 0, 0] c78) (n' + 1) k s) = out := by
        intro q hq q2
        simp only [sub, c78, Tryz.f33, gets] at ih
        generalize max (lm 10000 x).length (lm 10000 y).length = mx at *
        rw [L_succ]
        by_cases hqq : q
        · rw [eq_true hqq] at hq
          cases i with
          | zero =>
            simp only [szi0, fx0, List.map_nil] at h5'
            simp only [z0, Nat.zero_add] at h7 hq hw hr2 e84x e84y hsn
            simp only [vmr, vmw, vmp, vza, ↓reduceIte, Nat.reduceBEq, Nat.reduceLT, Nat.reduceAdd, Nat.reduceEqDiff, reduceCtorEq, vmt, vzb, vzc, vlen, vleaf, velems, oks, vst, vmd, ty, Nat.reduceLeDiff, Nat.reduceMul, Nat.reduceSub, c78, Tryz.f33, m78, h0, h1, h5, h5', h6, h7, maxL, hmx, hq, e84x, e84y, w1, w2, tmodN, tdivN, w3, n10000, hr1, hr2, fitsI, hw, List.map_cons]
            refine ih (s.c + 1 + 1) n' _ (by omega) ?_ ?_ ?_ ?_ ?_ ?_ hx
            all_goals simp only [vmr, vmw, vmp, vza, ↓reduceIte, Nat.reduceBEq, Nat.reduceLT, Nat.reduceAdd, Nat.reduceEqDiff, reduceCtorEq, vmt, vzb, vzc, vlen, vleaf, velems, oks, vst, vmd, ty, Nat.reduceLeDiff, Nat.reduceMul, Nat.reduceSub, m78, h0, h1, szis, tdivN, hsn, w3, fx0, List.map_cons]
          | succ j =>
            rw [szis] at h5'
            simp only [vmr, vmw, vmp, vza, ↓reduceIte, Nat.reduceBEq, Nat.reduceLT, Nat.reduceAdd, Nat.reduceEqDiff, reduceCtorEq, vmt, vzb, vzc, vlen, vleaf, velems, oks, vst, vmd, ty, Nat.reduceLeDiff, Nat.reduceMul, Nat.reduceSub, c78, Tryz.f33, m78, h0, h1, h5, h5', h6, h7, maxL, hmx, hq, e84x, e84y, w1, w2, tmodN, tdivN, w3, n10000, hr1, hr2, fitsI, hw, fx_len, List.map_cons]
            refine ih (s.c + 1 + 1) n' _ (by omega) ?_ ?_ ?_ ?_ ?_ ?_ hx
            all_goals simp only [vmr, vmw, vmp, vza, ↓reduceIte, Nat.reduceBEq, Nat.reduceLT, Nat.reduceAdd, Nat.reduceEqDiff, reduceCtorEq, vmt, vzb, vzc, vlen, vleaf, velems, oks, vst, vmd, ty, Nat.reduceLeDiff, Nat.reduceMul, Nat.reduceSub, m78, h0, h1, szis, tdivN, hsn, w3, List.map_append, List.map_cons, List.length_append, fx_len]
        · rw [eq_false hqq] at hq
          have q2 := q2 hqq
          cases i with
          | zero =>
            simp only [szi0, fx0, List.map_nil] at h5'
            simp only [z0, Nat.zero_add] at h7 hq hw hr2 e84x e84y hsn
            simp only [vmr, vmw, vmp, vza, ↓reduceIte, Nat.reduceBEq, Nat.reduceLT, Nat.reduceAdd, Nat.reduceEqDiff, reduceCtorEq, vmt, vzb, vzc, vlen, vleaf, velems, oks, vst, vmd, ty, Nat.reduceLeDiff, Nat.reduceMul, Nat.reduceSub, c78, Tryz.f33, m78, h0, h1, h5, h5', h6, h7, maxL, hmx, hq, q2, e84x, e84y, w1, w2, tmodN, tdivN, w3, n10000, hr1, hr2, fitsI, hw, List.map_cons]
            refine ih (s.c + 1 + 1) n' _ (by omega) ?_ ?_ ?_ ?_ ?_ ?_ hx
            all_goals simp only [vmr, vmw, vmp, vza, ↓reduceIte, Nat.reduceBEq, Nat.reduceLT, Nat.reduceAdd, Nat.reduceEqDiff, reduceCtorEq, vmt, vzb, vzc, vlen, vleaf, velems, oks, vst, vmd, ty, Nat.reduceLeDiff, Nat.reduceMul, Nat.reduceSub, m78, h0, h1, szis, tdivN, hsn, w3, fx0, List.map_cons]
          | succ j =>
            rw [szis] at h5'
            simp only [vmr, vmw, vmp, vza, ↓reduceIte, Nat.reduceBEq, Nat.reduceLT, Nat.reduceAdd, Nat.reduceEqDiff, reduceCtorEq, vmt, vzb, vzc, vlen, vleaf, velems, oks, vst, vmd, ty, Nat.reduceLeDiff, Nat.reduceMul, Nat.reduceSub, c78, Tryz.f33, m78, h0, h1, h5, h5', h6, h7, maxL, hmx, hq, q2, e84x, e84y, w1, w2, tmodN, tdivN, w3, n10000, hr1, hr2, fitsI, hw, fx_len, List.map_cons]
            refine ih (s.c + 1 + 1) n' _ (by omega) ?_ ?_ ?_ ?_ ?_ ?_ hx
            all_goals simp only [vmr, vmw, vmp, vza, ↓reduceIte, Nat.reduceBEq, Nat.reduceLT, Nat.reduceAdd, Nat.reduceEqDiff, reduceCtorEq, vmt, vzb, vzc, vlen, vleaf, velems, oks, vst, vmd, ty, Nat.reduceLeDiff, Nat.reduceMul, Nat.reduceSub, m78, h0, h1, szis, tdivN, hsn, w3, List.map_append, List.map_cons, List.length_append, fx_len]
      by_cases q : (i : Int) < ((max (lm 10000 x).length (lm 10000 y).length : Nat) : Int)
      · exact go True (eq_true q) (fun h => absurd trivial h)
      · exact go False (eq_false q) (fun _ => eq_true (by omega))
theorem w78 (x y : Nat) (hbx : few x) (hby : few y) : SoundPure Tryz.prog 33 [N x, N y] (.ret (N (x + y))) := by
  refine s78 hT85 (max (lm 10000 x).length (lm 10000 y).length + 2) (by simp) (by simp only [pureR, pureLI]) ?_
  have a1 := fun k out => @l78 (max (lm 10000 x).length (lm 10000 y).length + 2) k out x y hbx hby (max (lm 10000 x).length (lm 10000 y).length + 1) 0 0 (max (lm 10000 x).length (lm 10000 y).length + 2)
  simp only [sub, c78, Tryz.f33, gets] at a1 ⊢
  simp only [vmr, vmw, vmp, vza, ↓reduceIte, Nat.reduceBEq, Nat.reduceLT, Nat.reduceAdd, Nat.reduceEqDiff, reduceCtorEq, vmt, vzb, vzc, vlen, vleaf, velems, oks, vst, vmd, ty, Nat.reduceLeDiff, Nat.reduceMul, Nat.reduceSub, m78]
  refine a1 _ _ _ (by omega) (by omega) ?_ ?_ ?_ ?_ ?_ ?_ (fun s' vr i hlt hi h5 h5' => ?_)
  case refine_7 =>
    have e63 := F63_fx (k := i) (n := x + y) (by omega) hlt
    have ht : List.take i ((fx 10000 i (x + y)).map I) = (fx 10000 i (x + y)).map I := take_of _ (fx_len ..)
    simp only [vmr, vmw, vmp, vza, ↓reduceIte, Nat.reduceBEq, Nat.reduceLT, Nat.reduceAdd, Nat.reduceEqDiff, reduceCtorEq, vmt, vzb, vzc, vlen, vleaf, velems, oks, vst, vmd, ty, Nat.reduceLeDiff, Nat.reduceMul, Nat.reduceSub, vzr, m78, h5, h5', e63, fx_len, allflatI, pureLI, shI, ht]
  all_goals simp only [vmr, vmw, vmp, vza, ↓reduceIte, Nat.reduceBEq, Nat.reduceLT, Nat.reduceAdd, Nat.reduceEqDiff, reduceCtorEq, vmt, vzb, vzc, vlen, vleaf, velems, oks, vst, vmd, ty, Nat.reduceLeDiff, Nat.reduceMul, Nat.reduceSub, m78, szi0, fx0, Nat.pow_zero, Nat.mod_one]
  rfl
noncomputable def F78 : List V → Option V := hF (α := Nat × Nat) (fun a => [N a.1, N a.2]) (fun a => few a.1 ∧ few a.2) (fun a => N (a.1 + a.2))
theorem F78_eq {x y : Nat} (h : few x) (hb : few y) : F78 [N x, N y] = some (N (x + y)) := hF_eq (a := (x, y)) two_N (by simp only [cans, canN]) ⟨h, hb⟩
end Go.Vi
set_option maxRecDepth 100000
set_option maxHeartbeats 1000000
namespace Go.Vi
open Go Go.Proofs

/-! ### small -/
theorem tdivNN (a b : Nat) : Int.tdiv (a : Int) (b : Int) = ((a / b : Nat) : Int) := rfl
theorem tmodNN (a b : Nat) : Int.tmod (a : Int) (b : Int) = ((a % b : Nat) : Int) := rfl
theorem wrapN {a : Nat} (h : a ≤ 100010000) : IntKind.i64.wrap ((a : Nat) : Int) = ((a : Nat) : Int) := by rw [wrap_id] <;> omega
theorem fx_top {k : Nat} (q d i : Nat) (h : i < k) (hd : d < 10000) : (fx 10000 k (q * 10000 ^ (i + 1))).set i (d : Int) = fx 10000 k ((q * 10000 + d) * 10000 ^ i) := by
  have hP : 0 < 10000 ^ i := Nat.pow_pos (by omega)
  have e : q * 10000 ^ (i + 1) = (q * 10000) * 10000 ^ i := by rw [Nat.pow_succ, Nat.mul_comm (10000 ^ i), Nat.mul_assoc]
  refine fx_set b2 k _ i d _ h hd ?_
  rw [e, Nat.mul_div_cancel _ hP, Nat.mul_mod_left, Nat.zero_mul, Nat.add_zero, Nat.add_mul]
theorem l74 {n k out vo} (x b : Nat) (hx0 : few x) (hb0 : 0 < b) (hb1 : b ≤ 10000) : ∀ i n' s, i ≤ (lm 10000 x).length → i < n' → tget s.τ 0 = N x → tget s.τ 1 = I (b : Nat) →
    tget s.τ 6 = .ref ⟨0, 6, 0⟩ vo 0 (lm 10000 x).length → lget s.L (6, 0) = some (vo, .arr 1 ((fx 10000 (lm 10000 x).length (x / 10000 ^ i / b * 10000 ^ i)).map I)) → tget s.τ 7 = I (x / 10000 ^ i % b : Nat) → tget s.τ 8 = I ((i : Int) - 1) →
    (∀ s', tget s'.τ 6 = .ref ⟨0, 6, 0⟩ vo 0 (lm 10000 x).length → lget s'.L (6, 0) = some (vo, .arr 1 ((fx 10000 (lm 10000 x).length (x / b)).map I)) → tget s'.τ 7 = I (x % b : Nat) → Fin (M74 (hand T85) n) [.tmp 4, .tmp 5] (X (M74 (hand T85) n) (.exit 0) k s') = out) →
    Fin (M74 (hand T85) n) [.tmp 4, .tmp 5] (L (M74 (hand T85) n) (sub [1, 1, 1, 0, 1, 0, 0] c74) n' k s) = out
  | 0, n' + 1, s, hi, hn, h0, h1, h6, h6', h7, h8, hx => by
    have e5 : (((0 : Nat) : Int) - 1) = -1 := rfl
    rw [e5] at h8
    simp only [Nat.pow_zero, Nat.div_one, Nat.mul_one] at h6' h7
    have hc : ((-1 : Int) ≥ 0) = False := by decide
    rw [L_succ]
    simp only [vmr, vmw, vmp, vza, ↓reduceIte, Nat.reduceBEq, Nat.reduceLT, Nat.reduceAdd, Nat.reduceEqDiff, reduceCtorEq, vmt, vzb, vzc, vlen, vleaf, velems, oks, vst, vmd, ty, Nat.reduceLeDiff, Nat.reduceMul, Nat.reduceSub, c74, Tryz.f24, m74, h8, hc]
    refine hx _ ?_ ?_ ?_
    all_goals simp only [vmr, vmw, vmp, vza, ↓reduceIte, Nat.reduceBEq, Nat.reduceLT, Nat.reduceAdd, Nat.reduceEqDiff, reduceCtorEq, vmt, vzb, vzc, vlen, vleaf, velems, oks, vst, vmd, ty, Nat.reduceLeDiff, Nat.reduceMul, Nat.reduceSub, m74, h6, h6', h7]
  | i + 1, n' + 1, s, hi, hn, h0, h1, h6, h6', h7, h8, hx => by
    have e5 : (((i + 1 : Nat) : Int) - 1) = (i : Int) := by omega
    rw [e5] at h8
    have hlt : i < (lm 10000 x).length := by omega
    have hg := lm_get b2 x i hlt
    have d1 := Nat.mod_lt (x / 10000 ^ i) (show 0 < 10000 by omega)
    obtain ⟨g1, g2, g3⟩ := quo_digit b2 hb0 x i
    have r1 := Nat.mod_lt (x / 10000 ^ (i + 1)) hb0
    have hst := congrArg (List.map I) (fx_top (x / 10000 ^ (i + 1) / b) _ i hlt g1)
    rw [← setI, ← g3] at hst
    have ih := fun s => @l74 n k out vo x b hx0 hb0 hb1 i n' s (by omega) (by omega)
    rw [← g2] at ih
    have hfl : ∃ z, (fx 10000 (lm 10000 x).length (x / 10000 ^ (i + 1) / b * 10000 ^ (i + 1)))[i]? = some z := ⟨_, fx_get _ _ _ _ hlt⟩
    obtain ⟨z, hfl⟩ := hfl
    simp only [sub, c74, Tryz.f24, gets] at ih
    have hw : IntKind.i64.wrap ((i : Int) - 1) = (i : Int) - 1 := by unfold few at hx0; rw [wrap_id] <;> omega
    generalize x / 10000 ^ i % 10000 = A at *
    generalize x / 10000 ^ (i + 1) % b = r at *
    have hrb : r * 10000 + A ≤ 100010000 := by omega
    have hqb : (r * 10000 + A) / b ≤ 100010000 := Nat.le_trans (Nat.div_le_self _ _) hrb
    have w1 : IntKind.i64.wrap ((r : Int) * 10000) = (r : Int) * 10000 := by rw [wrap_id] <;> omega
    have w2 : IntKind.i64.wrap ((r : Int) * 10000 + (A : Int)) = ((r * 10000 + A : Nat) : Int) := by rw [wrap_id] <;> omega
    generalize r * 10000 + A = t at *
    have w3 := wrapN hqb
    have hc := ilt hlt
    have hbz : ((b : Int) = 0) = False := eq_false (by omega)
    rw [L_succ]
    simp only [vmr, vmw, vmp, vza, ↓reduceIte, Nat.reduceBEq, Nat.reduceLT, Nat.reduceAdd, Nat.reduceEqDiff, reduceCtorEq, vmt, vzb, vzc, vlen, vleaf, velems, oks, vst, vmd, ty, Nat.reduceLeDiff, Nat.reduceMul, Nat.reduceSub, c74, Tryz.f24, m74, h0, h1, h6, h6', h7, h8, hg, hw, w1, w2, w3, tdivNN, tmodNN, hbz, hfl, hst, hc]
    refine ih _ ?_ ?_ ?_ ?_ ?_ ?_ hx
    all_goals simp only [vmr, vmw, vmp, vza, ↓reduceIte, Nat.reduceBEq, Nat.reduceLT, Nat.reduceAdd, Nat.reduceEqDiff, reduceCtorEq, vmt, vzb, vzc, vlen, vleaf, velems, oks, vst, vmd, ty, Nat.reduceLeDiff, Nat.reduceMul, Nat.reduceSub, m74, h0, h1, h6, h6', hst]
theorem w74 (x b : Nat) (hx0 : few x) (hb0 : 0 < b) (hb1 : b ≤ 10000) : SoundPure Tryz.prog 24 [N x, I (b : Nat)] (.ret (.tup [N (x / b), I (x % b : Nat)])) := by
  refine s74 hT85 ((lm 10000 x).length + 1) (by simp) (by simp only [pureR, pureRL, pureLI, Bool.and_self]) ?_
  have hb' : (lm 10000 x).length ≤ 100000 := hx0
  have a1 := fun vo k out => @l74 ((lm 10000 x).length + 1) k out vo x b hx0 hb0 hb1 (lm 10000 x).length ((lm 10000 x).length + 1)
  have hr := @room3 (lm 10000 x).length (by omega)
  have hm : (((lm 10000 x).length : Int) ≤ 9223372036854775807) = True := eq_true (by omega)
  have hm2 : (((lm 10000 x).length : Int) ≤ ((lm 10000 x).length : Int)) = True := eq_true (by omega)
  have hw : IntKind.i64.wrap (((lm 10000 x).length : Int) - 1) = ((lm 10000 x).length : Int) - 1 := by rw [wrap_id] <;> omega
  have hlt := lm_lt b2 x
  have e63 := F63_fx (k := (lm 10000 x).length) (n := x / b) (by omega) (Nat.lt_of_le_of_lt (Nat.div_le_self _ _) hlt)
  have z1 : x / 10000 ^ (lm 10000 x).length = 0 := Nat.div_eq_of_lt hlt
  simp only [sub, c74, Tryz.f24, gets] at a1 ⊢
  simp only [vmr, vmw, vmp, vza, ↓reduceIte, Nat.reduceBEq, Nat.reduceLT, Nat.reduceAdd, Nat.reduceEqDiff, reduceCtorEq, vmt, vzb, vzc, vlen, vleaf, velems, oks, vst, vmd, ty, Nat.reduceLeDiff, Nat.reduceMul, Nat.reduceSub, m74, hr, hm, hm2, fitsI, hw]
  refine a1 1 _ _ _ (by omega) (by omega) ?_ ?_ ?_ ?_ ?_ ?_ (fun s' h6 h6' h7 => ?_)
  case refine_7 =>
    simp only [vmr, vmw, vmp, vza, ↓reduceIte, Nat.reduceBEq, Nat.reduceLT, Nat.reduceAdd, Nat.reduceEqDiff, reduceCtorEq, vmt, vzb, vzc, vlen, vleaf, velems, oks, vst, vmd, ty, Nat.reduceLeDiff, Nat.reduceMul, Nat.reduceSub, vzr, m74, h6, h6', h7, e63, fx_len, allflatI, pureLI, shI, take_of]
  all_goals simp only [vmr, vmw, vmp, vza, ↓reduceIte, Nat.reduceBEq, Nat.reduceLT, Nat.reduceAdd, Nat.reduceEqDiff, reduceCtorEq, vmt, vzb, vzc, vlen, vleaf, velems, oks, vst, vmd, ty, Nat.reduceLeDiff, Nat.reduceMul, Nat.reduceSub, m74, z1, Nat.zero_div, Nat.zero_mod, Nat.zero_mul, repl_fx, fx_len]
noncomputable def F74 : List V → Option V := hF (α := Nat × Nat) (fun a => [N a.1, I (a.2 : Nat)]) (fun a => few a.1 ∧ 0 < a.2 ∧ a.2 ≤ 10000) (fun a => .tup [N (a.1 / a.2), I (a.1 % a.2 : Nat)])
theorem F74_eq {x b : Nat} (h : few x) (h0 : 0 < b) (h1 : b ≤ 10000) : F74 [N x, I (b : Nat)] = some (.tup [N (x / b), I (x % b : Nat)]) := hF_eq (a := (x, b)) (two_inj (fun _ _ => N_inj) (fun _ _ => natI_inj)) (by simp only [cans, canN, canI]) ⟨h, h0, h1⟩
end Go.Vi
set_option maxRecDepth 100000
set_option maxHeartbeats 1000000
namespace Go.Vi
open Go Go.Proofs

/-- One step of a row of a product: the digit that is laid, and the carry. -/
theorem mul_step {B : Nat} (hB : 2 ≤ B) {W c V X y i k : Nat} (h : W + c * B ^ (i + k) = V + X * (y % B ^ k) * B ^ i) (t : Nat) (ht : t = c + (W / B ^ (i + k) % B + X * (y / B ^ k % B))) :
    ∃ W', W' + (W / B ^ (i + k) % B) * B ^ (i + k) = W + (t % B) * B ^ (i + k) ∧ W' + (t / B) * B ^ (i + (k + 1)) = V + X * (y % B ^ (k + 1)) * B ^ i := by
  have hP : 0 < B ^ (i + k) := pow_pos' hB _
  have h1 : (W / B ^ (i + k) % B) * B ^ (i + k) ≤ W := Nat.le_trans (Nat.mul_le_mul_right _ (Nat.mod_le _ _)) (Nat.div_mul_le_self W _)
  refine ⟨W + (t % B) * B ^ (i + k) - (W / B ^ (i + k) % B) * B ^ (i + k), by omega, ?_⟩
  have e1 : B ^ (i + (k + 1)) = B * B ^ (i + k) := by rw [show i + (k + 1) = (i + k) + 1 by omega, Nat.pow_succ, Nat.mul_comm]
  have e2 : (t / B) * B ^ (i + (k + 1)) + (t % B) * B ^ (i + k) = t * B ^ (i + k) := by
    rw [e1, ← Nat.mul_assoc, ← Nat.add_mul, Nat.mul_comm (t / B), Nat.div_add_mod]
  have e3 : t * B ^ (i + k) = c * B ^ (i + k) + (W / B ^ (i + k) % B) * B ^ (i + k) + X * (y / B ^ k % B) * B ^ (i + k) := by
    rw [ht, Nat.add_mul, Nat.add_mul]; omega
  have e4 : X * (y % B ^ (k + 1)) * B ^ i = X * (y % B ^ k) * B ^ i + X * (y / B ^ k % B) * B ^ (i + k) := by
    rw [mod_succ, Nat.mul_add, Nat.add_mul, Nat.pow_add]
    congr 1
    rw [Nat.mul_comm (B ^ k), ← Nat.mul_assoc, Nat.mul_assoc _ (B ^ k), Nat.mul_comm (B ^ k)]
  omega
theorem mul_row {B : Nat} (x y i : Nat) : (x % B ^ i) * y + (x / B ^ i % B) * y * B ^ i = (x % B ^ (i + 1)) * y := by
  rw [mod_succ, Nat.add_mul]
  congr 1
  rw [Nat.mul_right_comm, Nat.mul_comm (x / B ^ i % B)]
theorem mul_end {B : Nat} (hB : 2 ≤ B) {W c x y i n : Nat} (hy : y < B ^ n) (h : W + c * B ^ (i + (n + 1)) = (x % B ^ (i + 1)) * y) : c = 0 := by
  have hP : 0 < B ^ (i + 1) := pow_pos' hB _
  have h1 : (x % B ^ (i + 1)) * y < B ^ (i + 1) * B ^ n := by
    have a1 := Nat.mod_lt x hP
    have a2 : (x % B ^ (i + 1)) * y ≤ (x % B ^ (i + 1)) * B ^ n := Nat.mul_le_mul_left _ (by omega)
    have a3 : (x % B ^ (i + 1) + 1) * B ^ n ≤ B ^ (i + 1) * B ^ n := Nat.mul_le_mul_right _ a1
    rw [Nat.add_mul, Nat.one_mul] at a3
    have a4 := pow_pos' hB n
    omega
  rw [← Nat.pow_add, show i + 1 + n = i + (n + 1) by omega] at h1
  rcases Nat.eq_zero_or_pos c with h0 | h0
  · exact h0
  · have : 1 * B ^ (i + (n + 1)) ≤ c * B ^ (i + (n + 1)) := Nat.mul_le_mul_right _ h0
    omega
theorem l79b {n k out vo} (x y i : Nat) (hx0 : few x) (hy0 : few y) (hi : i < (lm 10000 x).length) : ∀ d kk W c n' s, kk + d = (lm 10000 y).length + 1 → d < n' →
    W + c * 10000 ^ (i + kk) = x % 10000 ^ i * y + (x / 10000 ^ i % 10000) * (y % 10000 ^ kk) * 10000 ^ i → c ≤ 9999 → (kk = (lm 10000 y).length + 1 → c = 0) →
    tget s.τ 1 = N y → tget s.τ 5 = .ref ⟨0, 5, 0⟩ vo 0 ((lm 10000 x).length + (lm 10000 y).length) → lget s.L (5, 0) = some (vo, .arr 1 ((fx 10000 ((lm 10000 x).length + (lm 10000 y).length) W).map I)) →
    tget s.τ 6 = I (i : Nat) → tget s.τ 7 = I (x / 10000 ^ i % 10000 : Nat) → tget s.τ 8 = I (c : Nat) → tget s.τ 9 = I (kk : Nat) → tget s.τ 16 = N x → tget s.τ 17 = I (lm 10000 x).length → tget s.τ 18 = I (i : Nat) →
    (∀ s', tget s'.τ 1 = N y → tget s'.τ 5 = .ref ⟨0, 5, 0⟩ vo 0 ((lm 10000 x).length + (lm 10000 y).length) → lget s'.L (5, 0) = some (vo, .arr 1 ((fx 10000 ((lm 10000 x).length + (lm 10000 y).length) (x % 10000 ^ (i + 1) * y)).map I)) →
      tget s'.τ 16 = N x → tget s'.τ 17 = I (lm 10000 x).length → tget s'.τ 18 = I (i : Nat) → Fin (M79 (hand T85) n) [.tmp 4] (X (M79 (hand T85) n) (.exit 2) k s') = out) →
    Fin (M79 (hand T85) n) [.tmp 4] (L (M79 (hand T85) n) (sub [1, 1, 0, 1, 0, 0, 1, 1, 0, 0, 1, 1, 1, 0, 0] c79) n' k s) = out := by
  have hyl := lm_lt b2 y
  have hxb : (lm 10000 x).length ≤ 100000 := hx0
  have hyb : (lm 10000 y).length ≤ 100000 := hy0
  intro d
  induction d with
  | zero =>
    intro kk W c n' s hk hn hinv hc hc0 h1 h5 h5' h6 h7 h8 h9 h16 h17 h18 hx
    obtain ⟨n', rfl⟩ : ∃ m, n' = m + 1 := ⟨n' - 1, by omega⟩
    have hc0 := hc0 (by omega)
    subst hc0
    have q1 : ((kk : Int) < ((lm 10000 y).length : Int)) = False := eq_false (by omega)
    have q2 : ((0 : Int) > 0) = False := by decide
    have hy' : y < 10000 ^ kk := (lm_len_le b2 y kk).1 (by omega)
    rw [Nat.zero_mul, Nat.add_zero, Nat.mod_eq_of_lt hy', mul_row] at hinv
    subst hinv
    rw [L_succ]
    simp only [vmr, vmw, vmp, vza, ↓reduceIte, Nat.reduceBEq, Nat.reduceLT, Nat.reduceAdd, Nat.reduceEqDiff, reduceCtorEq, vmt, vzb, vzc, vlen, vleaf, velems, oks, vst, vmd, ty, Nat.reduceLeDiff, Nat.reduceMul, Nat.reduceSub, c79, Tryz.f34, m79, h1, h8, h9, q1, q2]
    refine hx _ ?_ ?_ ?_ ?_ ?_ ?_
    all_goals simp only [vmr, vmw, vmp, vza, ↓reduceIte, Nat.reduceBEq, Nat.reduceLT, Nat.reduceAdd, Nat.reduceEqDiff, reduceCtorEq, vmt, vzb, vzc, vlen, vleaf, velems, oks, vst, vmd, ty, Nat.reduceLeDiff, Nat.reduceMul, Nat.reduceSub, m79, h1, h5, h5', h16, h17, h18]
  | succ d ih =>
    intro kk W c n' s hk hn hinv hc hc0 h1 h5 h5' h6 h7 h8 h9 h16 h17 h18 hx
    obtain ⟨n', rfl⟩ : ∃ m, n' = m + 1 := ⟨n' - 1, by omega⟩
    by_cases hex : (lm 10000 y).length ≤ kk ∧ c = 0
    · obtain ⟨hle, rfl⟩ := hex
      have q1 : ((kk : Int) < ((lm 10000 y).length : Int)) = False := eq_false (by omega)
      have q2 : ((0 : Int) > 0) = False := by decide
      have hy' : y < 10000 ^ kk := (lm_len_le b2 y kk).1 (by omega)
      rw [Nat.zero_mul, Nat.add_zero, Nat.mod_eq_of_lt hy', mul_row] at hinv
      subst hinv
      rw [L_succ]
      simp only [vmr, vmw, vmp, vza, ↓reduceIte, Nat.reduceBEq, Nat.reduceLT, Nat.reduceAdd, Nat.reduceEqDiff, reduceCtorEq, vmt, vzb, vzc, vlen, vleaf, velems, oks, vst, vmd, ty, Nat.reduceLeDiff, Nat.reduceMul, Nat.reduceSub, c79, Tryz.f34, m79, h1, h8, h9, q1, q2]
      refine hx _ ?_ ?_ ?_ ?_ ?_ ?_
      all_goals simp only [vmr, vmw, vmp, vza, ↓reduceIte, Nat.reduceBEq, Nat.reduceLT, Nat.reduceAdd, Nat.reduceEqDiff, reduceCtorEq, vmt, vzb, vzc, vlen, vleaf, velems, oks, vst, vmd, ty, Nat.reduceLeDiff, Nat.reduceMul, Nat.reduceSub, m79, h1, h5, h5', h16, h17, h18]
    · have hs : calm (M79 (hand T85) n).E (opsAt (sub [1, 1, 0, 1, 0, 0, 1, 1, 0, 0, 1, 1, 1, 0, 0, 1, 0, 0, 0] c79)) = true := by kernel_rfl
      obtain ⟨W', hW1, hW2⟩ := mul_step b2 hinv _ rfl
      have hlen : i + kk < (lm 10000 x).length + (lm 10000 y).length := by omega
      have dX := Nat.mod_lt (x / 10000 ^ i) (show 0 < 10000 by omega)
      have dY := Nat.mod_lt (y / 10000 ^ kk) (show 0 < 10000 by omega)
      have dW := Nat.mod_lt (W / 10000 ^ (i + kk)) (show 0 < 10000 by omega)
      have hst := congrArg (List.map I) (fx_set b2 ((lm 10000 x).length + (lm 10000 y).length) W (i + kk) _ W' hlen (Nat.mod_lt _ (by omega)) hW1)
      rw [← setI] at hst
      have hg := fx_get 10000 ((lm 10000 x).length + (lm 10000 y).length) W (i + kk) hlen
      have e84 := F84_N y kk
      have hmul : x / 10000 ^ i % 10000 * (y / 10000 ^ kk % 10000) ≤ 9999 * 9999 := Nat.mul_le_mul (by omega) (by omega)
      have hend : kk = (lm 10000 y).length → (c + (W / 10000 ^ (i + kk) % 10000 + x / 10000 ^ i % 10000 * (y / 10000 ^ kk % 10000))) / 10000 = 0 := by
        intro e
        refine mul_end b2 (n := kk) (i := i) (x := x) (y := y) (W := W') (by rw [e]; exact hyl) ?_
        rw [hW2, Nat.mod_eq_of_lt (show y < 10000 ^ (kk + 1) from (lm_len_le b2 y _).1 (by omega)), mul_row]
      have ih := fun n' s hn => ih (kk + 1) W' _ n' s (by omega) hn hW2 (by omega) (fun e => hend (by omega))
      have hcl : (((i + kk : Nat) : Int) < (((lm 10000 x).length + (lm 10000 y).length : Nat) : Int)) = True := eq_true (by omega)
      have hwk := wsucc9' (i := kk) (by omega)
      generalize x / 10000 ^ i % 10000 = X at *
      generalize y / 10000 ^ kk % 10000 = Y at *
      generalize W / 10000 ^ (i + kk) % 10000 = D at *
      have w0 : IntKind.i64.wrap ((i : Int) + (kk : Int)) = ((i + kk : Nat) : Int) := by rw [wrap_id] <;> omega
      have w1 : IntKind.i64.wrap ((X : Int) * (Y : Int)) = ((X * Y : Nat) : Int) := by
        rw [← Int.natCast_mul]; exact wrapN (by omega)
      generalize X * Y = p at *
      have w2 : IntKind.i64.wrap ((D : Int) + (p : Int)) = ((D + p : Nat) : Int) := by rw [wrap_id] <;> omega
      have w3 : IntKind.i64.wrap ((c : Int) + ((D + p : Nat) : Int)) = ((c + (D + p) : Nat) : Int) := by rw [wrap_id] <;> omega
      have w4 : IntKind.i64.wrap (((c + (D + p)) / 10000 : Nat) : Int) = (((c + (D + p)) / 10000 : Nat) : Int) := wrapN (by omega)
      simp only [sub, c79, Tryz.f34, gets, opsAt] at hs ih
      by_cases q : (kk : Int) < ((lm 10000 y).length : Int)
      · have q' := eq_true q
        rw [L_succ]
        simp only [sub, c79, Tryz.f34, gets]
        simp only [vmr, vmw, vmp, vza, ↓reduceIte, Nat.reduceBEq, Nat.reduceLT, Nat.reduceAdd, Nat.reduceEqDiff, reduceCtorEq, vmt, vzb, vzc, vlen, vleaf, velems, oks, vst, vmd, ty, Nat.reduceLeDiff, Nat.reduceMul, Nat.reduceSub, m79, h1, h5, h5', h6, h7, h8, h9, q', hs, w0, w1, w2, w3, w4, e84, hg, hcl, tmodN, tdivN, n10000, hst, hwk, shI]
        refine ih n' _ (by omega) ?_ ?_ ?_ ?_ ?_ ?_ ?_ ?_ ?_ ?_ hx
        all_goals simp only [vmr, vmw, vmp, vza, ↓reduceIte, Nat.reduceBEq, Nat.reduceLT, Nat.reduceAdd, Nat.reduceEqDiff, reduceCtorEq, vmt, vzb, vzc, vlen, vleaf, velems, oks, vst, vmd, ty, Nat.reduceLeDiff, Nat.reduceMul, Nat.reduceSub, m79, h1, h5, h5', h6, h7, h16, h17, h18, hst, tdivN, w4]
      · have q' := eq_false q
        have q2 : ((c : Int) > 0) = True := eq_true (by omega)
        rw [L_succ]
        simp only [sub, c79, Tryz.f34, gets]
        simp only [vmr, vmw, vmp, vza, ↓reduceIte, Nat.reduceBEq, Nat.reduceLT, Nat.reduceAdd, Nat.reduceEqDiff, reduceCtorEq, vmt, vzb, vzc, vlen, vleaf, velems, oks, vst, vmd, ty, Nat.reduceLeDiff, Nat.reduceMul, Nat.reduceSub, m79, h1, h5, h5', h6, h7, h8, h9, q', q2, hs, w0, w1, w2, w3, w4, e84, hg, hcl, tmodN, tdivN, n10000, hst, hwk, shI]
        refine ih n' _ (by omega) ?_ ?_ ?_ ?_ ?_ ?_ ?_ ?_ ?_ ?_ hx
        all_goals simp only [vmr, vmw, vmp, vza, ↓reduceIte, Nat.reduceBEq, Nat.reduceLT, Nat.reduceAdd, Nat.reduceEqDiff, reduceCtorEq, vmt, vzb, vzc, vlen, vleaf, velems, oks, vst, vmd, ty, Nat.reduceLeDiff, Nat.reduceMul, Nat.reduceSub, m79, h1, h5, h5', h6, h7, h16, h17, h18, hst, tdivN, w4]
theorem l79 {n k out vo} (x y : Nat) (hx0 : few x) (hy0 : few y) (hnn : (lm 10000 y).length + 1 < n) : ∀ d i n' s, i + d = (lm 10000 x).length → d < n' →
    tget s.τ 1 = N y → tget s.τ 5 = .ref ⟨0, 5, 0⟩ vo 0 ((lm 10000 x).length + (lm 10000 y).length) → lget s.L (5, 0) = some (vo, .arr 1 ((fx 10000 ((lm 10000 x).length + (lm 10000 y).length) (x % 10000 ^ i * y)).map I)) →
    tget s.τ 16 = N x → tget s.τ 17 = I (lm 10000 x).length → tget s.τ 18 = I (i : Nat) →
    (∀ s', tget s'.τ 5 = .ref ⟨0, 5, 0⟩ vo 0 ((lm 10000 x).length + (lm 10000 y).length) → lget s'.L (5, 0) = some (vo, .arr 1 ((fx 10000 ((lm 10000 x).length + (lm 10000 y).length) (x * y)).map I)) → Fin (M79 (hand T85) n) [.tmp 4] (X (M79 (hand T85) n) (.exit 0) k s') = out) →
    Fin (M79 (hand T85) n) [.tmp 4] (L (M79 (hand T85) n) (sub [1, 1, 0, 1, 0, 0] c79) n' k s) = out := by
  have hxb : (lm 10000 x).length ≤ 100000 := hx0
  intro d
  induction d with
  | zero =>
    intro i n' s hi hn h1 h5 h5' h16 h17 h18 hx
    obtain ⟨n', rfl⟩ : ∃ m, n' = m + 1 := ⟨n' - 1, by omega⟩
    have hc := inlt (n := (lm 10000 x).length) (i := i) (by omega)
    have hlt := lm_lt b2 x
    rw [Nat.mod_eq_of_lt (by rw [show i = (lm 10000 x).length by omega]; exact hlt)] at h5'
    rw [L_succ]
    simp only [vmr, vmw, vmp, vza, ↓reduceIte, Nat.reduceBEq, Nat.reduceLT, Nat.reduceAdd, Nat.reduceEqDiff, reduceCtorEq, vmt, vzb, vzc, vlen, vleaf, velems, oks, vst, vmd, ty, Nat.reduceLeDiff, Nat.reduceMul, Nat.reduceSub, c79, Tryz.f34, m79, h17, h18, hc]
    refine hx _ ?_ ?_
    all_goals simp only [vmr, vmw, vmp, vza, ↓reduceIte, Nat.reduceBEq, Nat.reduceLT, Nat.reduceAdd, Nat.reduceEqDiff, reduceCtorEq, vmt, vzb, vzc, vlen, vleaf, velems, oks, vst, vmd, ty, Nat.reduceLeDiff, Nat.reduceMul, Nat.reduceSub, m79, h5, h5']
  | succ d ih =>
    intro i n' s hi hn h1 h5 h5' h16 h17 h18 hx
    obtain ⟨n', rfl⟩ : ∃ m, n' = m + 1 := ⟨n' - 1, by omega⟩
    have hlt : i < (lm 10000 x).length := by omega
    have hc := ilt hlt
    have hg := lm_get b2 x i hlt
    have hw := wsucc9' (i := i) (by omega)
    have a1 := fun k out s => @l79b n k out vo x y i hx0 hy0 hlt ((lm 10000 y).length + 1) 0 (x % 10000 ^ i * y) 0 n s (by omega) (by omega) (by simp [Nat.mod_one]) (by omega) (fun _ => rfl)
    have ih := fun s => ih (i + 1) n' s (by omega) (by omega)
    simp only [sub, c79, Tryz.f34, gets] at a1 ih
    rw [L_succ]
    simp only [vmr, vmw, vmp, vza, ↓reduceIte, Nat.reduceBEq, Nat.reduceLT, Nat.reduceAdd, Nat.reduceEqDiff, reduceCtorEq, vmt, vzb, vzc, vlen, vleaf, velems, oks, vst, vmd, ty, Nat.reduceLeDiff, Nat.reduceMul, Nat.reduceSub, c79, Tryz.f34, m79, h16, h17, h18, hc, hg]
    refine a1 _ _ _ ?_ ?_ ?_ ?_ ?_ ?_ ?_ ?_ ?_ ?_ (fun s' h1 h5 h5' h16 h17 h18 => ?_)
    case refine_11 =>
      simp only [vmr, vmw, vmp, vza, ↓reduceIte, Nat.reduceBEq, Nat.reduceLT, Nat.reduceAdd, Nat.reduceEqDiff, reduceCtorEq, vmt, vzb, vzc, vlen, vleaf, velems, oks, vst, vmd, ty, Nat.reduceLeDiff, Nat.reduceMul, Nat.reduceSub, m79, h18, hw]
      refine ih _ ?_ ?_ ?_ ?_ ?_ ?_ hx
      all_goals simp only [vmr, vmw, vmp, vza, ↓reduceIte, Nat.reduceBEq, Nat.reduceLT, Nat.reduceAdd, Nat.reduceEqDiff, reduceCtorEq, vmt, vzb, vzc, vlen, vleaf, velems, oks, vst, vmd, ty, Nat.reduceLeDiff, Nat.reduceMul, Nat.reduceSub, m79, h1, h5, h5', h16, h17]
    all_goals simp only [vmr, vmw, vmp, vza, ↓reduceIte, Nat.reduceBEq, Nat.reduceLT, Nat.reduceAdd, Nat.reduceEqDiff, reduceCtorEq, vmt, vzb, vzc, vlen, vleaf, velems, oks, vst, vmd, ty, Nat.reduceLeDiff, Nat.reduceMul, Nat.reduceSub, m79, h1, h5, h5', h16, h17, h18]
theorem w79 (x y : Nat) (hx0 : few x) (hy0 : few y) : SoundPure Tryz.prog 34 [N x, N y] (.ret (N (x * y))) := by
  refine s79 hT85 ((lm 10000 x).length + (lm 10000 y).length + 2) (by simp) (by simp only [pureR, pureLI]) ?_
  have hxb : (lm 10000 x).length ≤ 100000 := hx0
  have hyb : (lm 10000 y).length ≤ 100000 := hy0
  have a1 := fun vo k out => @l79 ((lm 10000 x).length + (lm 10000 y).length + 2) k out vo x y hx0 hy0 (by omega) (lm 10000 x).length 0 ((lm 10000 x).length + (lm 10000 y).length + 2)
  have hr := @room3 ((lm 10000 x).length + (lm 10000 y).length) (by omega)
  have hm : ((((lm 10000 x).length + (lm 10000 y).length : Nat) : Int) ≤ 9223372036854775807) = True := eq_true (by omega)
  have hm2 : ((((lm 10000 x).length + (lm 10000 y).length : Nat) : Int) ≤ (((lm 10000 x).length + (lm 10000 y).length : Nat) : Int)) = True := eq_true (by omega)
  have hw : IntKind.i64.wrap (((lm 10000 x).length : Int) + ((lm 10000 y).length : Int)) = (((lm 10000 x).length + (lm 10000 y).length : Nat) : Int) := by rw [wrap_id] <;> omega
  have hlt : x * y < 10000 ^ ((lm 10000 x).length + (lm 10000 y).length) := by
    have h1 := lm_lt b2 x
    have h2 := lm_lt b2 y
    rw [Nat.pow_add]
    calc x * y ≤ x * 10000 ^ (lm 10000 y).length := Nat.mul_le_mul_left _ (by omega)
      _ < 10000 ^ (lm 10000 x).length * 10000 ^ (lm 10000 y).length := Nat.mul_lt_mul_of_pos_right h1 (pow_pos' b2 _)
  have e63 := F63_fx (k := (lm 10000 x).length + (lm 10000 y).length) (n := x * y) (by omega) hlt
  simp only [sub, c79, Tryz.f34, gets] at a1 ⊢
  simp only [vmr, vmw, vmp, vza, ↓reduceIte, Nat.reduceBEq, Nat.reduceLT, Nat.reduceAdd, Nat.reduceEqDiff, reduceCtorEq, vmt, vzb, vzc, vlen, vleaf, velems, oks, vst, vmd, ty, Nat.reduceLeDiff, Nat.reduceMul, Nat.reduceSub, m79, hr, hm, hm2, fitsI, hw]
  refine a1 1 _ _ _ (by omega) (by omega) ?_ ?_ ?_ ?_ ?_ ?_ (fun s' h5 h5' => ?_)
  case refine_7 =>
    simp only [vmr, vmw, vmp, vza, ↓reduceIte, Nat.reduceBEq, Nat.reduceLT, Nat.reduceAdd, Nat.reduceEqDiff, reduceCtorEq, vmt, vzb, vzc, vlen, vleaf, velems, oks, vst, vmd, ty, Nat.reduceLeDiff, Nat.reduceMul, Nat.reduceSub, vzr, m79, h5, h5', e63, fx_len, allflatI, pureLI, shI, take_of]
  all_goals simp only [vmr, vmw, vmp, vza, ↓reduceIte, Nat.reduceBEq, Nat.reduceLT, Nat.reduceAdd, Nat.reduceEqDiff, reduceCtorEq, vmt, vzb, vzc, vlen, vleaf, velems, oks, vst, vmd, ty, Nat.reduceLeDiff, Nat.reduceMul, Nat.reduceSub, m79, Nat.pow_zero, Nat.mod_one, Nat.zero_mul, repl_fx, fx_len]
noncomputable def F79 : List V → Option V := hF (α := Nat × Nat) (fun a => [N a.1, N a.2]) (fun a => few a.1 ∧ few a.2) (fun a => N (a.1 * a.2))
theorem F79_eq {x y : Nat} (h : few x) (hb : few y) : F79 [N x, N y] = some (N (x * y)) := hF_eq (a := (x, y)) two_N (by simp only [cans, canN]) ⟨h, hb⟩
end Go.Vi
set_option maxRecDepth 100000
set_option maxHeartbeats 1000000
namespace Go.Vi
open Go Go.Proofs

/-! ### compare, of numbers -/
def cmp3 (x y : Nat) : Int := if x < y then -1 else if x = y then 0 else 1
theorem cmp3_le {x y : Nat} (h : x ≤ y) : (cmp3 x y > 0) = False := eq_false (by unfold cmp3; repeat' split
                                                                                 all_goals omega)
theorem cmp3_gt {x y : Nat} (h : y < x) : (cmp3 x y > 0) = True := eq_true (by unfold cmp3; rw [if_neg (by omega), if_neg (by omega)]; omega)
theorem cmp3_lt {x y : Nat} (h : x < y) : (cmp3 x y < 0) = True := eq_true (by unfold cmp3; rw [if_pos h]; omega)
theorem cmp3_ge {x y : Nat} (h : y ≤ x) : (cmp3 x y < 0) = False := eq_false (by unfold cmp3; rw [if_neg (by omega)]; split <;> omega)
theorem sgn3 (x y : Nat) : sgn ((x : Int) - (y : Int)) = cmp3 x y := sgnI
theorem cmp_digit {B : Nat} (hB : 2 ≤ B) (x y i : Nat) : cmp3 (x % B ^ (i + 1)) (y % B ^ (i + 1)) = if x / B ^ i % B = y / B ^ i % B then cmp3 (x % B ^ i) (y % B ^ i) else cmp3 (x / B ^ i % B) (y / B ^ i % B) := by
  have hP := pow_pos' hB i
  have r1 := Nat.mod_lt x hP
  have r2 := Nat.mod_lt y hP
  rw [mod_succ, mod_succ]
  unfold cmp3
  generalize x / B ^ i % B = a
  generalize y / B ^ i % B = b
  generalize x % B ^ i = r at *
  generalize y % B ^ i = s at *
  generalize B ^ i = P at *
  by_cases e : a = b
  · subst e
    rw [if_pos rfl]
    by_cases h1 : r < s
    · rw [if_pos h1, if_pos (by omega)]
    · rw [if_neg h1, if_neg (by omega)]
      by_cases h2 : r = s
      · rw [if_pos h2, if_pos (by omega)]
      · rw [if_neg h2, if_neg (by omega)]
  · rw [if_neg e]
    rcases Nat.lt_or_gt_of_ne e with h | h
    · have : P * (a + 1) ≤ P * b := Nat.mul_le_mul_left P h
      rw [Nat.mul_add, Nat.mul_one] at this
      rw [if_pos (by omega), if_pos h]
    · have : P * (b + 1) ≤ P * a := Nat.mul_le_mul_left P h
      rw [Nat.mul_add, Nat.mul_one] at this
      rw [if_neg (by omega), if_neg (by omega), if_neg (by omega), if_neg (by omega)]
theorem cmpL_lm (x y : Nat) : ∀ i, cmpL i (lm 10000 x) (lm 10000 y) = cmp3 (x % 10000 ^ i) (y % 10000 ^ i)
  | 0 => by simp [cmpL, cmp3, Nat.mod_one]
  | i + 1 => by
    rw [cmpL, cmpL_lm x y i, cmp_digit b2, lm_getD b2, lm_getD b2]
    by_cases h : x / 10000 ^ i % 10000 = y / 10000 ^ i % 10000
    · rw [if_pos h, if_pos (by rw [h])]
    · rw [if_neg h, if_neg (by omega), sgn3]
theorem cmpF_lm (x y : Nat) : cmpF (lm 10000 x) (lm 10000 y) = cmp3 x y := by
  unfold cmpF
  have hx := lm_lt b2 x
  have hy := lm_lt b2 y
  by_cases h : (lm 10000 x).length = (lm 10000 y).length
  · rw [if_pos h, cmpL_lm, Nat.mod_eq_of_lt hx, Nat.mod_eq_of_lt (by rw [h]; exact hy)]
  · rw [if_neg h, sgn3]
    unfold cmp3
    by_cases h1 : (lm 10000 x).length < (lm 10000 y).length
    · have h2 : ¬ y < 10000 ^ (lm 10000 x).length := fun h3 => by
        have := (lm_len_le b2 y (lm 10000 x).length).2 h3
        omega
      rw [if_pos h1, if_pos (by omega)]
    · have h2 : ¬ x < 10000 ^ (lm 10000 y).length := fun h3 => by
        have := (lm_len_le b2 x (lm 10000 y).length).2 h3
        omega
      rw [if_neg h1, if_neg h, if_neg (by omega), if_neg (by omega)]
theorem w61N (x y : Nat) (hx : few x) (hy : few y) : SoundPure Tryz.prog 59 [N x, N y] (.ret (I (cmp3 x y))) := by
  have hx' : (lm 10000 x).length ≤ 100000 := hx
  have hy' : (lm 10000 y).length ≤ 100000 := hy
  have := w61 (lm 10000 x) (lm 10000 y) (by omega) (by omega) (lm_dig x) (lm_dig y)
  rwa [cmpF_lm] at this
noncomputable def F61 : List V → Option V := hF (α := Nat × Nat) (fun a => [N a.1, N a.2]) (fun a => few a.1 ∧ few a.2) (fun a => I (cmp3 a.1 a.2))
theorem F61_eq {x y : Nat} (h : few x) (hb : few y) : F61 [N x, N y] = some (I (cmp3 x y)) := hF_eq (a := (x, y)) two_N (by simp only [cans, canN]) ⟨h, hb⟩

/-! ### divide -/
theorem lm_one {s : Nat} (h0 : 0 < s) (h1 : s < 10000) : lm 10000 s = [(s : Int)] := by
  have hl : (lm 10000 s).length = 1 := by
    have a1 := (lm_len_le b2 s 1).2 (by simpa using h1)
    have a2 : ¬ (lm 10000 s).length = 0 := fun h => by have := (lm_nil b2 s).1 h; omega
    omega
  have hg := lm_get b2 s 0 (by omega)
  rw [Nat.pow_zero, Nat.div_one, Nat.mod_eq_of_lt h1] at hg
  match h : lm 10000 s, hl, hg with
  | [x], _, hg => simp at hg; rw [hg]
theorem F63_one {r : Nat} (h : r < 10000) : F63 [.lst [I (r : Int)]] = some (N r) := by
  have := F63_fx (k := 1) (n := r) (by omega) (by simpa using h)
  simpa [fx, Nat.mod_eq_of_lt h] using this
theorem cons_fx (d R : Nat) (hd : d < 10000) : (d : Int) :: lm 10000 R = fx 10000 ((lm 10000 R).length + 1) (R * 10000 + d) := by
  rw [fx, show (R * 10000 + d) % 10000 = d by omega, show (R * 10000 + d) / 10000 = R by omega, lm_len]
  rfl
theorem F63_cons {d R : Nat} (hd : d < 10000) (hR : few R) : F63 [.lst (I (d : Int) :: (lm 10000 R).map I)] = some (N (R * 10000 + d)) := by
  have hR' : (lm 10000 R).length ≤ 100000 := hR
  have hlt := lm_lt b2 R
  have := F63_fx (k := (lm 10000 R).length + 1) (n := R * 10000 + d) (by omega) (by rw [Nat.pow_succ]; omega)
  rw [← cons_fx d R hd] at this
  exact this
noncomputable abbrev T52 : List (FuncId × (List V → Option V)) := (59, F61) :: (60, F62) :: (24, F74) :: (35, F63) :: (34, F79) :: (54, F84) :: (61, F85) :: []
theorem hT52 : SoundHand Tryz.prog (hand T52) :=
  sound_cons (hF_sound fun a h => w61N a.1 a.2 h.1 h.2) <| sound_cons (hF_sound fun a h => w62 a h) <| sound_cons (hF_sound fun a h => w74 a.1 a.2 h.1 h.2.1 h.2.2) <| sound_cons (hF_sound fun a h => w63 a h) <|
  sound_cons (hF_sound fun a h => w79 a.1 a.2 h.1 h.2) <| sound_cons (hF_sound fun a _ => w84 a.1 a.2) <| sound_cons (hF_sound fun a h => w85 a.1 a.2 h.1 h.2) sound_nil
structure D52 (s : St) (x y top : Nat) (v8 : V) (vo la : Nat) (qs : List V) (i : Nat) : Prop where
  h0 : tget s.τ 0 = N x
  h1 : tget s.τ 1 = N y
  h8 : tget s.τ 8 = v8
  h9 : tget s.τ 9 = I (top : Nat)
  h10 : tget s.τ 10 = .ref ⟨0, 10, 0⟩ vo 0 la
  h10' : lget s.L (10, 0) = some (vo, .arr 1 qs)
  h12 : tget s.τ 12 = I (i : Nat)
theorem l52b {n k out} (x y top : Nat) (v8 : V) (vo la : Nat) (qs : List V) (i r q : Nat) (hq1 : y * q ≤ r) (hq2 : r < y * (q + 1)) (hr : few r) (hyf : few (y * 10000)) : ∀ d n' s, d < n' → q + d ≤ 9999 → D52 s x y top v8 vo la qs i → tget s.τ 11 = N r → tget s.τ 13 = I (q + d : Nat) → tget s.τ 14 = N (y * (q + d)) →
    (∀ s', D52 s' x y top v8 vo la qs i → tget s'.τ 11 = N r → tget s'.τ 13 = I (q : Nat) → tget s'.τ 14 = N (y * (q)) → Fin (M52 (hand T52) n) [.tmp 4, .tmp 5] (X (M52 (hand T52) n) (.exit 2) k s') = out) →
    Fin (M52 (hand T52) n) [.tmp 4, .tmp 5] (L (M52 (hand T52) n) (sub [1, 1, 1, 1, 1, 1, 1, 1, 0, 1, 0, 0, 1, 0, 0, 1, 1, 1, 0, 0, 0] c52) n' k s) = out := by
  intro d
  induction d with
  | zero =>
    intro n' s hn hd hD h11 h13 h14 hx
    obtain ⟨n', rfl⟩ : ∃ m, n' = m + 1 := ⟨n' - 1, by omega⟩
    obtain ⟨h0, h1, h8, h9, h10, h10', h12⟩ := hD
    have hle := hq1
    have e61 := F61_eq (few_le hle hr) hr
    have hc := cmp3_le hle
    rw [Nat.add_zero] at h13 h14
    rw [L_succ]
    simp only [vmr, vmw, vmp, vza, ↓reduceIte, Nat.reduceBEq, Nat.reduceLT, Nat.reduceAdd, Nat.reduceEqDiff, reduceCtorEq, vmt, vzb, vzc, vlen, vleaf, velems, oks, vst, vmd, ty, Nat.reduceLeDiff, Nat.reduceMul, Nat.reduceSub, c52, Tryz.f44, m52, h11, h14, e61, hc]
    refine hx _ ⟨?_, ?_, ?_, ?_, ?_, ?_, ?_⟩ ?_ ?_ ?_
    all_goals simp only [vmr, vmw, vmp, vza, ↓reduceIte, Nat.reduceBEq, Nat.reduceLT, Nat.reduceAdd, Nat.reduceEqDiff, reduceCtorEq, vmt, vzb, vzc, vlen, vleaf, velems, oks, vst, vmd, ty, Nat.reduceLeDiff, Nat.reduceMul, Nat.reduceSub, m52, h0, h1, h8, h9, h10, h10', h12, h11, h13, h14]
  | succ d ih =>
    intro n' s hn hd hD h11 h13 h14 hx
    obtain ⟨n', rfl⟩ : ∃ m, n' = m + 1 := ⟨n' - 1, by omega⟩
    obtain ⟨h0, h1, h8, h9, h10, h10', h12⟩ := hD
    have hgt : r < y * (q + (d + 1)) := by
      have h3 : y * (q + 1) ≤ y * (q + (d + 1)) := Nat.mul_le_mul_left _ (by omega)
      omega
    have hf : few (y * (q + (d + 1))) := few_le (Nat.mul_le_mul_left _ (by omega)) hyf
    have e61 := F61_eq hf hr
    have hc := cmp3_gt hgt
    have e85 := F85_eq (x := y * (q + (d + 1))) (y := y) (Nat.le_mul_of_pos_right _ (by omega)) hf
    have e1 : y * (q + (d + 1)) - y = y * (q + d) := by rw [show q + (d + 1) = (q + d) + 1 by omega, Nat.mul_add, Nat.mul_one, Nat.add_sub_cancel]
    rw [e1] at e85
    have ih := fun s => ih n' s (by omega) (by omega)
    have hw : IntKind.i64.wrap (((q + (d + 1) : Nat) : Int) - 1) = ((q + d : Nat) : Int) := by rw [wrap_id] <;> omega
    generalize q + (d + 1) = g at *
    generalize q + d = g' at *
    simp only [sub, c52, Tryz.f44, gets] at ih
    rw [L_succ]
    simp only [vmr, vmw, vmp, vza, ↓reduceIte, Nat.reduceBEq, Nat.reduceLT, Nat.reduceAdd, Nat.reduceEqDiff, reduceCtorEq, vmt, vzb, vzc, vlen, vleaf, velems, oks, vst, vmd, ty, Nat.reduceLeDiff, Nat.reduceMul, Nat.reduceSub, c52, Tryz.f44, m52, h1, h11, h13, h14, e61, hc, hw, e85, shI]
    refine ih _ ⟨?_, ?_, ?_, ?_, ?_, ?_, ?_⟩ ?_ ?_ ?_ hx
    all_goals simp only [vmr, vmw, vmp, vza, ↓reduceIte, Nat.reduceBEq, Nat.reduceLT, Nat.reduceAdd, Nat.reduceEqDiff, reduceCtorEq, vmt, vzb, vzc, vlen, vleaf, velems, oks, vst, vmd, ty, Nat.reduceLeDiff, Nat.reduceMul, Nat.reduceSub, m52, h0, h1, h8, h9, h10, h10', h12, h11, h13, h14]
end Go.Vi
