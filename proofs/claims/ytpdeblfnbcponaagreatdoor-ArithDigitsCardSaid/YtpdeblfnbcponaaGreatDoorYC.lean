/-
  Walks of ref.order, plus, minus, sum.
-/
import Derived.Test.YtpdeblfnbcponaaGreatDoorYB
set_option linter.unusedSimpArgs false
set_option linter.unusedVariables false
set_option maxRecDepth 100000
set_option maxHeartbeats 1000000
set_option exponentiation.threshold 256
namespace Go.Vi
open Go Go.Proofs

theorem b10 : 2 ≤ 10 := by omega
/-- Not too many digits. -/
abbrev short (n : Nat) : Prop := n < 10 ^ 2000
theorem short_len {n : Nat} (h : short n) : (lm 10 n).length ≤ 2000 := (lm_len_le b10 n 2000).2 h
def F64P (H : FuncId → Option (List V → Option V)) (n : Nat) (v : V) (r : Option (Ex × St)) : Prop := Fin (M64 H n) [.tmp 4] r = some (.ret v)
theorem l64 {H n k} (x y : Nat) (hl : (lm 10 x).length = (lm 10 y).length) (hb : (lm 10 x).length ≤ 2000) : ∀ i n' s, i ≤ (lm 10 x).length → i < n' → tget s.τ 0 = D x → tget s.τ 1 = D y → tget s.τ 5 = I ((i : Int) - 1) → 
    (∀ s', F64P H n (I 0) (X (M64 H n) (.exit 0) k s')) →
    F64P H n (I (cmp3 (x % 10 ^ i) (y % 10 ^ i))) (L (M64 H n) (sub [1, 1, 0, 1, 0, 0] c64) n' k s)
  | 0, n' + 1, s, hi, hn, h0, h1, h5, hx => by
    have e5 : (((0 : Nat) : Int) - 1) = -1 := rfl
    rw [e5] at h5
    have hc : ((-1 : Int) ≥ 0) = False := by decide
    have hz : cmp3 (x % 10 ^ 0) (y % 10 ^ 0) = 0 := by simp [cmp3, Nat.mod_one]
    rw [L_succ, hz]
    simp only [vmr, vmw, vmp, vza, ↓reduceIte, Nat.reduceBEq, Nat.reduceLT, Nat.reduceAdd, Nat.reduceEqDiff, reduceCtorEq, vmt, vzb, vzc, vlen, vleaf, velems, oks, vst, vmd, ty, Nat.reduceLeDiff, Nat.reduceMul, Nat.reduceSub, c64, Tryz.f51, m64, h5, hc]
    exact hx _
  | i + 1, n' + 1, s, hi, hn, h0, h1, h5, hx => by
    have e5 : (((i + 1 : Nat) : Int) - 1) = (i : Int) := by omega
    rw [e5] at h5
    have hgx : ((lm 10 x).map I)[i]? = some (I ((x / 10 ^ i % 10 : Nat) : Int)) := by simp [lm_get b10 x i (by omega)]
    have hgy : ((lm 10 y).map I)[i]? = some (I ((y / 10 ^ i % 10 : Nat) : Int)) := by simp [lm_get b10 y i (by omega)]
    have hix : ((i : Int) < ((lm 10 x).length : Int)) = True := eq_true (by omega)
    have hiy : ((i : Int) < ((lm 10 y).length : Int)) = True := eq_true (by omega)
    have hw : IntKind.i64.wrap ((i : Int) - 1) = (i : Int) - 1 := by rw [wrap_id] <;> omega
    have hs : calm (M64 H n).E (opsAt (sub [1, 1, 0, 1, 0, 0, 1, 0, 0, 0, 0] c64)) = true := by kernel_rfl
    have hs2 : calm (M64 H n).E (opsAt (sub [1, 1, 0, 1, 0, 0, 1, 0, 0, 1, 0] c64)) = true := by kernel_rfl
    have ih := fun s => l64 (H := H) (n := n) (k := k) x y hl hb i n' s (by omega) (by omega)
    have hcd := cmp_digit b10 x y i
    generalize x / 10 ^ i % 10 = a at *
    generalize y / 10 ^ i % 10 = b at *
    rw [hcd]
    simp only [sub, c64, Tryz.f51, gets, opsAt] at hs hs2 ih
    rw [L_succ]
    by_cases q : a < b
    · have c1 : ((a : Int) < (b : Int)) = True := eq_true (by omega)
      rw [if_neg (by omega), show cmp3 a b = -1 by unfold cmp3; rw [if_pos q]]
      simp only [vmr, vmw, vmp, vza, ↓reduceIte, Nat.reduceBEq, Nat.reduceLT, Nat.reduceAdd, Nat.reduceEqDiff, reduceCtorEq, vmt, vzb, vzc, vlen, vleaf, velems, oks, vst, vmd, ty, Nat.reduceLeDiff, Nat.reduceMul, Nat.reduceSub, c64, Tryz.f51, m64, h0, h1, h5, hgx, hgy, hix, hiy, hw, hs, c1]
      unfold F64P
      simp only [vmr, vmw, vmp, vza, ↓reduceIte, Nat.reduceBEq, Nat.reduceLT, Nat.reduceAdd, Nat.reduceEqDiff, reduceCtorEq, vmt, vzb, vzc, vlen, vleaf, velems, oks, vst, vmd, ty, Nat.reduceLeDiff, Nat.reduceMul, Nat.reduceSub, vzr, m64]
    · have c1 : ((a : Int) < (b : Int)) = False := eq_false (by omega)
      by_cases q2 : a > b
      · have c2 : ((a : Int) > (b : Int)) = True := eq_true (by omega)
        rw [if_neg (by omega), show cmp3 a b = 1 by unfold cmp3; rw [if_neg (by omega), if_neg (by omega)]]
        simp only [vmr, vmw, vmp, vza, ↓reduceIte, Nat.reduceBEq, Nat.reduceLT, Nat.reduceAdd, Nat.reduceEqDiff, reduceCtorEq, vmt, vzb, vzc, vlen, vleaf, velems, oks, vst, vmd, ty, Nat.reduceLeDiff, Nat.reduceMul, Nat.reduceSub, c64, Tryz.f51, m64, h0, h1, h5, hgx, hgy, hix, hiy, hw, hs, hs2, c1, c2]
        unfold F64P
        simp only [vmr, vmw, vmp, vza, ↓reduceIte, Nat.reduceBEq, Nat.reduceLT, Nat.reduceAdd, Nat.reduceEqDiff, reduceCtorEq, vmt, vzb, vzc, vlen, vleaf, velems, oks, vst, vmd, ty, Nat.reduceLeDiff, Nat.reduceMul, Nat.reduceSub, vzr, m64]
      · have c2 : ((a : Int) > (b : Int)) = False := eq_false (by omega)
        rw [if_pos (by omega)]
        simp only [vmr, vmw, vmp, vza, ↓reduceIte, Nat.reduceBEq, Nat.reduceLT, Nat.reduceAdd, Nat.reduceEqDiff, reduceCtorEq, vmt, vzb, vzc, vlen, vleaf, velems, oks, vst, vmd, ty, Nat.reduceLeDiff, Nat.reduceMul, Nat.reduceSub, c64, Tryz.f51, m64, h0, h1, h5, hgx, hgy, hix, hiy, hw, hs, hs2, c1, c2]
        refine ih _ ?_ ?_ ?_ hx
        all_goals simp only [vmr, vmw, vmp, vza, ↓reduceIte, Nat.reduceBEq, Nat.reduceLT, Nat.reduceAdd, Nat.reduceEqDiff, reduceCtorEq, vmt, vzb, vzc, vlen, vleaf, velems, oks, vst, vmd, ty, Nat.reduceLeDiff, Nat.reduceMul, Nat.reduceSub, m64, h0, h1, hw]
theorem w64r (x y : Nat) (hx : short x) (hy : short y) : SoundPure Tryz.prog 51 [D x, D y] (.ret (I (cmp3 x y))) := by
  have hlx := short_len hx
  have hly := short_len hy
  refine s64 (H := []) sound_nil ((lm 10 x).length + 2) (by simp) rfl ?_
  show F64P (hand []) _ _ _
  have bx := lm_lt b10 x
  have bY := lm_lt b10 y
  by_cases hl : (lm 10 x).length = (lm 10 y).length
  · have q : (((lm 10 x).length : Int) != ((lm 10 y).length : Int)) = false := by simp [hl]
    have hw : IntKind.i64.wrap (((lm 10 x).length : Int) - 1) = ((lm 10 x).length : Int) - 1 := by rw [wrap_id] <;> omega
    have a1 := fun k s => @l64 (hand []) ((lm 10 x).length + 2) k x y hl hlx (lm 10 x).length ((lm 10 x).length + 2) s (by omega) (by omega)
    rw [Nat.mod_eq_of_lt bx, Nat.mod_eq_of_lt (by rw [hl]; exact bY)] at a1
    simp only [sub, c64, Tryz.f51, gets] at a1 ⊢
    simp only [vmr, vmw, vmp, vza, ↓reduceIte, Nat.reduceBEq, Nat.reduceLT, Nat.reduceAdd, Nat.reduceEqDiff, reduceCtorEq, vmt, vzb, vzc, vlen, vleaf, velems, oks, vst, vmd, ty, Nat.reduceLeDiff, Nat.reduceMul, Nat.reduceSub, m64, q, hw]
    refine a1 _ _ ?_ ?_ ?_ (fun s' => ?_)
    case refine_4 => simp only [vmr, vmw, vmp, vza, ↓reduceIte, Nat.reduceBEq, Nat.reduceLT, Nat.reduceAdd, Nat.reduceEqDiff, reduceCtorEq, vmt, vzb, vzc, vlen, vleaf, velems, oks, vst, vmd, ty, Nat.reduceLeDiff, Nat.reduceMul, Nat.reduceSub, m64]; unfold F64P; simp only [vmr, vmw, vmp, vza, ↓reduceIte, Nat.reduceBEq, Nat.reduceLT, Nat.reduceAdd, Nat.reduceEqDiff, reduceCtorEq, vmt, vzb, vzc, vlen, vleaf, velems, oks, vst, vmd, ty, Nat.reduceLeDiff, Nat.reduceMul, Nat.reduceSub, vzr, m64]
    all_goals simp only [vmr, vmw, vmp, vza, ↓reduceIte, Nat.reduceBEq, Nat.reduceLT, Nat.reduceAdd, Nat.reduceEqDiff, reduceCtorEq, vmt, vzb, vzc, vlen, vleaf, velems, oks, vst, vmd, ty, Nat.reduceLeDiff, Nat.reduceMul, Nat.reduceSub, m64]
  · have q : (((lm 10 x).length : Int) != ((lm 10 y).length : Int)) = true := by simp; omega
    simp only [c64, Tryz.f51, gets]
    by_cases h1 : (lm 10 x).length < (lm 10 y).length
    · have c1 : (((lm 10 x).length : Int) < ((lm 10 y).length : Int)) = True := eq_true (by omega)
      have h2 : ¬ y < 10 ^ (lm 10 x).length := fun h3 => by
        have := (lm_len_le b10 y (lm 10 x).length).2 h3
        omega
      rw [show cmp3 x y = -1 by unfold cmp3; rw [if_pos (by omega)]]
      simp only [vmr, vmw, vmp, vza, ↓reduceIte, Nat.reduceBEq, Nat.reduceLT, Nat.reduceAdd, Nat.reduceEqDiff, reduceCtorEq, vmt, vzb, vzc, vlen, vleaf, velems, oks, vst, vmd, ty, Nat.reduceLeDiff, Nat.reduceMul, Nat.reduceSub, m64, q, c1]
      unfold F64P
      simp only [vmr, vmw, vmp, vza, ↓reduceIte, Nat.reduceBEq, Nat.reduceLT, Nat.reduceAdd, Nat.reduceEqDiff, reduceCtorEq, vmt, vzb, vzc, vlen, vleaf, velems, oks, vst, vmd, ty, Nat.reduceLeDiff, Nat.reduceMul, Nat.reduceSub, vzr, m64]
    · have c1 : (((lm 10 x).length : Int) < ((lm 10 y).length : Int)) = False := eq_false (by omega)
      have h2 : ¬ x < 10 ^ (lm 10 y).length := fun h3 => by
        have := (lm_len_le b10 x (lm 10 y).length).2 h3
        omega
      rw [show cmp3 x y = 1 by unfold cmp3; rw [if_neg (by omega), if_neg (by omega)]]
      simp only [vmr, vmw, vmp, vza, ↓reduceIte, Nat.reduceBEq, Nat.reduceLT, Nat.reduceAdd, Nat.reduceEqDiff, reduceCtorEq, vmt, vzb, vzc, vlen, vleaf, velems, oks, vst, vmd, ty, Nat.reduceLeDiff, Nat.reduceMul, Nat.reduceSub, m64, q, c1]
      unfold F64P
      simp only [vmr, vmw, vmp, vza, ↓reduceIte, Nat.reduceBEq, Nat.reduceLT, Nat.reduceAdd, Nat.reduceEqDiff, reduceCtorEq, vmt, vzb, vzc, vlen, vleaf, velems, oks, vst, vmd, ty, Nat.reduceLeDiff, Nat.reduceMul, Nat.reduceSub, vzr, m64]
noncomputable def F64 : List V → Option V := hF (α := Nat × Nat) (fun a => [D a.1, D a.2]) (fun a => short a.1 ∧ short a.2) (fun a => I (cmp3 a.1 a.2))
theorem D_inj {n m : Nat} (h : D n = D m) : n = m := lm_inj (by omega) (Is_inj h)
theorem canD (n : Nat) : can (D n) = D n := canIs _
theorem two_D : ∀ a b : Nat × Nat, ([D a.1, D a.2] : List V) = [D b.1, D b.2] → a = b := two_inj (fun _ _ => D_inj) (fun _ _ => D_inj)
theorem F64_eq {x y : Nat} (h : short x) (hb : short y) : F64 [D x, D y] = some (I (cmp3 x y)) := hF_eq (a := (x, y)) two_D (by simp only [cans, canD]) ⟨h, hb⟩
theorem n10z : ((10 : Int) = 0) = False := by decide
theorem l89 {H n k} (x y : Nat) (hx : short x) (hy : short y) {P : Option (Ex × St) → Prop} : ∀ d i vr n' s, i + d = max (lm 10 x).length (lm 10 y).length + 1 → d < n' → tget s.τ 0 = D x → tget s.τ 1 = D y →
    tget s.τ 5 = .ref ⟨0, 5, 0⟩ vr 0 i → lget s.L (5, 0) = some (vr, .arr 1 ((fx 10 i (x + y)).map I)) → tget s.τ 6 = I ((x % 10 ^ i + y % 10 ^ i) / 10 ^ i : Nat) → tget s.τ 7 = I (i : Nat) → (i = 0 ∨ 10 ^ (i - 1) ≤ x + y) →
    (∀ s' vr, tget s'.τ 5 = .ref ⟨0, 5, 0⟩ vr 0 (lm 10 (x + y)).length → lget s'.L (5, 0) = some (vr, .arr 1 ((lm 10 (x + y)).map I)) → P (X (M89 H n) (.exit 0) k s')) →
    P (L (M89 H n) (sub [1, 1, 1, 0, 1, 0, 0] c89) n' k s) := by
  have hlx := short_len hx
  have hly := short_len hy
  intro d
  induction d with
  | zero =>
    intro i vr n' s hi hn h0 h1 h5 h5' h6 h7 hj hq
    obtain ⟨n', rfl⟩ : ∃ m, n' = m + 1 := ⟨n' - 1, by omega⟩
    have a1 : x < 10 ^ (i - 1) := (lm_len_le b10 x _).1 (by omega)
    have a2 : y < 10 ^ (i - 1) := (lm_len_le b10 y _).1 (by omega)
    have a3 : 10 ^ (i - 1) ≤ 10 ^ i := Nat.pow_le_pow_right (by omega) (by omega)
    have a4 : x + y < 10 ^ i := by
      obtain ⟨j, rfl⟩ : ∃ j, i = j + 1 := ⟨i - 1, by omega⟩
      rw [Nat.pow_succ]
      simp only [Nat.add_sub_cancel] at a1 a2
      omega
    have hz : (x % 10 ^ i + y % 10 ^ i) / 10 ^ i = 0 := by
      rw [Nat.mod_eq_of_lt (by omega), Nat.mod_eq_of_lt (by omega)]
      exact Nat.div_eq_of_lt a4
    have he : fx 10 i (x + y) = lm 10 (x + y) := lm_of b10 a4 (by omega)
    have hel : i = (lm 10 (x + y)).length := by rw [← he, fx_len]
    rw [he] at h5'
    rw [hz] at h6
    have q1 : ((i : Int) < ((lm 10 x).length : Int)) = False := eq_false (by omega)
    have q2 : ((i : Int) < ((lm 10 y).length : Int)) = False := eq_false (by omega)
    have q3 : (((0 : Nat) : Int) > 0) = False := by decide
    rw [L_succ]
    simp only [vmr, vmw, vmp, vza, ↓reduceIte, Nat.reduceBEq, Nat.reduceLT, Nat.reduceAdd, Nat.reduceEqDiff, reduceCtorEq, vmt, vzb, vzc, vlen, vleaf, velems, oks, vst, vmd, ty, Nat.reduceLeDiff, Nat.reduceMul, Nat.reduceSub, c89, Tryz.f38, m89, h0, h1, h6, h7, q1, q2, q3]
    refine hq _ vr ?_ ?_
    all_goals simp only [vmr, vmw, vmp, vza, ↓reduceIte, Nat.reduceBEq, Nat.reduceLT, Nat.reduceAdd, Nat.reduceEqDiff, reduceCtorEq, vmt, vzb, vzc, vlen, vleaf, velems, oks, vst, vmd, ty, Nat.reduceLeDiff, Nat.reduceMul, Nat.reduceSub, m89, h5, h5', ← hel]
  | succ d ih =>
    intro i vr n' s hi hn h0 h1 h5 h5' h6 h7 hj hq
    obtain ⟨n', rfl⟩ : ∃ m, n' = m + 1 := ⟨n' - 1, by omega⟩
    have hcar := add_carry b10 x y i
    by_cases hex : max (lm 10 x).length (lm 10 y).length ≤ i ∧ (x % 10 ^ i + y % 10 ^ i) / 10 ^ i = 0
    · obtain ⟨hle, hz⟩ := hex
      have a1 : x < 10 ^ i := (lm_len_le b10 x _).1 (by omega)
      have a2 : y < 10 ^ i := (lm_len_le b10 y _).1 (by omega)
      have hend := add_end b10 a1 a2 hz
      have he : fx 10 i (x + y) = lm 10 (x + y) := by
        rcases hj with rfl | hj
        · have : x + y = 0 := by simp at hend; omega
          rw [this]; rfl
        · exact lm_of b10 hend hj
      have hel : i = (lm 10 (x + y)).length := by rw [← he, fx_len]
      rw [he] at h5'
      rw [hz] at h6
      have q1 : ((i : Int) < ((lm 10 x).length : Int)) = False := eq_false (by omega)
      have q2 : ((i : Int) < ((lm 10 y).length : Int)) = False := eq_false (by omega)
      have q3 : (((0 : Nat) : Int) > 0) = False := by decide
      rw [L_succ]
      simp only [vmr, vmw, vmp, vza, ↓reduceIte, Nat.reduceBEq, Nat.reduceLT, Nat.reduceAdd, Nat.reduceEqDiff, reduceCtorEq, vmt, vzb, vzc, vlen, vleaf, velems, oks, vst, vmd, ty, Nat.reduceLeDiff, Nat.reduceMul, Nat.reduceSub, c89, Tryz.f38, m89, h0, h1, h6, h7, q1, q2, q3]
      refine hq _ vr ?_ ?_
      all_goals simp only [vmr, vmw, vmp, vza, ↓reduceIte, Nat.reduceBEq, Nat.reduceLT, Nat.reduceAdd, Nat.reduceEqDiff, reduceCtorEq, vmt, vzb, vzc, vlen, vleaf, velems, oks, vst, vmd, ty, Nat.reduceLeDiff, Nat.reduceMul, Nat.reduceSub, m89, h5, h5', ← hel]
    · obtain ⟨g1, g2⟩ := add_digit b10 x y i
      have hsn := fx_snoc 10 i (x + y)
      rw [← g1] at hsn
      have hbig : 10 ^ i ≤ x + y := by
        by_cases e1 : i < (lm 10 x).length
        · have := mt (lm_len_le b10 x i).2 (by omega); omega
        · by_cases e2 : i < (lm 10 y).length
          · have := mt (lm_len_le b10 y i).2 (by omega); omega
          · have h3 : (x % 10 ^ i + y % 10 ^ i) / 10 ^ i ≠ 0 := fun h => hex ⟨by omega, h⟩
            have h4 := Nat.mod_le x (10 ^ i)
            have h5 := Nat.mod_le y (10 ^ i)
            have h6 : 10 ^ i ≤ x % 10 ^ i + y % 10 ^ i := by
              rcases Nat.lt_or_ge (x % 10 ^ i + y % 10 ^ i) (10 ^ i) with h7 | h7
              · exact absurd (Nat.div_eq_of_lt h7) h3
              · exact h7
            omega
      have ih := fun vr s => ih (i + 1) vr n' s (by omega) (by omega)
      rw [← g2] at ih
      have d1 := Nat.mod_lt (x / 10 ^ i) (show 0 < 10 by omega)
      have d2 := Nat.mod_lt (y / 10 ^ i) (show 0 < 10 by omega)
      have gx : i < (lm 10 x).length → ((lm 10 x).map I)[i]? = some (I ((x / 10 ^ i % 10 : Nat) : Int)) := fun h => by simp [lm_get b10 x i h]
      have gy : i < (lm 10 y).length → ((lm 10 y).map I)[i]? = some (I ((y / 10 ^ i % 10 : Nat) : Int)) := fun h => by simp [lm_get b10 y i h]
      have zx : ¬ i < (lm 10 x).length → x / 10 ^ i % 10 = 0 := fun h => by
        rw [Nat.div_eq_of_lt ((lm_len_le b10 x i).1 (by omega))]
      have zy : ¬ i < (lm 10 y).length → y / 10 ^ i % 10 = 0 := fun h => by
        rw [Nat.div_eq_of_lt ((lm_len_le b10 y i).1 (by omega))]
      have hw := wsucc9' (i := i) (by omega)
      have hcz : ¬ i < (lm 10 x).length → ¬ i < (lm 10 y).length → (x % 10 ^ i + y % 10 ^ i) / 10 ^ i ≠ 0 := fun h1 h2 h => hex ⟨by omega, h⟩
      generalize x / 10 ^ i % 10 = A at *
      generalize y / 10 ^ i % 10 = B at *
      generalize (x % 10 ^ i + y % 10 ^ i) / 10 ^ i = c at *
      have wA : IntKind.i64.wrap ((c : Int) + (A : Int)) = ((c + A : Nat) : Int) := by rw [wrap_id] <;> omega
      have wB : IntKind.i64.wrap ((c : Int) + (B : Int)) = ((c + B : Nat) : Int) := by rw [wrap_id] <;> omega
      have wAB : IntKind.i64.wrap (((c + A : Nat) : Int) + (B : Int)) = ((c + A + B : Nat) : Int) := by rw [wrap_id] <;> omega
      have td : ∀ q : Nat, q ≤ 100 → IntKind.i64.wrap (Int.tdiv (q : Int) 10) = ((q / 10 : Nat) : Int) := fun q hq => by
        rw [show Int.tdiv (q : Int) 10 = ((q / 10 : Nat) : Int) from rfl, wrap_id] <;> omega
      have tm : ∀ q : Nat, Int.tmod (q : Int) 10 = ((q % 10 : Nat) : Int) := fun q => rfl
      have hr1 := @room3 1 (by omega)
      have hr2 := @room3 (i + 1) (by omega)
      simp only [sub, c89, Tryz.f38, gets] at ih
      rw [L_succ]
      by_cases px : i < (lm 10 x).length
      · have q1 : ((i : Int) < ((lm 10 x).length : Int)) = True := eq_true (by omega)
        have gx := gx px
        by_cases py : i < (lm 10 y).length
        · have q2 : ((i : Int) < ((lm 10 y).length : Int)) = True := eq_true (by omega)
          have gy := gy py
          have t1 := td (c + A + B) (by omega)
          have t2 := tm (c + A + B)
          simp only [vmr, vmw, vmp, vza, ↓reduceIte, Nat.reduceBEq, Nat.reduceLT, Nat.reduceAdd, Nat.reduceEqDiff, reduceCtorEq, vmt, vzb, vzc, vlen, vleaf, velems, oks, vst, vmd, ty, Nat.reduceLeDiff, Nat.reduceMul, Nat.reduceSub, c89, Tryz.f38, m89, h0, h1, h5, h5', h6, h7, q1, q2, wA, wAB, gx, gy, t1, t2, hw, hr1, hr2, n10z, fitsI, fx_len, List.map_cons]
          refine ih (s.c + 1 + 1) _ ?_ ?_ ?_ ?_ ?_ ?_ (.inr hbig) hq
          all_goals simp only [vmr, vmw, vmp, vza, ↓reduceIte, Nat.reduceBEq, Nat.reduceLT, Nat.reduceAdd, Nat.reduceEqDiff, reduceCtorEq, vmt, vzb, vzc, vlen, vleaf, velems, oks, vst, vmd, ty, Nat.reduceLeDiff, Nat.reduceMul, Nat.reduceSub, m89, h0, h1, hsn, t1, t2, hw, List.map_append, List.map_cons, List.length_append, fx_len]
        · have q2 : ((i : Int) < ((lm 10 y).length : Int)) = False := eq_false (by omega)
          have zy := zy py
          subst zy
          rw [Nat.add_zero] at hsn ih
          have t1 := td (c + A) (by omega)
          have t2 := tm (c + A)
          simp only [vmr, vmw, vmp, vza, ↓reduceIte, Nat.reduceBEq, Nat.reduceLT, Nat.reduceAdd, Nat.reduceEqDiff, reduceCtorEq, vmt, vzb, vzc, vlen, vleaf, velems, oks, vst, vmd, ty, Nat.reduceLeDiff, Nat.reduceMul, Nat.reduceSub, c89, Tryz.f38, m89, h0, h1, h5, h5', h6, h7, q1, q2, wA, gx, t1, t2, hw, hr1, hr2, n10z, fitsI, fx_len, List.map_cons]
          refine ih (s.c + 1 + 1) _ ?_ ?_ ?_ ?_ ?_ ?_ (.inr hbig) hq
          all_goals simp only [vmr, vmw, vmp, vza, ↓reduceIte, Nat.reduceBEq, Nat.reduceLT, Nat.reduceAdd, Nat.reduceEqDiff, reduceCtorEq, vmt, vzb, vzc, vlen, vleaf, velems, oks, vst, vmd, ty, Nat.reduceLeDiff, Nat.reduceMul, Nat.reduceSub, m89, h0, h1, hsn, t1, t2, hw, List.map_append, List.map_cons, List.length_append, fx_len]
      · have q1 : ((i : Int) < ((lm 10 x).length : Int)) = False := eq_false (by omega)
        have zx := zx px
        by_cases py : i < (lm 10 y).length
        · have q2 : ((i : Int) < ((lm 10 y).length : Int)) = True := eq_true (by omega)
          have gy := gy py
          subst zx
          rw [Nat.add_zero] at hsn ih
          have t1 := td (c + B) (by omega)
          have t2 := tm (c + B)
          simp only [vmr, vmw, vmp, vza, ↓reduceIte, Nat.reduceBEq, Nat.reduceLT, Nat.reduceAdd, Nat.reduceEqDiff, reduceCtorEq, vmt, vzb, vzc, vlen, vleaf, velems, oks, vst, vmd, ty, Nat.reduceLeDiff, Nat.reduceMul, Nat.reduceSub, c89, Tryz.f38, m89, h0, h1, h5, h5', h6, h7, q1, q2, wB, gy, t1, t2, hw, hr1, hr2, n10z, fitsI, fx_len, List.map_cons]
          refine ih (s.c + 1 + 1) _ ?_ ?_ ?_ ?_ ?_ ?_ (.inr hbig) hq
          all_goals simp only [vmr, vmw, vmp, vza, ↓reduceIte, Nat.reduceBEq, Nat.reduceLT, Nat.reduceAdd, Nat.reduceEqDiff, reduceCtorEq, vmt, vzb, vzc, vlen, vleaf, velems, oks, vst, vmd, ty, Nat.reduceLeDiff, Nat.reduceMul, Nat.reduceSub, m89, h0, h1, hsn, t1, t2, hw, List.map_append, List.map_cons, List.length_append, fx_len]
        · have q2 : ((i : Int) < ((lm 10 y).length : Int)) = False := eq_false (by omega)
          have zy := zy py
          subst zx
          subst zy
          rw [Nat.add_zero, Nat.add_zero] at hsn ih
          have q3 : ((c : Int) > 0) = True := eq_true (by have := hcz px py; omega)
          have t1 := td (c) (by omega)
          have t2 := tm (c)
          simp only [vmr, vmw, vmp, vza, ↓reduceIte, Nat.reduceBEq, Nat.reduceLT, Nat.reduceAdd, Nat.reduceEqDiff, reduceCtorEq, vmt, vzb, vzc, vlen, vleaf, velems, oks, vst, vmd, ty, Nat.reduceLeDiff, Nat.reduceMul, Nat.reduceSub, c89, Tryz.f38, m89, h0, h1, h5, h5', h6, h7, q1, q2, q3, q3, t1, t2, hw, hr1, hr2, n10z, fitsI, fx_len, List.map_cons]
          refine ih (s.c + 1 + 1) _ ?_ ?_ ?_ ?_ ?_ ?_ (.inr hbig) hq
          all_goals simp only [vmr, vmw, vmp, vza, ↓reduceIte, Nat.reduceBEq, Nat.reduceLT, Nat.reduceAdd, Nat.reduceEqDiff, reduceCtorEq, vmt, vzb, vzc, vlen, vleaf, velems, oks, vst, vmd, ty, Nat.reduceLeDiff, Nat.reduceMul, Nat.reduceSub, m89, h0, h1, hsn, t1, t2, hw, List.map_append, List.map_cons, List.length_append, fx_len]
end Go.Vi
set_option maxRecDepth 100000
set_option maxHeartbeats 1000000
set_option exponentiation.threshold 256
namespace Go.Vi
open Go Go.Proofs

def F89P (H : FuncId → Option (List V → Option V)) (n : Nat) (v : V) (r : Option (Ex × St)) : Prop := Fin (M89 H n) [.tmp 4] r = some (.ret v)
theorem k89 (x y : Nat) (hx : short x) (hy : short y) : SoundPure Tryz.prog 38 [D x, D y] (.ret (.own 1 ((lm 10 (x + y)).map I))) := by
  have hlx := short_len hx
  have hly := short_len hy
  refine s89 (H := []) sound_nil (max (lm 10 x).length (lm 10 y).length + 2) (by simp) (by simp only [pureR, pureLI]) ?_
  show F89P (hand []) _ _ _
  have a1 := fun k vr s => @l89 (hand []) (max (lm 10 x).length (lm 10 y).length + 2) k x y hx hy (F89P (hand []) (max (lm 10 x).length (lm 10 y).length + 2) (.own 1 ((lm 10 (x + y)).map I))) (max (lm 10 x).length (lm 10 y).length + 1) 0 vr (max (lm 10 x).length (lm 10 y).length + 2) s (by omega) (by omega)
  have hr0 := @room3 0 (by omega)
  simp only [sub, c89, Tryz.f38, gets] at a1 ⊢
  simp only [vmr, vmw, vmp, vza, ↓reduceIte, Nat.reduceBEq, Nat.reduceLT, Nat.reduceAdd, Nat.reduceEqDiff, reduceCtorEq, vmt, vzb, vzc, vlen, vleaf, velems, oks, vst, vmd, ty, Nat.reduceLeDiff, Nat.reduceMul, Nat.reduceSub, m89, hr0, List.map_nil, fitsI]
  refine a1 _ 1 _ ?_ ?_ ?_ ?_ ?_ ?_ (.inl trivial) (fun s' vr h5 h5' => ?_)
  case refine_7 =>
    have ht : List.take (lm 10 (x + y)).length ((lm 10 (x + y)).map I) = (lm 10 (x + y)).map I := take_of _ rfl
    unfold F89P
    simp only [vmr, vmw, vmp, vza, ↓reduceIte, Nat.reduceBEq, Nat.reduceLT, Nat.reduceAdd, Nat.reduceEqDiff, reduceCtorEq, vmt, vzb, vzc, vlen, vleaf, velems, oks, vst, vmd, ty, Nat.reduceLeDiff, Nat.reduceMul, Nat.reduceSub, vzr, m89, h5, h5', allflatI, pureLI, shI, ht]
  all_goals simp only [vmr, vmw, vmp, vza, ↓reduceIte, Nat.reduceBEq, Nat.reduceLT, Nat.reduceAdd, Nat.reduceEqDiff, reduceCtorEq, vmt, vzb, vzc, vlen, vleaf, velems, oks, vst, vmd, ty, Nat.reduceLeDiff, Nat.reduceMul, Nat.reduceSub, m89, fx0, List.map_nil, Nat.pow_zero, Nat.mod_one]
  all_goals rfl
theorem w89 (x y : Nat) (hx : short x) (hy : short y) : SoundPure Tryz.prog 38 [D x, D y] (.ret (D (x + y))) := by
  have := sound_imm (k89 x y hx hy) (by simp only [pureR, pureLI])
  simp only [imm, can, cans_I] at this
  exact this
noncomputable def F89 : List V → Option V := hF (α := Nat × Nat) (fun a => [D a.1, D a.2]) (fun a => short a.1 ∧ short a.2) (fun a => D (a.1 + a.2))
theorem F89_eq {x y : Nat} (h : short x) (hb : short y) : F89 [D x, D y] = some (D (x + y)) := hF_eq (a := (x, y)) two_D (by simp only [cans, canD]) ⟨h, hb⟩
/-! ### minus -/
theorem l87 {H n k} (x y : Nat) (hxy : y ≤ x) (hx : short x) {P : Option (Ex × St) → Prop} : ∀ d i vr n' s, i + d = (lm 10 x).length → d < n' → tget s.τ 0 = D x → tget s.τ 1 = D y →
    tget s.τ 5 = .ref ⟨0, 5, 0⟩ vr 0 i → lget s.L (5, 0) = some (vr, .arr 1 ((fx 10 i (x - y)).map I)) → tget s.τ 6 = I (bor 10 x y i : Nat) → tget s.τ 7 = I (i : Nat) →
    (∀ s' vr, tget s'.τ 5 = .ref ⟨0, 5, 0⟩ vr 0 (lm 10 x).length → lget s'.L (5, 0) = some (vr, .arr 1 ((fx 10 (lm 10 x).length (x - y)).map I)) → P (X (M87 H n) (.exit 0) k s')) →
    P (L (M87 H n) (sub [1, 1, 1, 0, 1, 0, 0] c87) n' k s) := by
  have hlx := short_len hx
  intro d
  induction d with
  | zero =>
    intro i vr n' s hi hn h0 h1 h5 h5' h6 h7 hq
    obtain ⟨n', rfl⟩ : ∃ m, n' = m + 1 := ⟨n' - 1, by omega⟩
    obtain rfl : i = (lm 10 x).length := by omega
    have q1 : (((lm 10 x).length : Int) < ((lm 10 x).length : Int)) = False := eq_false (by omega)
    rw [L_succ]
    simp only [vmr, vmw, vmp, vza, ↓reduceIte, Nat.reduceBEq, Nat.reduceLT, Nat.reduceAdd, Nat.reduceEqDiff, reduceCtorEq, vmt, vzb, vzc, vlen, vleaf, velems, oks, vst, vmd, ty, Nat.reduceLeDiff, Nat.reduceMul, Nat.reduceSub, c87, Tryz.f52, m87, h0, h7, q1]
    refine hq _ vr ?_ ?_
    all_goals simp only [vmr, vmw, vmp, vza, ↓reduceIte, Nat.reduceBEq, Nat.reduceLT, Nat.reduceAdd, Nat.reduceEqDiff, reduceCtorEq, vmt, vzb, vzc, vlen, vleaf, velems, oks, vst, vmd, ty, Nat.reduceLeDiff, Nat.reduceMul, Nat.reduceSub, m87, h5, h5']
  | succ d ih =>
    intro i vr n' s hi hn h0 h1 h5 h5' h6 h7 hq
    obtain ⟨n', rfl⟩ : ∃ m, n' = m + 1 := ⟨n' - 1, by omega⟩
    have q1 : ((i : Int) < ((lm 10 x).length : Int)) = True := eq_true (by omega)
    have d1 := Nat.mod_lt (x / 10 ^ i) (show 0 < 10 by omega)
    have d2 := Nat.mod_lt (y / 10 ^ i) (show 0 < 10 by omega)
    have hbor : bor 10 x y i ≤ 1 := by unfold bor; split <;> omega
    obtain ⟨sd1, sd2⟩ := sub_digit b10 hxy i
    have hsn := fx_snoc 10 i (x - y)
    have ih := fun vr s => ih (i + 1) vr n' s (by omega) (by omega)
    have gx : ((lm 10 x).map I)[i]? = some (I ((x / 10 ^ i % 10 : Nat) : Int)) := by simp [lm_get b10 x i (by omega)]
    have gy : i < (lm 10 y).length → ((lm 10 y).map I)[i]? = some (I ((y / 10 ^ i % 10 : Nat) : Int)) := fun h => by simp [lm_get b10 y i h]
    have zy : ¬ i < (lm 10 y).length → y / 10 ^ i % 10 = 0 := fun h => by
      rw [Nat.div_eq_of_lt ((lm_len_le b10 y i).1 (by omega))]
    have hw := wsucc9' (i := i) (by omega)
    generalize x / 10 ^ i % 10 = A at *
    generalize y / 10 ^ i % 10 = B at *
    generalize bor 10 x y i = c at *
    have w1 : IntKind.i64.wrap ((A : Int) - (c : Nat)) = (A : Int) - (c : Nat) := by rw [wrap_id] <;> omega
    have w2 : IntKind.i64.wrap ((A : Int) - (c : Nat) - (B : Int)) = (A : Int) - (B : Int) - (c : Nat) := by rw [wrap_id] <;> omega
    have w3 : IntKind.i64.wrap ((A : Int) - (B : Int) - (c : Nat) + 10) = (A : Int) - (B : Int) - (c : Nat) + 10 := by rw [wrap_id] <;> omega
    have hr1 := @room3 1 (by omega)
    have hr2 := @room3 (i + 1) (by omega)
    simp only [sub, c87, Tryz.f52, gets] at ih
    rw [L_succ]
    by_cases py : i < (lm 10 y).length
    · have q2 : ((i : Int) < ((lm 10 y).length : Int)) = True := eq_true (by omega)
      have gy := gy py
      by_cases q : (A : Int) - (B : Int) - (c : Nat) < 0
      · obtain ⟨g1, g2⟩ := sd1 q
        have q' := eq_true q
        rw [← g1, show ((10 : Nat) : Int) = 10 from rfl] at hsn
        simp only [vmr, vmw, vmp, vza, ↓reduceIte, Nat.reduceBEq, Nat.reduceLT, Nat.reduceAdd, Nat.reduceEqDiff, reduceCtorEq, vmt, vzb, vzc, vlen, vleaf, velems, oks, vst, vmd, ty, Nat.reduceLeDiff, Nat.reduceMul, Nat.reduceSub, c87, Tryz.f52, m87, h0, h1, h5, h5', h6, h7, q1, q2, gx, gy, hw, w1, w2, w3, q', hr1, hr2, fitsI, fx_len, List.map_cons]
        refine ih (s.c + 1 + 1) _ ?_ ?_ ?_ ?_ ?_ ?_ hq
        all_goals simp only [vmr, vmw, vmp, vza, ↓reduceIte, Nat.reduceBEq, Nat.reduceLT, Nat.reduceAdd, Nat.reduceEqDiff, reduceCtorEq, vmt, vzb, vzc, vlen, vleaf, velems, oks, vst, vmd, ty, Nat.reduceLeDiff, Nat.reduceMul, Nat.reduceSub, m87, h0, h1, hsn, g2, hw, List.map_append, List.map_cons, List.length_append, fx_len]
        all_goals rfl
      · obtain ⟨g1, g2⟩ := sd2 q
        have q' := eq_false q
        rw [← g1] at hsn
        simp only [vmr, vmw, vmp, vza, ↓reduceIte, Nat.reduceBEq, Nat.reduceLT, Nat.reduceAdd, Nat.reduceEqDiff, reduceCtorEq, vmt, vzb, vzc, vlen, vleaf, velems, oks, vst, vmd, ty, Nat.reduceLeDiff, Nat.reduceMul, Nat.reduceSub, c87, Tryz.f52, m87, h0, h1, h5, h5', h6, h7, q1, q2, gx, gy, hw, w1, w2, w3, q', hr1, hr2, fitsI, fx_len, List.map_cons]
        refine ih (s.c + 1 + 1) _ ?_ ?_ ?_ ?_ ?_ ?_ hq
        all_goals simp only [vmr, vmw, vmp, vza, ↓reduceIte, Nat.reduceBEq, Nat.reduceLT, Nat.reduceAdd, Nat.reduceEqDiff, reduceCtorEq, vmt, vzb, vzc, vlen, vleaf, velems, oks, vst, vmd, ty, Nat.reduceLeDiff, Nat.reduceMul, Nat.reduceSub, m87, h0, h1, hsn, g2, hw, List.map_append, List.map_cons, List.length_append, fx_len]
        all_goals rfl
    · have q2 : ((i : Int) < ((lm 10 y).length : Int)) = False := eq_false (by omega)
      have zy := zy py
      subst zy
      simp only [Int.natCast_zero, Int.sub_zero] at sd1 sd2 w3
      by_cases q : (A : Int) - (c : Nat) < 0
      · obtain ⟨g1, g2⟩ := sd1 q
        have q' := eq_true q
        rw [← g1, show ((10 : Nat) : Int) = 10 from rfl] at hsn
        simp only [vmr, vmw, vmp, vza, ↓reduceIte, Nat.reduceBEq, Nat.reduceLT, Nat.reduceAdd, Nat.reduceEqDiff, reduceCtorEq, vmt, vzb, vzc, vlen, vleaf, velems, oks, vst, vmd, ty, Nat.reduceLeDiff, Nat.reduceMul, Nat.reduceSub, c87, Tryz.f52, m87, h0, h1, h5, h5', h6, h7, q1, q2, gx, hw, w1, w3, q', hr1, hr2, fitsI, fx_len, List.map_cons]
        refine ih (s.c + 1 + 1) _ ?_ ?_ ?_ ?_ ?_ ?_ hq
        all_goals simp only [vmr, vmw, vmp, vza, ↓reduceIte, Nat.reduceBEq, Nat.reduceLT, Nat.reduceAdd, Nat.reduceEqDiff, reduceCtorEq, vmt, vzb, vzc, vlen, vleaf, velems, oks, vst, vmd, ty, Nat.reduceLeDiff, Nat.reduceMul, Nat.reduceSub, m87, h0, h1, hsn, g2, hw, List.map_append, List.map_cons, List.length_append, fx_len]
        all_goals rfl
      · obtain ⟨g1, g2⟩ := sd2 q
        have q' := eq_false q
        rw [← g1] at hsn
        simp only [vmr, vmw, vmp, vza, ↓reduceIte, Nat.reduceBEq, Nat.reduceLT, Nat.reduceAdd, Nat.reduceEqDiff, reduceCtorEq, vmt, vzb, vzc, vlen, vleaf, velems, oks, vst, vmd, ty, Nat.reduceLeDiff, Nat.reduceMul, Nat.reduceSub, c87, Tryz.f52, m87, h0, h1, h5, h5', h6, h7, q1, q2, gx, hw, w1, w3, q', hr1, hr2, fitsI, fx_len, List.map_cons]
        refine ih (s.c + 1 + 1) _ ?_ ?_ ?_ ?_ ?_ ?_ hq
        all_goals simp only [vmr, vmw, vmp, vza, ↓reduceIte, Nat.reduceBEq, Nat.reduceLT, Nat.reduceAdd, Nat.reduceEqDiff, reduceCtorEq, vmt, vzb, vzc, vlen, vleaf, velems, oks, vst, vmd, ty, Nat.reduceLeDiff, Nat.reduceMul, Nat.reduceSub, m87, h0, h1, hsn, g2, hw, List.map_append, List.map_cons, List.length_append, fx_len]
        all_goals rfl
def F87P (H : FuncId → Option (List V → Option V)) (n : Nat) (v : V) (r : Option (Ex × St)) : Prop := Fin (M87 H n) [.tmp 4] r = some (.ret v)
theorem k87 (x y : Nat) (hxy : y ≤ x) (hx : short x) : SoundPure Tryz.prog 52 [D x, D y] (.ret (.own 1 ((fx 10 (lm 10 x).length (x - y)).map I))) := by
  have hlx := short_len hx
  refine s87 (H := []) sound_nil ((lm 10 x).length + 2) (by simp) (by simp only [pureR, pureLI]) ?_
  show F87P (hand []) _ _ _
  have a1 := fun k vr s => @l87 (hand []) ((lm 10 x).length + 2) k x y hxy hx (F87P (hand []) ((lm 10 x).length + 2) (.own 1 ((fx 10 (lm 10 x).length (x - y)).map I))) (lm 10 x).length 0 vr ((lm 10 x).length + 2) s (by omega) (by omega)
  have hr0 := @room3 0 (by omega)
  simp only [sub, c87, Tryz.f52, gets] at a1 ⊢
  simp only [vmr, vmw, vmp, vza, ↓reduceIte, Nat.reduceBEq, Nat.reduceLT, Nat.reduceAdd, Nat.reduceEqDiff, reduceCtorEq, vmt, vzb, vzc, vlen, vleaf, velems, oks, vst, vmd, ty, Nat.reduceLeDiff, Nat.reduceMul, Nat.reduceSub, m87, hr0, List.map_nil, fitsI]
  refine a1 _ 1 _ ?_ ?_ ?_ ?_ ?_ ?_ (fun s' vr h5 h5' => ?_)
  case refine_7 =>
    have ht : List.take (lm 10 x).length ((fx 10 (lm 10 x).length (x - y)).map I) = (fx 10 (lm 10 x).length (x - y)).map I := take_of _ (fx_len ..)
    unfold F87P
    simp only [vmr, vmw, vmp, vza, ↓reduceIte, Nat.reduceBEq, Nat.reduceLT, Nat.reduceAdd, Nat.reduceEqDiff, reduceCtorEq, vmt, vzb, vzc, vlen, vleaf, velems, oks, vst, vmd, ty, Nat.reduceLeDiff, Nat.reduceMul, Nat.reduceSub, vzr, m87, h5, h5', allflatI, pureLI, shI, fx_len, ht]
  all_goals simp only [vmr, vmw, vmp, vza, ↓reduceIte, Nat.reduceBEq, Nat.reduceLT, Nat.reduceAdd, Nat.reduceEqDiff, reduceCtorEq, vmt, vzb, vzc, vlen, vleaf, velems, oks, vst, vmd, ty, Nat.reduceLeDiff, Nat.reduceMul, Nat.reduceSub, m87, fx0, List.map_nil, bor_zero]
  all_goals rfl
theorem w87 (x y : Nat) (hxy : y ≤ x) (hx : short x) : SoundPure Tryz.prog 52 [D x, D y] (.ret (Is (fx 10 (lm 10 x).length (x - y)))) := by
  have := sound_imm (k87 x y hxy hx) (by simp only [pureR, pureLI])
  simp only [imm, can, cans_I] at this
  exact this
noncomputable def F87 : List V → Option V := hF (α := Nat × Nat) (fun a => [D a.1, D a.2]) (fun a => a.2 ≤ a.1 ∧ short a.1) (fun a => Is (fx 10 (lm 10 a.1).length (a.1 - a.2)))
theorem F87_eq {x y : Nat} (h : y ≤ x) (hb : short x) : F87 [D x, D y] = some (Is (fx 10 (lm 10 x).length (x - y))) := hF_eq (a := (x, y)) two_D (by simp only [cans, canD]) ⟨h, hb⟩
end Go.Vi
