/-
  Walks of the reference's small, value.
-/
import Derived.Test.YtpdeblfnbcponaaGreatDoorZH
import Derived.Test.YtpdeblfnbcponaaGreatDoorYF
set_option linter.unusedSimpArgs false
set_option linter.unusedVariables false
set_option maxRecDepth 100000
set_option maxHeartbeats 1000000
set_option exponentiation.threshold 256
namespace Go.Vi
open Go Go.Proofs

structure P329 (s : St) (x v3 i : Nat) : Prop where
  h0 : tget s.τ 0 = I (x / 10 ^ i : Nat)
  h3 : tget s.τ 3 = .ref ⟨0, 3, 0⟩ v3 0 i
  h3' : lget s.L (3, 0) = some (v3, .arr 1 ((fx 10 i x).map I))
theorem l329 {n k} (x : Nat) (hx : x < 10 ^ 19) {P : Option (Ex × St) → Prop} : ∀ d i v3 n' s, 20 ≤ i + d → d < n' → (i = 0 ∨ 10 ^ (i - 1) ≤ x) → i ≤ 20 → P329 s x v3 i →
    (∀ s' v3 i, (i = 0 ∨ 10 ^ (i - 1) ≤ x) → x < 10 ^ i → P329 s' x v3 i → P (X (M329 (hand []) n) (.exit 0) k s')) →
    P (L (M329 (hand []) n) (sub [1, 1, 0, 0, 0] c329) n' k s) := by
  intro d
  induction d with
  | zero =>
    intro i v3 n' s hd hn hlo hi2 hP hq
    obtain ⟨n', rfl⟩ : ∃ m, n' = m + 1 := ⟨n' - 1, by omega⟩
    have hz : x < 10 ^ i := Nat.lt_of_lt_of_le hx (Nat.pow_le_pow_right (by omega) (by omega))
    obtain ⟨h0, h3, h3'⟩ := hP
    have h0z := h0
    rw [Nat.div_eq_of_lt hz] at h0z
    have hc : (((0 : Nat) : Int) > 0) = False := by decide
    rw [L_succ]
    simp only [vmr, vmw, vmp, vza, ↓reduceIte, Nat.reduceBEq, Nat.reduceLT, Nat.reduceAdd, Nat.reduceEqDiff, reduceCtorEq, vmt, vzb, vzc, vlen, vleaf, velems, oks, vst, vmd, ty, Nat.reduceLeDiff, Nat.reduceMul, Nat.reduceSub, c329, Tryz.f29, m329, h0z, hc]
    refine hq _ v3 i hlo hz ⟨?_, ?_, ?_⟩
    all_goals simp only [vmr, vmw, vmp, vza, ↓reduceIte, Nat.reduceBEq, Nat.reduceLT, Nat.reduceAdd, Nat.reduceEqDiff, reduceCtorEq, vmt, vzb, vzc, vlen, vleaf, velems, oks, vst, vmd, ty, Nat.reduceLeDiff, Nat.reduceMul, Nat.reduceSub, m329, h0, h3, h3']
  | succ d ih =>
    intro i v3 n' s hd hn hlo hi2 hP hq
    obtain ⟨n', rfl⟩ : ∃ m, n' = m + 1 := ⟨n' - 1, by omega⟩
    obtain ⟨h0, h3, h3'⟩ := hP
    rw [L_succ]
    by_cases hz : x < 10 ^ i
    · have h0z := h0
      rw [Nat.div_eq_of_lt hz] at h0z
      have hc : (((0 : Nat) : Int) > 0) = False := by decide
      simp only [vmr, vmw, vmp, vza, ↓reduceIte, Nat.reduceBEq, Nat.reduceLT, Nat.reduceAdd, Nat.reduceEqDiff, reduceCtorEq, vmt, vzb, vzc, vlen, vleaf, velems, oks, vst, vmd, ty, Nat.reduceLeDiff, Nat.reduceMul, Nat.reduceSub, c329, Tryz.f29, m329, h0z, hc]
      refine hq _ v3 i hlo hz ⟨?_, ?_, ?_⟩
      all_goals simp only [vmr, vmw, vmp, vza, ↓reduceIte, Nat.reduceBEq, Nat.reduceLT, Nat.reduceAdd, Nat.reduceEqDiff, reduceCtorEq, vmt, vzb, vzc, vlen, vleaf, velems, oks, vst, vmd, ty, Nat.reduceLeDiff, Nat.reduceMul, Nat.reduceSub, m329, h0, h3, h3']
    · have hi3 : i < 19 := by
        refine Nat.lt_of_not_le fun h => hz ?_
        exact Nat.lt_of_lt_of_le hx (Nat.pow_le_pow_right (by omega) h)
      have hpos : 0 < x / 10 ^ i := Nat.div_pos (by omega) (Nat.pow_pos (by omega))
      have hle : x / 10 ^ i ≤ x := Nat.div_le_self _ _
      have hsn := congrArg (List.map I) (fx_snoc 10 i x)
      simp only [List.map_append, List.map_cons, List.map_nil] at hsn
      have hr1 := @room3 1 (by omega)
      have hr2 := @room3 (i + 1) (by omega)
      have ih := fun v3 s => ih (i + 1) v3 n' s (by omega) (by omega) (by simp only [Nat.add_sub_cancel]; omega) (by omega)
      have hds : ∀ j, x / 10 ^ (j + 1) = x / 10 ^ j / 10 := fun j => div_succ 10 x j
      have e10 := hds i
      generalize hy : x / 10 ^ i = y at *
      have hc : ((y : Int) > 0) = True := eq_true (by omega)
      have n10 : ((10 : Int) = 0) = False := by decide
      have t2 : Int.tmod (y : Int) 10 = ((y % 10 : Nat) : Int) := rfl
      have t1 : IntKind.i64.wrap (Int.tdiv (y : Int) 10) = ((y / 10 : Nat) : Int) := by
        rw [show Int.tdiv (y : Int) 10 = ((y / 10 : Nat) : Int) from rfl, wrap_id]
        have : (10 : Nat) ^ 19 = 10000000000000000000 := by decide
        omega
      simp only [sub, c329, Tryz.f29, gets] at ih
      simp only [vmr, vmw, vmp, vza, ↓reduceIte, Nat.reduceBEq, Nat.reduceLT, Nat.reduceAdd, Nat.reduceEqDiff, reduceCtorEq, vmt, vzb, vzc, vlen, vleaf, velems, oks, vst, vmd, ty, Nat.reduceLeDiff, Nat.reduceMul, Nat.reduceSub, c329, Tryz.f29, m329, h0, h3, h3', hc, n10, t1, t2, fitsI, hr1, hr2, List.map_cons, List.map_nil, allflatI, pureLI, shI, import_I, fx_len]
      refine ih (s.c + 1 + 1) _ ⟨?_, ?_, ?_⟩ hq
      all_goals simp only [vmr, vmw, vmp, vza, ↓reduceIte, Nat.reduceBEq, Nat.reduceLT, Nat.reduceAdd, Nat.reduceEqDiff, reduceCtorEq, vmt, vzb, vzc, vlen, vleaf, velems, oks, vst, vmd, ty, Nat.reduceLeDiff, Nat.reduceMul, Nat.reduceSub, m329, h0, h3, h3', t1, e10, hsn, List.length_append, fx_len]
def F329P (n : Nat) (v : V) (r : Option (Ex × St)) : Prop := Fin (M329 (hand []) n) [.tmp 2] r = some (.ret v)
theorem k329 (x : Nat) (hx : x < 10 ^ 19) : SoundPure Tryz.prog 29 [I (x : Nat)] (.ret (.own 1 ((lm 10 x).map I))) := by
  refine s329 (H := []) sound_nil 30 (by simp) (by simp only [pureR, pureLI]) ?_
  show F329P _ _ _
  have a1 := fun k s v3 => @l329 30 k x hx (F329P 30 (.own 1 ((lm 10 x).map I))) 20 0 v3 30 s (by omega) (by omega) (.inl rfl) (by omega)
  have hr0 := @room3 0 (by omega)
  simp only [sub, c329, Tryz.f29, gets] at a1 ⊢
  simp only [vmr, vmw, vmp, vza, ↓reduceIte, Nat.reduceBEq, Nat.reduceLT, Nat.reduceAdd, Nat.reduceEqDiff, reduceCtorEq, vmt, vzb, vzc, vlen, vleaf, velems, oks, vst, vmd, ty, Nat.reduceLeDiff, Nat.reduceMul, Nat.reduceSub, m329, hr0, fitsI, List.map_nil]
  refine a1 _ _ 1 ⟨?_, ?_, ?_⟩ (fun s' v3 i hlo hhi ⟨h0, h3, h3'⟩ => ?_)
  case refine_4 =>
    have hlm : fx 10 i x = lm 10 x := by
      rcases hlo with rfl | hlo
      · have : x = 0 := by rw [Nat.pow_zero] at hhi; omega
        subst this
        rfl
      · exact lm_of b10 hhi hlo
    have hil : (lm 10 x).length = i := by rw [← hlm, fx_len]
    have htk : List.take i ((lm 10 x).map I) = (lm 10 x).map I := take_of _ hil
    rw [hlm] at h3'
    have hle : (i ≤ (lm 10 x).length) = True := eq_true (by omega)
    unfold F329P
    simp only [vmr, vmw, vmp, vza, ↓reduceIte, Nat.reduceBEq, Nat.reduceLT, Nat.reduceAdd, Nat.reduceEqDiff, reduceCtorEq, vmt, vzb, vzc, vlen, vleaf, velems, oks, vst, vmd, ty, Nat.reduceLeDiff, Nat.reduceMul, Nat.reduceSub, vzr, m329, h0, h3, h3', htk, hle, allflatI, pureLI, shI]
  all_goals simp only [vmr, vmw, vmp, vza, ↓reduceIte, Nat.reduceBEq, Nat.reduceLT, Nat.reduceAdd, Nat.reduceEqDiff, reduceCtorEq, vmt, vzb, vzc, vlen, vleaf, velems, oks, vst, vmd, ty, Nat.reduceLeDiff, Nat.reduceMul, Nat.reduceSub, m329, Nat.pow_zero, Nat.div_one]
  all_goals rfl
theorem w329 (x : Nat) (hx : x < 10 ^ 19) : SoundPure Tryz.prog 29 [I (x : Nat)] (.ret (D x)) := by
  have := sound_imm (k329 x hx) (by simp only [pureR, pureLI])
  simp only [imm, can, cans_I] at this
  exact this
noncomputable def F329 : List V → Option V := hF (α := Nat) (fun a => [I (a : Nat)]) (fun x => x < 10 ^ 19) (fun x => D x)
theorem F329_eq {x : Nat} (h : x < 10 ^ 19) : F329 [I (x : Nat)] = some (D x) := hF_eq (a := x) (one_inj' fun _ _ => natI_inj) (by simp only [cans, canI]) h
/-! ### value -/
theorem l330 {n k} (x : Nat) (hx : x < 10 ^ 18) {P : Option (Ex × St) → Prop} : ∀ j n' s, j ≤ (lm 10 x).length → j < n' → tget s.τ 0 = D x → tget s.τ 3 = I (x / 10 ^ j : Nat) → tget s.τ 4 = I ((j : Int) - 1) →
    (∀ s', tget s'.τ 3 = I (x : Nat) → P (X (M330 (hand []) n) (.exit 0) k s')) →
    P (L (M330 (hand []) n) (sub [1, 1, 0, 1, 0, 0] c330) n' k s) := by
  intro j
  induction j with
  | zero =>
    intro n' s hj hn h0 h3 h4 hq
    obtain ⟨n', rfl⟩ : ∃ m, n' = m + 1 := ⟨n' - 1, by omega⟩
    have c0 : (((0 : Nat) : Int) - 1 ≥ 0) = False := by decide
    rw [Nat.pow_zero, Nat.div_one] at h3
    rw [L_succ]
    simp only [vmr, vmw, vmp, vza, ↓reduceIte, Nat.reduceBEq, Nat.reduceLT, Nat.reduceAdd, Nat.reduceEqDiff, reduceCtorEq, vmt, vzb, vzc, vlen, vleaf, velems, oks, vst, vmd, ty, Nat.reduceLeDiff, Nat.reduceMul, Nat.reduceSub, c330, Tryz.f30, m330, h4, c0]
    refine hq _ ?_
    simp only [vmr, vmw, vmp, vza, ↓reduceIte, Nat.reduceBEq, Nat.reduceLT, Nat.reduceAdd, Nat.reduceEqDiff, reduceCtorEq, vmt, vzb, vzc, vlen, vleaf, velems, oks, vst, vmd, ty, Nat.reduceLeDiff, Nat.reduceMul, Nat.reduceSub, m330, h3]
  | succ i ih =>
    intro n' s hj hn h0 h3 h4 hq
    obtain ⟨n', rfl⟩ : ∃ m, n' = m + 1 := ⟨n' - 1, by omega⟩
    rw [show (((i + 1 : Nat) : Int) - 1) = (i : Int) by omega] at h4
    have c0 : ((i : Int) ≥ 0) = True := eq_true (by omega)
    have ws : IntKind.i64.wrap ((i : Int) - 1) = (i : Int) - 1 := by
      have : (lm 10 x).length ≤ 18 := (lm_len_le b10 x 18).2 hx
      rw [wrap_id]; omega
    have gx := lm_get b10 x i (by omega)
    have hds : x / 10 ^ (i + 1) = x / 10 ^ i / 10 := div_succ 10 x i
    rw [hds] at h3
    have hle : x / 10 ^ i ≤ x := Nat.div_le_self _ _
    have ih := fun s => ih n' s (by omega) (by omega)
    simp only [sub, c330, Tryz.f30, gets] at ih
    generalize x / 10 ^ i = y at *
    have e18 : (10 : Nat) ^ 18 = 1000000000000000000 := by decide
    have w1 : IntKind.i64.wrap (((y / 10 : Nat) : Int) * 10) = ((y / 10 * 10 : Nat) : Int) := by rw [wrap_id] <;> omega
    have w2 : IntKind.i64.wrap (((y / 10 * 10 : Nat) : Int) + ((y % 10 : Nat) : Int)) = ((y : Nat) : Int) := by rw [wrap_id] <;> omega
    rw [L_succ]
    simp only [vmr, vmw, vmp, vza, ↓reduceIte, Nat.reduceBEq, Nat.reduceLT, Nat.reduceAdd, Nat.reduceEqDiff, reduceCtorEq, vmt, vzb, vzc, vlen, vleaf, velems, oks, vst, vmd, ty, Nat.reduceLeDiff, Nat.reduceMul, Nat.reduceSub, c330, Tryz.f30, m330, h0, h3, h4, c0, gx, w1, w2, ws, fitsI, Option.map_some]
    refine ih _ ?_ ?_ ?_ hq
    all_goals simp only [vmr, vmw, vmp, vza, ↓reduceIte, Nat.reduceBEq, Nat.reduceLT, Nat.reduceAdd, Nat.reduceEqDiff, reduceCtorEq, vmt, vzb, vzc, vlen, vleaf, velems, oks, vst, vmd, ty, Nat.reduceLeDiff, Nat.reduceMul, Nat.reduceSub, m330, h0, h3, h4]
def F330P (n : Nat) (v : V) (r : Option (Ex × St)) : Prop := Fin (M330 (hand []) n) [.tmp 2] r = some (.ret v)
theorem w330 (x : Nat) (hx : x < 10 ^ 18) : SoundPure Tryz.prog 30 [D x] (.ret (I (x : Nat))) := by
  refine s330 (H := []) sound_nil 30 (by simp) rfl ?_
  show F330P _ _ _
  have hl : (lm 10 x).length ≤ 18 := (lm_len_le b10 x 18).2 hx
  have hlt := lm_lt b10 x
  have a1 := fun k s => @l330 30 k x hx (F330P 30 (I (x : Nat))) (lm 10 x).length 30 s (Nat.le_refl _) (by omega)
  have w1 : IntKind.i64.wrap (((lm 10 x).length : Int) - 1) = ((lm 10 x).length : Int) - 1 := by rw [wrap_id]; omega
  simp only [sub, c330, Tryz.f30, gets] at a1 ⊢
  simp only [vmr, vmw, vmp, vza, ↓reduceIte, Nat.reduceBEq, Nat.reduceLT, Nat.reduceAdd, Nat.reduceEqDiff, reduceCtorEq, vmt, vzb, vzc, vlen, vleaf, velems, oks, vst, vmd, ty, Nat.reduceLeDiff, Nat.reduceMul, Nat.reduceSub, m330, w1]
  refine a1 _ _ ?_ ?_ ?_ (fun s' h3 => ?_)
  case refine_4 =>
    unfold F330P
    simp only [vmr, vmw, vmp, vza, ↓reduceIte, Nat.reduceBEq, Nat.reduceLT, Nat.reduceAdd, Nat.reduceEqDiff, reduceCtorEq, vmt, vzb, vzc, vlen, vleaf, velems, oks, vst, vmd, ty, Nat.reduceLeDiff, Nat.reduceMul, Nat.reduceSub, vzr, m330, h3]
  all_goals simp only [vmr, vmw, vmp, vza, ↓reduceIte, Nat.reduceBEq, Nat.reduceLT, Nat.reduceAdd, Nat.reduceEqDiff, reduceCtorEq, vmt, vzb, vzc, vlen, vleaf, velems, oks, vst, vmd, ty, Nat.reduceLeDiff, Nat.reduceMul, Nat.reduceSub, m330, Nat.div_eq_of_lt hlt]
  all_goals rfl
noncomputable def F330 : List V → Option V := hF (α := Nat) (fun a => [D a]) (fun x => x < 10 ^ 18) (fun x => I (x : Nat))
theorem F330_eq {x : Nat} (h : x < 10 ^ 18) : F330 [D x] = some (I (x : Nat)) := hF_eq (a := x) (one_inj' fun _ _ h => lm_inj (by omega) (Is_inj h)) (by simp only [cans, canD]) h
end Go.Vi
set_option maxRecDepth 100000
set_option maxHeartbeats 1000000
set_option exponentiation.threshold 256
namespace Go.Vi
open Go Go.Proofs

noncomputable abbrev T307 : List (FuncId × (List V → Option V)) := (26, F31) :: (27, F45) :: (29, F329) :: (28, F55) :: (30, F330) :: []
theorem hT307 : SoundHand Tryz.prog (hand T307) := sound_cons (hF_sound fun a _ => w31 a) <| sound_cons (hF_sound fun a h => w45 a h) <| sound_cons (hF_sound fun a h => w329 a h) <| sound_cons (hF_sound fun a h => w55 a.1 a.2 h.1 h.2.1 h.2.2) <| sound_cons (hF_sound fun a h => w330 a h) sound_nil
structure P307 (s : St) (x b v7 i : Nat) : Prop where
  h1 : tget s.τ 1 = I (b : Nat)
  h6 : tget s.τ 6 = D (x / b ^ i)
  h7 : tget s.τ 7 = .ref ⟨0, 7, 0⟩ v7 0 i
  h7' : lget s.L (7, 0) = some (v7, .arr 1 ((fx b i x).reverse.map I))
set_option exponentiation.threshold 500000 in
theorem k_big {b : Nat} (h : b ≤ 1000) : b < 10 ^ 500 := Nat.lt_of_lt_of_le (show b < 10 ^ 4 by omega) (Nat.pow_le_pow_right (by omega) (by omega))
theorem l307 {n k} (x b : Nat) (hb : 2 ≤ b) (hb2 : b ≤ 1000) (hx : x < 10 ^ 500) {P : Option (Ex × St) → Prop} : ∀ d i v7 n' s, 2001 ≤ i + d → d < n' → b ^ (i - 1) ≤ x → i ≤ 2001 → P307 s x b v7 i →
    (∀ s' v7 i, b ^ (i - 1) ≤ x → x < b ^ i → P307 s' x b v7 i → P (X (M307 (hand T307) n) (.exit 0) k s')) →
    P (L (M307 (hand T307) n) (sub [1, 1, 1, 1, 1, 1, 0, 0, 0] c307) n' k s) := by
  intro d
  induction d with
  | zero =>
    intro i v7 n' s hd hn hlo hi2 hP hq
    obtain ⟨n', rfl⟩ : ∃ m, n' = m + 1 := ⟨n' - 1, by omega⟩
    by_cases hz : x < b ^ i
    · obtain ⟨h1, h6, h7, h7'⟩ := hP
      have h6z := h6
      rw [Nat.div_eq_of_lt hz] at h6z
      have hc : ((((lm 10 0).length : Nat) : Int) > 0) = False := eq_false (by rw [lm_zero]; decide)
      rw [L_succ]
      simp only [vmr, vmw, vmp, vza, ↓reduceIte, Nat.reduceBEq, Nat.reduceLT, Nat.reduceAdd, Nat.reduceEqDiff, reduceCtorEq, vmt, vzb, vzc, vlen, vleaf, velems, oks, vst, vmd, ty, Nat.reduceLeDiff, Nat.reduceMul, Nat.reduceSub, c307, Tryz.f7, m307, h6z, hc]
      refine hq _ v7 i hlo hz ⟨?_, ?_, ?_, ?_⟩
      all_goals simp only [vmr, vmw, vmp, vza, ↓reduceIte, Nat.reduceBEq, Nat.reduceLT, Nat.reduceAdd, Nat.reduceEqDiff, reduceCtorEq, vmt, vzb, vzc, vlen, vleaf, velems, oks, vst, vmd, ty, Nat.reduceLeDiff, Nat.reduceMul, Nat.reduceSub, m307, h1, h6, h7, h7']
    · have := pow_lt_2000 hb hx (by omega : b ^ i ≤ x)
      omega
  | succ d ih =>
    intro i v7 n' s hd hn hlo hi2 hP hq
    obtain ⟨n', rfl⟩ : ∃ m, n' = m + 1 := ⟨n' - 1, by omega⟩
    obtain ⟨h1, h6, h7, h7'⟩ := hP
    rw [L_succ]
    by_cases hz : x < b ^ i
    · have h6z := h6
      rw [Nat.div_eq_of_lt hz] at h6z
      have hc : ((((lm 10 0).length : Nat) : Int) > 0) = False := eq_false (by rw [lm_zero]; decide)
      simp only [vmr, vmw, vmp, vza, ↓reduceIte, Nat.reduceBEq, Nat.reduceLT, Nat.reduceAdd, Nat.reduceEqDiff, reduceCtorEq, vmt, vzb, vzc, vlen, vleaf, velems, oks, vst, vmd, ty, Nat.reduceLeDiff, Nat.reduceMul, Nat.reduceSub, c307, Tryz.f7, m307, h6z, hc]
      refine hq _ v7 i hlo hz ⟨?_, ?_, ?_, ?_⟩
      all_goals simp only [vmr, vmw, vmp, vza, ↓reduceIte, Nat.reduceBEq, Nat.reduceLT, Nat.reduceAdd, Nat.reduceEqDiff, reduceCtorEq, vmt, vzb, vzc, vlen, vleaf, velems, oks, vst, vmd, ty, Nat.reduceLeDiff, Nat.reduceMul, Nat.reduceSub, m307, h1, h6, h7, h7']
    · have hi3 := pow_lt_2000 hb hx (by omega : b ^ i ≤ x)
      have hpos : x / b ^ i ≠ 0 := fun h => by
        have := Nat.div_pos (show b ^ i ≤ x by omega) (pow_pos' hb i)
        omega
      have hc : ((((lm 10 (x / b ^ i)).length : Nat) : Int) > 0) = True := eq_true (by have := mt (lm_nil b10 (x / b ^ i)).1 hpos; omega)
      have e329 := F329_eq (x := b) (by have : (10 : Nat) ^ 19 = 10000000000000000000 := by decide
                                        omega)
      have e55 := F55_eq (x := x / b ^ i) (y := b) (Nat.lt_of_le_of_lt (Nat.div_le_self _ _) hx) (by omega) (k_big hb2)
      rw [← div_succ] at e55
      have hm := Nat.mod_lt (x / b ^ i) (show 0 < b by omega)
      have e330 := F330_eq (x := x / b ^ i % b) (by have : (10 : Nat) ^ 18 = 1000000000000000000 := by decide
                                                    omega)
      have hsn : (fx b (i + 1) x).reverse.map I = I ((x / b ^ i % b : Nat) : Int) :: (fx b i x).reverse.map I := by
        rw [fx_snoc, List.reverse_append]
        rfl
      have hr1 := @room3 1 (by omega)
      have hr2 := @room3 (i + 1) (by omega)
      have hr3 := @room3 (1 + i) (by omega)
      have htk : List.take i ((fx b i x).reverse.map I) = (fx b i x).reverse.map I := take_of _ (by rw [List.length_reverse, fx_len])
      have ih := fun v7 s => ih (i + 1) v7 n' s (by omega) (by omega) (by simp only [Nat.add_sub_cancel]; omega) (by omega)
      simp only [sub, c307, Tryz.f7, gets] at ih
      simp only [vmr, vmw, vmp, vza, ↓reduceIte, Nat.reduceBEq, Nat.reduceLT, Nat.reduceAdd, Nat.reduceEqDiff, reduceCtorEq, vmt, vzb, vzc, vlen, vleaf, velems, oks, vst, vmd, ty, Nat.reduceLeDiff, Nat.reduceMul, Nat.reduceSub, c307, Tryz.f7, m307, h1, h6, h7, h7', hc, e329, e55, e330, fitsI, allfitsI, htk, hr1, hr2, hr3, List.map_cons, List.map_nil, List.length_reverse, allflatI, pureLI, shI, import_I, refsI, fx_len]
      refine ih (s.c + 1 + 1) _ ⟨?_, ?_, ?_, ?_⟩ hq
      all_goals simp only [vmr, vmw, vmp, vza, ↓reduceIte, Nat.reduceBEq, Nat.reduceLT, Nat.reduceAdd, Nat.reduceEqDiff, reduceCtorEq, vmt, vzb, vzc, vlen, vleaf, velems, oks, vst, vmd, ty, Nat.reduceLeDiff, Nat.reduceMul, Nat.reduceSub, m307, h1, h6, hsn, List.length_append, List.length_reverse, fx_len]
      all_goals try rw [Nat.add_comm]
def F307P (n : Nat) (v : V) (r : Option (Ex × St)) : Prop := Fin (M307 (hand T307) n) [.tmp 4, .tmp 5] r = some (.ret v)
theorem k307 (a : List UInt8) (b : Int) : SoundPure Tryz.prog 7 [.str a, I b] (.ret (digsR a b)) := by
  refine s307 hT307 2010 (by simp) digsR_pure ?_
  show F307P _ _ _
  unfold digsR
  have e31 := F31_eq a
  cases ha : validB a with
  | false =>
    rw [ha] at e31
    simp only [c307, Tryz.f7, gets, sub, opsAt]
    simp only [Bool.false_eq_true, if_false]
    unfold F307P
    simp only [vmr, vmw, vmp, vza, ↓reduceIte, Nat.reduceBEq, Nat.reduceLT, Nat.reduceAdd, Nat.reduceEqDiff, reduceCtorEq, vmt, vzb, vzc, vlen, vleaf, velems, oks, vst, vmd, ty, Nat.reduceLeDiff, Nat.reduceMul, Nat.reduceSub, vzr, m307, e31]
  | true =>
    rw [ha] at e31
    have ea := F45_eq ha
    have sa := ival_small ha
    simp only [if_true]
    generalize ival a = x at *
    by_cases hb : 2 ≤ b ∧ b ≤ 1000
    · rw [if_pos hb]
      have q1 : (b < 2) = False := eq_false (by omega)
      have q2 : (b > 1000) = False := eq_false (by omega)
      obtain ⟨B, rfl⟩ : ∃ B : Nat, b = B := ⟨b.toNat, by omega⟩
      rw [show ((B : Int)).toNat = B from rfl]
      have hx : x.natAbs < 10 ^ 500 := sa
      obtain ⟨y, hna⟩ : ∃ y, x.natAbs = y := ⟨_, rfl⟩
      rw [hna] at hx ⊢
      have hr0 := @room3 0 (by omega)
      have hr1 := @room3 1 (by omega)
      by_cases hy : y = 0
      · subst hy
        have hc : ((((lm 10 0).length : Nat) : Int) == 0) = true := rfl
        have hd : digH B 0 = [0] := rfl
        rw [hd]
        simp only [c307, Tryz.f7, gets, sub, opsAt]
        unfold F307P
        simp only [vmr, vmw, vmp, vza, ↓reduceIte, Nat.reduceBEq, Nat.reduceLT, Nat.reduceAdd, Nat.reduceEqDiff, reduceCtorEq, vmt, vzb, vzc, vlen, vleaf, velems, oks, vst, vmd, ty, Nat.reduceLeDiff, Nat.reduceMul, Nat.reduceSub, vzr, m307, e31, ea, hna, q1, q2, hc, hr0, hr1, fitsI, List.map_cons, allflatI, pureLI, shI, import_I]
      · have hc : ((((lm 10 y).length : Nat) : Int) == 0) = false := by rw [beq_eq_false_iff_ne]; have := mt (lm_nil b10 y).1 hy; omega
        have hd : digH B y = (lm B y).reverse := by unfold digH; rw [if_neg hy]
        rw [hd]
        have a1 := fun k s v7 => @l307 2010 k y B (by omega) (by omega) hx (F307P 2010 (.tup [.own 1 ((lm B y).reverse.map I), I 0])) 2001 0 v7 2010 s (by omega) (by omega) (by simp; omega) (by omega)
        simp only [c307, Tryz.f7, gets, sub, opsAt] at a1 ⊢
        simp only [vmr, vmw, vmp, vza, ↓reduceIte, Nat.reduceBEq, Nat.reduceLT, Nat.reduceAdd, Nat.reduceEqDiff, reduceCtorEq, vmt, vzb, vzc, vlen, vleaf, velems, oks, vst, vmd, ty, Nat.reduceLeDiff, Nat.reduceMul, Nat.reduceSub, m307, e31, ea, hna, q1, q2, hc, hr0, hr1, fitsI, List.map_nil, allflatI, pureLI, shI, import_I]
        refine a1 _ _ 1 ⟨?_, ?_, ?_, ?_⟩ (fun s' v7 i hlo hhi ⟨h1, h6, h7, h7'⟩ => ?_)
        case refine_5 =>
          have hlm : fx B i y = lm B y := lm_of (by omega) hhi hlo
          have hil : (lm B y).length = i := by rw [← hlm, fx_len]
          rw [hlm] at h7'
          have htk : List.take i ((lm B y).reverse.map I) = (lm B y).reverse.map I := take_of _ (by rw [List.length_reverse, hil])
          have hle : (i ≤ (lm B y).reverse.length) = True := eq_true (by rw [List.length_reverse]; omega)
          unfold F307P
          simp only [vmr, vmw, vmp, vza, ↓reduceIte, Nat.reduceBEq, Nat.reduceLT, Nat.reduceAdd, Nat.reduceEqDiff, reduceCtorEq, vmt, vzb, vzc, vlen, vleaf, velems, oks, vst, vmd, ty, Nat.reduceLeDiff, Nat.reduceMul, Nat.reduceSub, vzr, m307, h1, h6, h7, h7', htk, hle, allflatI, pureLI, shI]
        all_goals simp only [vmr, vmw, vmp, vza, ↓reduceIte, Nat.reduceBEq, Nat.reduceLT, Nat.reduceAdd, Nat.reduceEqDiff, reduceCtorEq, vmt, vzb, vzc, vlen, vleaf, velems, oks, vst, vmd, ty, Nat.reduceLeDiff, Nat.reduceMul, Nat.reduceSub, m307, Nat.pow_zero, Nat.div_one]
        all_goals rfl
    · rw [if_neg hb]
      by_cases h1 : b < 2
      · have q1 := eq_true h1
        simp only [c307, Tryz.f7, gets, sub, opsAt]
        unfold F307P
        simp only [vmr, vmw, vmp, vza, ↓reduceIte, Nat.reduceBEq, Nat.reduceLT, Nat.reduceAdd, Nat.reduceEqDiff, reduceCtorEq, vmt, vzb, vzc, vlen, vleaf, velems, oks, vst, vmd, ty, Nat.reduceLeDiff, Nat.reduceMul, Nat.reduceSub, vzr, m307, e31, q1]
      · have q1 := eq_false h1
        have q2 : (b > 1000) = True := eq_true (by omega)
        simp only [c307, Tryz.f7, gets, sub, opsAt]
        unfold F307P
        simp only [vmr, vmw, vmp, vza, ↓reduceIte, Nat.reduceBEq, Nat.reduceLT, Nat.reduceAdd, Nat.reduceEqDiff, reduceCtorEq, vmt, vzb, vzc, vlen, vleaf, velems, oks, vst, vmd, ty, Nat.reduceLeDiff, Nat.reduceMul, Nat.reduceSub, vzr, m307, e31, q1, q2]
theorem w307 (a : List UInt8) (b : Int) : SoundPure Tryz.prog 7 [.str a, I b] (.ret (digsS a b)) := by
  have := sound_imm (k307 a b) digsR_pure
  rw [digsR_imm] at this
  exact this
end Go.Vi
set_option maxRecDepth 100000
set_option maxHeartbeats 1000000
set_option exponentiation.threshold 256
namespace Go.Vi
open Go Go.Proofs

noncomputable abbrev T310 : List (FuncId × (List V → Option V)) := (29, F329) :: (39, F48) :: (38, F89) :: (37, F47) :: (40, F56) :: []
theorem hT310 : SoundHand Tryz.prog (hand T310) := sound_cons (hF_sound fun a h => w329 a h) <| sound_cons (hF_sound fun a h => w48r a.1 a.2 h.1 h.2) <| sound_cons (hF_sound fun a h => w89 a.1 a.2 h.1 h.2) <| sound_cons (hF_sound fun a h => w47 a.1 a.2 h) <| sound_cons (hF_sound fun a h => w56 a h) sound_nil
theorem l310a {n k} (b : Int) (l : List Int) (hl : l.length ≤ 2000) {P : Option (Ex × St) → Prop} : ∀ r i n' s, l.drop i = r → r.length < n' → tget s.τ 0 = Is l → tget s.τ 1 = I b → tget s.τ 6 = I (i : Nat) →
    (r.any (badD b) = false → ∀ s', tget s'.τ 0 = Is l → tget s'.τ 1 = I b → P (X (M310 (hand T310) n) (.exit 0) k s')) →
    (r.any (badD b) = true → ∀ s', tget s'.τ 4 = .str [] → tget s'.τ 5 = I 4 → P (some (.ret, s'))) →
    P (L (M310 (hand T310) n) (sub [1, 1, 1, 0, 1, 0, 0] c310) n' k s)
  | [], i, n' + 1, s, hi, hn, h0, h1, h6, hx, hp => by
    have hc := inlt (drop_nil' hi)
    rw [L_succ]
    simp only [vmr, vmw, vmp, vza, ↓reduceIte, Nat.reduceBEq, Nat.reduceLT, Nat.reduceAdd, Nat.reduceEqDiff, reduceCtorEq, vmt, vzb, vzc, vlen, vleaf, velems, oks, vst, vmd, ty, Nat.reduceLeDiff, Nat.reduceMul, Nat.reduceSub, c310, Tryz.f10, m310, h0, h6, hc]
    refine hx rfl _ ?_ ?_
    all_goals simp only [vmr, vmw, vmp, vza, ↓reduceIte, Nat.reduceBEq, Nat.reduceLT, Nat.reduceAdd, Nat.reduceEqDiff, reduceCtorEq, vmt, vzb, vzc, vlen, vleaf, velems, oks, vst, vmd, ty, Nat.reduceLeDiff, Nat.reduceMul, Nat.reduceSub, m310, h0, h1]
  | x :: r, i, n' + 1, s, hi, hn, h0, h1, h6, hx, hp => by
    obtain ⟨hg, hd, hlt⟩ := drop_cons hi
    have hc := ilt hlt
    have hw := wsucc hlt (by omega)
    have ih := fun s => @l310a n k b l hl P r (i + 1) n' s hd (by simp at hn; omega)
    simp only [sub, c310, Tryz.f10, gets] at ih
    rw [L_succ]
    by_cases q1 : x < 0
    · have hb : badD b x = true := decide_eq_true (.inl q1)
      have q1' := eq_true q1
      simp only [vmr, vmw, vmp, vza, ↓reduceIte, Nat.reduceBEq, Nat.reduceLT, Nat.reduceAdd, Nat.reduceEqDiff, reduceCtorEq, vmt, vzb, vzc, vlen, vleaf, velems, oks, vst, vmd, ty, Nat.reduceLeDiff, Nat.reduceMul, Nat.reduceSub, c310, Tryz.f10, m310, h0, h1, h6, hc, hg, q1', fitsI, Option.map_some]
      refine hp (by simp [hb]) _ ?_ ?_
      all_goals simp only [vmr, vmw, vmp, vza, ↓reduceIte, Nat.reduceBEq, Nat.reduceLT, Nat.reduceAdd, Nat.reduceEqDiff, reduceCtorEq, vmt, vzb, vzc, vlen, vleaf, velems, oks, vst, vmd, ty, Nat.reduceLeDiff, Nat.reduceMul, Nat.reduceSub, m310]
    · have q1' := eq_false q1
      by_cases q2 : b ≤ x
      · have hb : badD b x = true := decide_eq_true (.inr q2)
        have q2' : (x ≥ b) = True := eq_true q2
        simp only [vmr, vmw, vmp, vza, ↓reduceIte, Nat.reduceBEq, Nat.reduceLT, Nat.reduceAdd, Nat.reduceEqDiff, reduceCtorEq, vmt, vzb, vzc, vlen, vleaf, velems, oks, vst, vmd, ty, Nat.reduceLeDiff, Nat.reduceMul, Nat.reduceSub, c310, Tryz.f10, m310, h0, h1, h6, hc, hg, q1', q2', fitsI, Option.map_some]
        refine hp (by simp [hb]) _ ?_ ?_
        all_goals simp only [vmr, vmw, vmp, vza, ↓reduceIte, Nat.reduceBEq, Nat.reduceLT, Nat.reduceAdd, Nat.reduceEqDiff, reduceCtorEq, vmt, vzb, vzc, vlen, vleaf, velems, oks, vst, vmd, ty, Nat.reduceLeDiff, Nat.reduceMul, Nat.reduceSub, m310]
      · have hb : badD b x = false := decide_eq_false (by omega)
        have q2' : (x ≥ b) = False := eq_false q2
        simp only [vmr, vmw, vmp, vza, ↓reduceIte, Nat.reduceBEq, Nat.reduceLT, Nat.reduceAdd, Nat.reduceEqDiff, reduceCtorEq, vmt, vzb, vzc, vlen, vleaf, velems, oks, vst, vmd, ty, Nat.reduceLeDiff, Nat.reduceMul, Nat.reduceSub, c310, Tryz.f10, m310, h0, h1, h6, hc, hg, hw, q1', q2', fitsI, Option.map_some]
        refine ih _ ?_ ?_ ?_ (fun h => hx (by simp [hb, h])) (fun h => hp (by simp [hb, h]))
        all_goals simp only [vmr, vmw, vmp, vza, ↓reduceIte, Nat.reduceBEq, Nat.reduceLT, Nat.reduceAdd, Nat.reduceEqDiff, reduceCtorEq, vmt, vzb, vzc, vlen, vleaf, velems, oks, vst, vmd, ty, Nat.reduceLeDiff, Nat.reduceMul, Nat.reduceSub, m310, h0, h1, h6, hw]
set_option exponentiation.threshold 2000000 in
theorem short_mul {n b d : Nat} (h : n < 10 ^ 500) (hb : b ≤ 1000) (hd : d ≤ 1000) : short n ∧ short b ∧ short d ∧ short (n * b) ∧ n * b + d < 10 ^ 1000000 := by
  have e3 : (10 : Nat) ^ 3 = 1000 := rfl
  have h1 : n * b ≤ 10 ^ 500 * 10 ^ 3 := Nat.mul_le_mul (by omega) (by omega)
  rw [← Nat.pow_add] at h1
  have h2 : (10 : Nat) ^ (500 + 3) < 10 ^ 2000 := Nat.pow_lt_pow_right (by omega) (by omega)
  have h3 : (10 : Nat) ^ 500 < 10 ^ 2000 := Nat.pow_lt_pow_right (by omega) (by omega)
  have h4 : (10 : Nat) ^ 4 < 10 ^ 2000 := Nat.pow_lt_pow_right (by omega) (by omega)
  have h5 : (10 : Nat) ^ 2000 * 10 ≤ 10 ^ 1000000 := by rw [← Nat.pow_succ]; exact Nat.pow_le_pow_right (by omega) (by omega)
  have e4 : (10 : Nat) ^ 4 = 10000 := rfl
  refine ⟨?_, ?_, ?_, ?_, ?_⟩
  · show n < 10 ^ 2000; omega
  · show b < 10 ^ 2000; omega
  · show d < 10 ^ 2000; omega
  · show n * b < 10 ^ 2000; omega
  · omega
theorem l310b {n0 k} (b : Nat) (hb : 2 ≤ b) (hb2 : b ≤ 1000) (l : List Int) (hl : l.length ≤ 2000) (hd : ∀ d ∈ l, badD b d = false) {P : Option (Ex × St) → Prop} : ∀ r i n n' s, l.drop i = r → r.length < n' → n < 10 ^ 500 → tget s.τ 0 = Is l → tget s.τ 1 = I (b : Nat) → tget s.τ 7 = D n → tget s.τ 8 = I (i : Nat) →
    (∀ s', numL b r n < 10 ^ 500 → tget s'.τ 7 = D (numL b r n) → P (X (M310 (hand T310) n0) (.exit 2) k s')) →
    (∀ s', 10 ^ 500 ≤ numL b r n → tget s'.τ 4 = .str [] → tget s'.τ 5 = I 7 → P (some (.ret, s'))) →
    P (L (M310 (hand T310) n0) (sub [1, 1, 1, 1, 1, 0, 1, 0, 0] c310) n' k s)
  | [], i, n, n' + 1, s, hi, hn, hlt, h0, h1, h7, h8, hx, hp => by
    have hc := inlt (drop_nil' hi)
    rw [L_succ]
    simp only [vmr, vmw, vmp, vza, ↓reduceIte, Nat.reduceBEq, Nat.reduceLT, Nat.reduceAdd, Nat.reduceEqDiff, reduceCtorEq, vmt, vzb, vzc, vlen, vleaf, velems, oks, vst, vmd, ty, Nat.reduceLeDiff, Nat.reduceMul, Nat.reduceSub, c310, Tryz.f10, m310, h0, h8, hc]
    refine hx _ hlt ?_
    simp only [vmr, vmw, vmp, vza, ↓reduceIte, Nat.reduceBEq, Nat.reduceLT, Nat.reduceAdd, Nat.reduceEqDiff, reduceCtorEq, vmt, vzb, vzc, vlen, vleaf, velems, oks, vst, vmd, ty, Nat.reduceLeDiff, Nat.reduceMul, Nat.reduceSub, m310, h7]
    rfl
  | x :: r, i, n, n' + 1, s, hi, hn, hnlt, h0, h1, h7, h8, hx, hp => by
    obtain ⟨hg, hdr, hlt⟩ := drop_cons hi
    have hc := ilt hlt
    have hw := wsucc hlt (by omega)
    have hbx := hd x (List.mem_of_getElem? hg)
    unfold badD at hbx
    rw [decide_eq_false_iff_not] at hbx
    obtain ⟨d, rfl⟩ : ∃ d : Nat, x = d := ⟨x.toNat, by omega⟩
    have hnum : numL b ((d : Int) :: r) n = numL b r (n * b + d) := rfl
    rw [hnum] at hx hp
    have e19 : (10 : Nat) ^ 19 = 10000000000000000000 := by decide
    obtain ⟨sn, sb, sd, snb, sbig⟩ := short_mul (d := d) hnlt hb2 (by omega)
    have e329b := F329_eq (x := b) (by omega)
    have e329d := F329_eq (x := d) (by omega)
    have e48 := F48_eq sn sb
    have e89 := F89_eq snb sd
    have e47 := F47_posD sbig
    have hdec : decide (((n * b + d : Nat) : Int) < 0) = false := decide_eq_false (by omega)
    have hna : ((n * b + d : Nat) : Int).natAbs = n * b + d := Int.natAbs_natCast _
    have hs : calm (M310 (hand T310) n0).E (opsAt (sub [1, 1, 1, 1, 1, 0, 1, 0, 0, 1, 0, 0, 0] c310)) = true := by kernel_rfl
    have ih := fun s => @l310b n0 k b hb hb2 l hl hd P r (i + 1) (n * b + d) n' s hdr (by simp at hn; omega)
    have hge := numL_ge (b := b) (by omega) r (n * b + d)
    simp only [sub, c310, Tryz.f10, gets, opsAt] at ih hs
    generalize n * b + d = v at *
    rw [L_succ]
    by_cases hq : v < 10 ^ 500
    · have c2 : ((((lm 10 v).length : Nat) : Int) > 500) = False := eq_false (by have := (lm500 v).2 hq; omega)
      have ih := fun s => ih s hq
      simp only [vmr, vmw, vmp, vza, ↓reduceIte, Nat.reduceBEq, Nat.reduceLT, Nat.reduceAdd, Nat.reduceEqDiff, reduceCtorEq, vmt, vzb, vzc, vlen, vleaf, velems, oks, vst, vmd, ty, Nat.reduceLeDiff, Nat.reduceMul, Nat.reduceSub, c310, Tryz.f10, m310, hs, h0, h1, h7, h8, hc, hg, hw, e329b, e329d, e48, e89, e47, hdec, hna, c2, RD_build, fitsI, Option.map_some, List.map_cons, List.map_nil, allflatI, pureLI, shI, import_I, bxs, refsI, refsL, refs, List.isEmpty_nil, List.nil_append, List.append_nil]
      refine ih _ ?_ ?_ ?_ ?_ hx hp
      all_goals simp only [vmr, vmw, vmp, vza, ↓reduceIte, Nat.reduceBEq, Nat.reduceLT, Nat.reduceAdd, Nat.reduceEqDiff, reduceCtorEq, vmt, vzb, vzc, vlen, vleaf, velems, oks, vst, vmd, ty, Nat.reduceLeDiff, Nat.reduceMul, Nat.reduceSub, m310, h0, h1, h7, h8, hw, hna]
    · have c2 : ((((lm 10 v).length : Nat) : Int) > 500) = True := eq_true (by have := mt (lm500 v).1 hq; omega)
      simp only [vmr, vmw, vmp, vza, ↓reduceIte, Nat.reduceBEq, Nat.reduceLT, Nat.reduceAdd, Nat.reduceEqDiff, reduceCtorEq, vmt, vzb, vzc, vlen, vleaf, velems, oks, vst, vmd, ty, Nat.reduceLeDiff, Nat.reduceMul, Nat.reduceSub, c310, Tryz.f10, m310, hs, h0, h1, h7, h8, hc, hg, hw, e329b, e329d, e48, e89, e47, hdec, hna, c2, RD_build, fitsI, Option.map_some, List.map_cons, List.map_nil, allflatI, pureLI, shI, import_I, bxs, refsI, refsL, refs, List.isEmpty_nil, List.nil_append, List.append_nil]
      refine hp _ (by omega) ?_ ?_
      all_goals simp only [vmr, vmw, vmp, vza, ↓reduceIte, Nat.reduceBEq, Nat.reduceLT, Nat.reduceAdd, Nat.reduceEqDiff, reduceCtorEq, vmt, vzb, vzc, vlen, vleaf, velems, oks, vst, vmd, ty, Nat.reduceLeDiff, Nat.reduceMul, Nat.reduceSub, m310]
end Go.Vi
set_option maxRecDepth 100000
set_option maxHeartbeats 1000000
set_option exponentiation.threshold 256
namespace Go.Vi
open Go Go.Proofs

def F310P (n : Nat) (v : V) (r : Option (Ex × St)) : Prop := Fin (M310 (hand T310) n) [.tmp 4, .tmp 5] r = some (.ret v)
set_option exponentiation.threshold 500000 in
theorem w310 (l : List Int) (b : Int) : SoundPure Tryz.prog 10 [Is l, I b] (.ret (numS l b)) := by
  refine s310 hT310 2010 (by simp) numS_pure ?_
  show F310P _ _ _
  unfold numS
  by_cases hb : 2 ≤ b ∧ b ≤ 1000
  · rw [if_pos hb]
    have q1 : (b < 2) = False := eq_false (by omega)
    have q2 : (b > 1000) = False := eq_false (by omega)
    by_cases hl : l.length ≤ 2000
    · rw [if_pos hl]
      have c1 : ((l.length : Int) > 2000) = False := eq_false (by omega)
      have hr0 := @room3 0 (by omega)
      cases ha : l.any (badD b) with
      | true =>
        rw [if_pos rfl]
        have a1 := fun k s => @l310a 2010 k b l hl (F310P 2010 (.tup [.str [], I 4])) l 0 2010 s rfl (by omega)
        simp only [c310, Tryz.f10, gets, sub, opsAt] at a1 ⊢
        simp only [vmr, vmw, vmp, vza, ↓reduceIte, Nat.reduceBEq, Nat.reduceLT, Nat.reduceAdd, Nat.reduceEqDiff, reduceCtorEq, vmt, vzb, vzc, vlen, vleaf, velems, oks, vst, vmd, ty, Nat.reduceLeDiff, Nat.reduceMul, Nat.reduceSub, m310, q1, q2, c1]
        refine a1 _ _ ?_ ?_ ?_ (fun h => absurd (ha.symm.trans h) (by decide)) (fun _ s' h4 h5 => ?_)
        case refine_4 => unfold F310P; simp only [vmr, vmw, vmp, vza, ↓reduceIte, Nat.reduceBEq, Nat.reduceLT, Nat.reduceAdd, Nat.reduceEqDiff, reduceCtorEq, vmt, vzb, vzc, vlen, vleaf, velems, oks, vst, vmd, ty, Nat.reduceLeDiff, Nat.reduceMul, Nat.reduceSub, vzr, m310, h4, h5]
        all_goals simp only [vmr, vmw, vmp, vza, ↓reduceIte, Nat.reduceBEq, Nat.reduceLT, Nat.reduceAdd, Nat.reduceEqDiff, reduceCtorEq, vmt, vzb, vzc, vlen, vleaf, velems, oks, vst, vmd, ty, Nat.reduceLeDiff, Nat.reduceMul, Nat.reduceSub, m310]
      | false =>
        rw [if_neg (by decide)]
        obtain ⟨B, rfl⟩ : ∃ B : Nat, b = B := ⟨b.toNat, by omega⟩
        rw [show ((B : Int)).toNat = B from rfl]
        have hd : ∀ d ∈ l, badD B d = false := fun d hd => by
          cases h : badD B d with
          | false => rfl
          | true => rw [List.any_eq_true.2 ⟨d, hd, h⟩] at ha; cases ha
        by_cases hv : numL B l 0 < 10 ^ 500
        · rw [if_pos hv]
          have a1 := fun k s => @l310a 2010 k B l hl (F310P 2010 (.tup [.str (itxt ((numL B l 0 : Nat) : Int)), I 0])) l 0 2010 s rfl (by omega)
          have a2 := fun k s => @l310b 2010 k B (by omega) (by omega) l hl hd (F310P 2010 (.tup [.str (itxt ((numL B l 0 : Nat) : Int)), I 0])) l 0 0 2010 s rfl (by omega) (Nat.pow_pos (by omega))
          simp only [c310, Tryz.f10, gets, sub, opsAt] at a1 a2 ⊢
          simp only [vmr, vmw, vmp, vza, ↓reduceIte, Nat.reduceBEq, Nat.reduceLT, Nat.reduceAdd, Nat.reduceEqDiff, reduceCtorEq, vmt, vzb, vzc, vlen, vleaf, velems, oks, vst, vmd, ty, Nat.reduceLeDiff, Nat.reduceMul, Nat.reduceSub, m310, q1, q2, c1]
          refine a1 _ _ ?_ ?_ ?_ (fun _ s' h0 h1 => ?_) (fun h => absurd (ha.symm.trans h) (by decide))
          case refine_4 =>
            simp only [vmr, vmw, vmp, vza, ↓reduceIte, Nat.reduceBEq, Nat.reduceLT, Nat.reduceAdd, Nat.reduceEqDiff, reduceCtorEq, vmt, vzb, vzc, vlen, vleaf, velems, oks, vst, vmd, ty, Nat.reduceLeDiff, Nat.reduceMul, Nat.reduceSub, m310, h0, h1, hr0, fitsI, List.map_nil, szi0]
            refine a2 _ _ ?_ ?_ ?_ ?_ (fun s' _ h7 => ?_) (fun s' hbig _ _ => absurd hbig (by omega))
            case refine_5 =>
              have hs : small ((numL B l 0 : Nat) : Int) := hv
              have e56 := F56_eq (z := ((numL B l 0 : Nat) : Int)) (small_k hs)
              have hz : Zr ((numL B l 0 : Nat) : Int) = .agg [.bool false, D (numL B l 0)] := by
                have : decide (((numL B l 0 : Nat) : Int) < 0) = false := decide_eq_false (by omega)
                simp only [Zr, this]
                rfl
              rw [hz] at e56
              unfold F310P
              simp only [vmr, vmw, vmp, vza, ↓reduceIte, Nat.reduceBEq, Nat.reduceLT, Nat.reduceAdd, Nat.reduceEqDiff, reduceCtorEq, vmt, vzb, vzc, vlen, vleaf, velems, oks, vst, vmd, ty, Nat.reduceLeDiff, Nat.reduceMul, Nat.reduceSub, vzr, m310, h7, e56, allflatI, pureLI, shI, import_I]
            all_goals simp only [vmr, vmw, vmp, vza, ↓reduceIte, Nat.reduceBEq, Nat.reduceLT, Nat.reduceAdd, Nat.reduceEqDiff, reduceCtorEq, vmt, vzb, vzc, vlen, vleaf, velems, oks, vst, vmd, ty, Nat.reduceLeDiff, Nat.reduceMul, Nat.reduceSub, m310, h0, h1]
            all_goals rfl
          all_goals simp only [vmr, vmw, vmp, vza, ↓reduceIte, Nat.reduceBEq, Nat.reduceLT, Nat.reduceAdd, Nat.reduceEqDiff, reduceCtorEq, vmt, vzb, vzc, vlen, vleaf, velems, oks, vst, vmd, ty, Nat.reduceLeDiff, Nat.reduceMul, Nat.reduceSub, m310]
        · rw [if_neg hv]
          have a1 := fun k s => @l310a 2010 k B l hl (F310P 2010 (.tup [.str [], I 7])) l 0 2010 s rfl (by omega)
          have a2 := fun k s => @l310b 2010 k B (by omega) (by omega) l hl hd (F310P 2010 (.tup [.str [], I 7])) l 0 0 2010 s rfl (by omega) (Nat.pow_pos (by omega))
          simp only [c310, Tryz.f10, gets, sub, opsAt] at a1 a2 ⊢
          simp only [vmr, vmw, vmp, vza, ↓reduceIte, Nat.reduceBEq, Nat.reduceLT, Nat.reduceAdd, Nat.reduceEqDiff, reduceCtorEq, vmt, vzb, vzc, vlen, vleaf, velems, oks, vst, vmd, ty, Nat.reduceLeDiff, Nat.reduceMul, Nat.reduceSub, m310, q1, q2, c1]
          refine a1 _ _ ?_ ?_ ?_ (fun _ s' h0 h1 => ?_) (fun h => absurd (ha.symm.trans h) (by decide))
          case refine_4 =>
            simp only [vmr, vmw, vmp, vza, ↓reduceIte, Nat.reduceBEq, Nat.reduceLT, Nat.reduceAdd, Nat.reduceEqDiff, reduceCtorEq, vmt, vzb, vzc, vlen, vleaf, velems, oks, vst, vmd, ty, Nat.reduceLeDiff, Nat.reduceMul, Nat.reduceSub, m310, h0, h1, hr0, fitsI, List.map_nil, szi0]
            refine a2 _ _ ?_ ?_ ?_ ?_ (fun s' h _ => absurd h hv) (fun s' hbig h4 h5 => ?_)
            case refine_5 =>
              unfold F310P
              simp only [vmr, vmw, vmp, vza, ↓reduceIte, Nat.reduceBEq, Nat.reduceLT, Nat.reduceAdd, Nat.reduceEqDiff, reduceCtorEq, vmt, vzb, vzc, vlen, vleaf, velems, oks, vst, vmd, ty, Nat.reduceLeDiff, Nat.reduceMul, Nat.reduceSub, vzr, m310, h4, h5]
            all_goals simp only [vmr, vmw, vmp, vza, ↓reduceIte, Nat.reduceBEq, Nat.reduceLT, Nat.reduceAdd, Nat.reduceEqDiff, reduceCtorEq, vmt, vzb, vzc, vlen, vleaf, velems, oks, vst, vmd, ty, Nat.reduceLeDiff, Nat.reduceMul, Nat.reduceSub, m310, h0, h1]
            all_goals rfl
          all_goals simp only [vmr, vmw, vmp, vza, ↓reduceIte, Nat.reduceBEq, Nat.reduceLT, Nat.reduceAdd, Nat.reduceEqDiff, reduceCtorEq, vmt, vzb, vzc, vlen, vleaf, velems, oks, vst, vmd, ty, Nat.reduceLeDiff, Nat.reduceMul, Nat.reduceSub, m310]
    · rw [if_neg hl]
      have c1 : ((l.length : Int) > 2000) = True := eq_true (by omega)
      simp only [c310, Tryz.f10, gets, sub, opsAt]
      unfold F310P
      simp only [vmr, vmw, vmp, vza, ↓reduceIte, Nat.reduceBEq, Nat.reduceLT, Nat.reduceAdd, Nat.reduceEqDiff, reduceCtorEq, vmt, vzb, vzc, vlen, vleaf, velems, oks, vst, vmd, ty, Nat.reduceLeDiff, Nat.reduceMul, Nat.reduceSub, vzr, m310, q1, q2, c1]
  · rw [if_neg hb]
    by_cases h1 : b < 2
    · have q1 := eq_true h1
      simp only [c310, Tryz.f10, gets, sub, opsAt]
      unfold F310P
      simp only [vmr, vmw, vmp, vza, ↓reduceIte, Nat.reduceBEq, Nat.reduceLT, Nat.reduceAdd, Nat.reduceEqDiff, reduceCtorEq, vmt, vzb, vzc, vlen, vleaf, velems, oks, vst, vmd, ty, Nat.reduceLeDiff, Nat.reduceMul, Nat.reduceSub, vzr, m310, q1]
    · have q1 := eq_false h1
      have q2 : (b > 1000) = True := eq_true (by omega)
      simp only [c310, Tryz.f10, gets, sub, opsAt]
      unfold F310P
      simp only [vmr, vmw, vmp, vza, ↓reduceIte, Nat.reduceBEq, Nat.reduceLT, Nat.reduceAdd, Nat.reduceEqDiff, reduceCtorEq, vmt, vzb, vzc, vlen, vleaf, velems, oks, vst, vmd, ty, Nat.reduceLeDiff, Nat.reduceMul, Nat.reduceSub, vzr, m310, q1, q2]
/-! ### slices.Equal -/
theorem l308 {n k} (l : List Int) (hl : l.length ≤ 1000000) {P : Option (Ex × St) → Prop} : ∀ r i n' s, l.drop i = r → r.length < n' → tget s.τ 0 = Is l → tget s.τ 1 = Is l → tget s.τ 12 = I l.length → tget s.τ 13 = I (i : Nat) →
    (∀ s', P (X (M308 (hand []) n) (.exit 0) k s')) →
    P (L (M308 (hand []) n) (sub [1, 1, 0, 1, 0, 0] c308) n' k s)
  | [], i, n' + 1, s, hi, hn, h0, h1, h12, h13, hx => by
    have hc := inlt (drop_nil' hi)
    rw [L_succ]
    simp only [vmr, vmw, vmp, vza, ↓reduceIte, Nat.reduceBEq, Nat.reduceLT, Nat.reduceAdd, Nat.reduceEqDiff, reduceCtorEq, vmt, vzb, vzc, vlen, vleaf, velems, oks, vst, vmd, ty, Nat.reduceLeDiff, Nat.reduceMul, Nat.reduceSub, c308, Tryz.f8, m308, h0, h12, h13, hc]
    exact hx _
  | x :: r, i, n' + 1, s, hi, hn, h0, h1, h12, h13, hx => by
    obtain ⟨hg, hdr, hlt⟩ := drop_cons hi
    have hc := ilt hlt
    have hw := wsucc hlt hl
    have hs : calm (M308 (hand []) n).E (opsAt (sub [1, 1, 0, 1, 0, 0, 1, 1, 0, 0, 1, 0] c308)) = true := by kernel_rfl
    have hxx : (x != x) = false := bne_self_eq_false _
    have ih := fun s => @l308 n k l hl P r (i + 1) n' s hdr (by simp at hn; omega)
    simp only [sub, c308, Tryz.f8, gets, opsAt] at ih hs
    rw [L_succ]
    simp only [vmr, vmw, vmp, vza, ↓reduceIte, Nat.reduceBEq, Nat.reduceLT, Nat.reduceAdd, Nat.reduceEqDiff, reduceCtorEq, vmt, vzb, vzc, vlen, vleaf, velems, oks, vst, vmd, ty, Nat.reduceLeDiff, Nat.reduceMul, Nat.reduceSub, c308, Tryz.f8, m308, hs, h0, h1, h12, h13, hc, hg, hw, hxx, fitsI, Option.map_some, refsI]
    refine ih _ ?_ ?_ ?_ ?_ hx
    all_goals simp only [vmr, vmw, vmp, vza, ↓reduceIte, Nat.reduceBEq, Nat.reduceLT, Nat.reduceAdd, Nat.reduceEqDiff, reduceCtorEq, vmt, vzb, vzc, vlen, vleaf, velems, oks, vst, vmd, ty, Nat.reduceLeDiff, Nat.reduceMul, Nat.reduceSub, m308, h0, h1, h12, h13, hw]
def F308P (n : Nat) (v : V) (r : Option (Ex × St)) : Prop := Fin (M308 (hand []) n) [.tmp 4] r = some (.ret v)
theorem w308 (l : List Int) (hl : l.length ≤ 1000000) : SoundPure Tryz.prog 8 [Is l, Is l] (.ret (.bool true)) := by
  refine s308 (H := []) sound_nil (l.length + 2) (by simp) rfl ?_
  show F308P _ _ _
  have hll : ((l.length : Int) != (l.length : Int)) = false := bne_self_eq_false _
  have a1 := fun k s => @l308 (l.length + 2) k l hl (F308P (l.length + 2) (.bool true)) l 0 (l.length + 2) s rfl (by omega)
  simp only [sub, c308, Tryz.f8, gets] at a1 ⊢
  simp only [vmr, vmw, vmp, vza, ↓reduceIte, Nat.reduceBEq, Nat.reduceLT, Nat.reduceAdd, Nat.reduceEqDiff, reduceCtorEq, vmt, vzb, vzc, vlen, vleaf, velems, oks, vst, vmd, ty, Nat.reduceLeDiff, Nat.reduceMul, Nat.reduceSub, m308, hll]
  refine a1 _ _ ?_ ?_ ?_ ?_ (fun s' => ?_)
  case refine_5 => simp only [vmr, vmw, vmp, vza, ↓reduceIte, Nat.reduceBEq, Nat.reduceLT, Nat.reduceAdd, Nat.reduceEqDiff, reduceCtorEq, vmt, vzb, vzc, vlen, vleaf, velems, oks, vst, vmd, ty, Nat.reduceLeDiff, Nat.reduceMul, Nat.reduceSub, m308]; unfold F308P; simp only [vmr, vmw, vmp, vza, ↓reduceIte, Nat.reduceBEq, Nat.reduceLT, Nat.reduceAdd, Nat.reduceEqDiff, reduceCtorEq, vmt, vzb, vzc, vlen, vleaf, velems, oks, vst, vmd, ty, Nat.reduceLeDiff, Nat.reduceMul, Nat.reduceSub, vzr, m308]
  all_goals simp only [vmr, vmw, vmp, vza, ↓reduceIte, Nat.reduceBEq, Nat.reduceLT, Nat.reduceAdd, Nat.reduceEqDiff, reduceCtorEq, vmt, vzb, vzc, vlen, vleaf, velems, oks, vst, vmd, ty, Nat.reduceLeDiff, Nat.reduceMul, Nat.reduceSub, m308]
noncomputable def F308 : List V → Option V := hF (α := List Int) (fun a => [Is a, Is a]) (fun a => a.length ≤ 1000000) (fun _ => .bool true)
theorem F308_eq {l : List Int} (h : l.length ≤ 1000000) : F308 [Is l, Is l] = some (.bool true) := hF_eq (a := l) (fun a b h => by injection h with h _; exact Is_inj h) (by simp only [cans, canIs]) h
end Go.Vi
