/-
  Walks of the reference's power and Power.
-/
import Derived.Test.YtpdeblfnbcponaaDoorZC
set_option linter.unusedSimpArgs false
set_option linter.unusedVariables false
set_option maxRecDepth 100000
set_option maxHeartbeats 1000000
set_option exponentiation.threshold 256
namespace Go.Vi
open Go Go.Proofs

theorem lm_one' {B s : Nat} (hB : 2 ≤ B) (h0 : 0 < s) (h1 : s < B) : lm B s = [(s : Int)] := by
  have hl : (lm B s).length = 1 := by
    have a1 := (lm_len_le hB s 1).2 (by simpa using h1)
    have a2 : ¬ (lm B s).length = 0 := fun h => by have := (lm_nil hB s).1 h; omega
    omega
  have hg := lm_get hB s 0 (by omega)
  rw [Nat.pow_zero, Nat.div_one, Nat.mod_eq_of_lt h1] at hg
  match h : lm B s, hl, hg with
  | [x], _, hg => simp at hg; rw [hg]
theorem lm500 (r : Nat) : (lm 10 r).length ≤ 500 ↔ r < 10 ^ 500 := lm_len_le b10 r 500
def powD (x n : Nat) : V := if x ^ n < 10 ^ 500 then .tup [D (x ^ n), .bool true] else .tup [Is [], .bool false]
/-- The answer as it is handed back. -/
def powDr (x e : Nat) : V := if x = 0 ∧ 0 < e then .tup [.own 1 [], .bool true] else if e = 0 ∨ x = 1 then .tup [.own 1 [I 1], .bool true] else if x ^ e < 10 ^ 500 then .tup [D (x ^ e), .bool true] else .tup [.nilS, .bool false]
theorem powDr_pure {x e} : pureR (powDr x e) = true := by
  unfold powDr
  split
  · rfl
  · split
    · rfl
    · split
      · show (pureR (D (x ^ e)) && (pureR (.bool true) && true)) = true
        simp only [pureR, pureLI, Bool.and_self]
      · rfl
set_option exponentiation.threshold 500000 in
theorem powDr_imm {x e} : can (imm (powDr x e)) = powD x e := by
  unfold powDr powD
  by_cases h : x = 0 ∧ 0 < e
  · rw [if_pos h]
    obtain ⟨rfl, h⟩ := h
    rw [Nat.zero_pow h, if_pos (Nat.pow_pos (by omega))]
    rfl
  · rw [if_neg h]
    by_cases h2 : e = 0 ∨ x = 1
    · have h3 : x ^ e = 1 := by
        rcases h2 with rfl | rfl
        · exact Nat.pow_zero _
        · exact Nat.one_pow _
      rw [if_pos h2, h3, if_pos one_lt_big]
      rfl
    · rw [if_neg h2]
      split
      · simp only [imm, immL, can, cans, cans_I]
      · rfl
noncomputable abbrev T59 : List (FuncId × (List V → Option V)) := (48, F48) :: []
theorem hT59 : SoundHand Tryd.prog (hand T59) := sound_cons (hF_sound fun a h => w48r a.1 a.2 h.1 h.2) sound_nil
theorem l59 {n k} {x e : Nat} (hx : 2 ≤ x) (hxs : x < 10 ^ 500) (he : e < 9223372036854775808) {P : Option (Ex × St) → Prop} : ∀ d i n' s, 2001 ≤ i + d → d < n' → i ≤ e → x ^ i < 10 ^ 500 → tget s.τ 0 = D x → tget s.τ 1 = I (e : Nat) → tget s.τ 6 = D (x ^ i) → tget s.τ 7 = I (i : Nat) →
    (∀ s', x ^ e < 10 ^ 500 → tget s'.τ 6 = D (x ^ e) → P (X (M59 (hand T59) n) (.exit 0) k s')) →
    (∀ s', 10 ^ 500 ≤ x ^ e → tget s'.τ 4 = .nilS → tget s'.τ 5 = .bool false → P (some (.ret, s'))) →
    P (L (M59 (hand T59) n) (sub [1, 1, 1, 1, 0, 1, 0, 0] c59) n' k s) := by
  intro d
  induction d with
  | zero =>
    intro i n' s hd hn hie hlt h0 h1 h6 h7 hq hr
    have := pow_lt_1700 hx hlt
    omega
  | succ d ih =>
    intro i n' s hd hn hie hlt h0 h1 h6 h7 hq hr
    obtain ⟨n', rfl⟩ : ∃ m, n' = m + 1 := ⟨n' - 1, by omega⟩
    by_cases hi : i = e
    · subst hi
      have hc : ((i : Int) < (i : Int)) = False := eq_false (by omega)
      rw [L_succ]
      simp only [vmr, vmw, vmp, vza, ↓reduceIte, Nat.reduceBEq, Nat.reduceLT, Nat.reduceAdd, Nat.reduceEqDiff, reduceCtorEq, vmt, vzb, vzc, vlen, vleaf, velems, oks, vst, vmd, ty, Nat.reduceLeDiff, Nat.reduceMul, Nat.reduceSub, c59, Tryd.f59, m59, h1, h7, hc]
      refine hq _ hlt ?_
      simp only [vmr, vmw, vmp, vza, ↓reduceIte, Nat.reduceBEq, Nat.reduceLT, Nat.reduceAdd, Nat.reduceEqDiff, reduceCtorEq, vmt, vzb, vzc, vlen, vleaf, velems, oks, vst, vmd, ty, Nat.reduceLeDiff, Nat.reduceMul, Nat.reduceSub, m59, h6]
    · have hc : ((i : Int) < (e : Int)) = True := eq_true (by omega)
      have hi2 := pow_lt_1700 hx hlt
      have w1 := wsucc9' (i := i) (by omega)
      have e48 := F48_eq (x := x ^ i) (y := x) (small_short (z := ((x ^ i : Nat) : Int)) hlt) (small_short (z := ((x : Nat) : Int)) hxs)
      rw [← Nat.pow_succ] at e48
      by_cases hb : x ^ (i + 1) < 10 ^ 500
      · have hc2 : ((((lm 10 (x ^ (i + 1))).length : Nat) : Int) > 500) = False := eq_false (by have := (lm500 _).2 hb; omega)
        have ih := fun s => ih (i + 1) n' s (by omega) (by omega) (by omega) hb
        simp only [sub, c59, Tryd.f59, gets] at ih
        rw [L_succ]
        simp only [vmr, vmw, vmp, vza, ↓reduceIte, Nat.reduceBEq, Nat.reduceLT, Nat.reduceAdd, Nat.reduceEqDiff, reduceCtorEq, vmt, vzb, vzc, vlen, vleaf, velems, oks, vst, vmd, ty, Nat.reduceLeDiff, Nat.reduceMul, Nat.reduceSub, c59, Tryd.f59, m59, h0, h1, h6, h7, hc, e48, hc2, w1, allflatI, pureLI, shI, import_I]
        refine ih _ ?_ ?_ ?_ ?_ hq hr
        all_goals simp only [vmr, vmw, vmp, vza, ↓reduceIte, Nat.reduceBEq, Nat.reduceLT, Nat.reduceAdd, Nat.reduceEqDiff, reduceCtorEq, vmt, vzb, vzc, vlen, vleaf, velems, oks, vst, vmd, ty, Nat.reduceLeDiff, Nat.reduceMul, Nat.reduceSub, m59, h0, h1]
      · have hc2 : ((((lm 10 (x ^ (i + 1))).length : Nat) : Int) > 500) = True := eq_true (by have := mt (lm500 (x ^ (i + 1))).1 hb; omega)
        have hbig : 10 ^ 500 ≤ x ^ e := Nat.le_trans (by omega) (Nat.pow_le_pow_right (by omega) (show i + 1 ≤ e by omega))
        rw [L_succ]
        simp only [vmr, vmw, vmp, vza, ↓reduceIte, Nat.reduceBEq, Nat.reduceLT, Nat.reduceAdd, Nat.reduceEqDiff, reduceCtorEq, vmt, vzb, vzc, vlen, vleaf, velems, oks, vst, vmd, ty, Nat.reduceLeDiff, Nat.reduceMul, Nat.reduceSub, c59, Tryd.f59, m59, h0, h1, h6, h7, hc, e48, hc2, w1, allflatI, pureLI, shI, import_I]
        refine hr _ hbig ?_ ?_
        all_goals simp only [vmr, vmw, vmp, vza, ↓reduceIte, Nat.reduceBEq, Nat.reduceLT, Nat.reduceAdd, Nat.reduceEqDiff, reduceCtorEq, vmt, vzb, vzc, vlen, vleaf, velems, oks, vst, vmd, ty, Nat.reduceLeDiff, Nat.reduceMul, Nat.reduceSub, m59]
def F59P (n : Nat) (v : V) (r : Option (Ex × St)) : Prop := Fin (M59 (hand T59) n) [.tmp 4, .tmp 5] r = some (.ret v)
set_option exponentiation.threshold 500000 in
theorem k59 (x e : Nat) (hxs : x < 10 ^ 500) (he : e < 9223372036854775808) : SoundPure Tryd.prog 59 [D x, I (e : Nat)] (.ret (powDr x e)) := by
  refine s59 hT59 2010 (by simp) powDr_pure ?_
  show F59P 2010 (powDr x e) _
  have hr1 := @room3 1 (by omega)
  have hr0 := @room3 0 (by omega)
  have g1 : e = 0 → ((e : Int) > 0) = False := fun h => eq_false (by omega)
  have g2 : ¬ e = 0 → ((e : Int) > 0) = True := fun h => eq_true (by omega)
  by_cases h0 : x = 0
  · subst h0
    have hl : ((((lm 10 0).length : Nat) : Int) == 0) = true := rfl
    have hl1 : ((((lm 10 0).length : Nat) : Int) == 1) = false := rfl
    by_cases h2 : e = 0
    · have hv : powDr 0 e = .tup [.own 1 [I 1], .bool true] := by unfold powDr; rw [if_neg (by omega), if_pos (.inl h2)]
      rw [hv, show (2010 : Nat) = 2009 + 1 from rfl]
      have c2 : ((0 : Int) < (e : Int)) = False := eq_false (by omega)
      simp only [c59, Tryd.f59, gets, sub]
      simp only [vmr, vmw, vmp, vza, ↓reduceIte, Nat.reduceBEq, Nat.reduceLT, Nat.reduceAdd, Nat.reduceEqDiff, reduceCtorEq, vmt, vzb, vzc, vlen, vleaf, velems, oks, vst, vmd, ty, Nat.reduceLeDiff, Nat.reduceMul, Nat.reduceSub, m59, hl, hl1, g1 h2, hr1, hr0, fitsI, List.map_cons]
      rw [L_succ]
      simp only [vmr, vmw, vmp, vza, ↓reduceIte, Nat.reduceBEq, Nat.reduceLT, Nat.reduceAdd, Nat.reduceEqDiff, reduceCtorEq, vmt, vzb, vzc, vlen, vleaf, velems, oks, vst, vmd, ty, Nat.reduceLeDiff, Nat.reduceMul, Nat.reduceSub, m59, c2]
      unfold F59P
      simp only [vmr, vmw, vmp, vza, ↓reduceIte, Nat.reduceBEq, Nat.reduceLT, Nat.reduceAdd, Nat.reduceEqDiff, reduceCtorEq, vmt, vzb, vzc, vlen, vleaf, velems, oks, vst, vmd, ty, Nat.reduceLeDiff, Nat.reduceMul, Nat.reduceSub, vzr, m59]
    · have hv : powDr 0 e = .tup [.own 1 [], .bool true] := by unfold powDr; rw [if_pos ⟨rfl, by omega⟩]
      rw [hv]
      simp only [c59, Tryd.f59, gets, sub]
      simp only [vmr, vmw, vmp, vza, ↓reduceIte, Nat.reduceBEq, Nat.reduceLT, Nat.reduceAdd, Nat.reduceEqDiff, reduceCtorEq, vmt, vzb, vzc, vlen, vleaf, velems, oks, vst, vmd, ty, Nat.reduceLeDiff, Nat.reduceMul, Nat.reduceSub, m59, hl, hl1, g2 h2, hr1, hr0, fitsI, List.map_cons]
      unfold F59P
      simp only [vmr, vmw, vmp, vza, ↓reduceIte, Nat.reduceBEq, Nat.reduceLT, Nat.reduceAdd, Nat.reduceEqDiff, reduceCtorEq, vmt, vzb, vzc, vlen, vleaf, velems, oks, vst, vmd, ty, Nat.reduceLeDiff, Nat.reduceMul, Nat.reduceSub, vzr, m59]
  · have hl : ((((lm 10 x).length : Nat) : Int) == 0) = false := by rw [beq_eq_false_iff_ne]; have := mt (lm_nil b10 x).1 h0; omega
    by_cases h1 : x = 1
    · subst h1
      have hv : powDr 1 e = .tup [.own 1 [I 1], .bool true] := by unfold powDr; rw [if_neg (by omega), if_pos (.inr rfl)]
      rw [hv]
      have hD : D 1 = .lst [I 1] := rfl
      rw [hD]
      simp only [c59, Tryd.f59, gets, sub]
      simp only [vmr, vmw, vmp, vza, ↓reduceIte, Nat.reduceBEq, Nat.reduceLT, Nat.reduceAdd, Nat.reduceEqDiff, reduceCtorEq, vmt, vzb, vzc, vlen, vleaf, velems, oks, vst, vmd, ty, Nat.reduceLeDiff, Nat.reduceMul, Nat.reduceSub, m59, hr1, hr0, fitsI, List.map_cons, Int.reduceBEq, Int.toNat_zero]
      unfold F59P
      simp only [vmr, vmw, vmp, vza, ↓reduceIte, Nat.reduceBEq, Nat.reduceLT, Nat.reduceAdd, Nat.reduceEqDiff, reduceCtorEq, vmt, vzb, vzc, vlen, vleaf, velems, oks, vst, vmd, ty, Nat.reduceLeDiff, Nat.reduceMul, Nat.reduceSub, vzr, m59]
    · have hne : ((((lm 10 x).length : Nat) : Int) == 1) = false ∨ ((((lm 10 x).length : Nat) : Int) == 1) = true ∧ ((lm 10 x).map I)[0]? = some (I (x : Nat)) ∧ (((x : Nat) : Int) == 1) = false := by
        by_cases h10 : x < 10
        · right
          rw [lm_one' b10 (by omega) h10]
          exact ⟨rfl, rfl, by rw [beq_eq_false_iff_ne]; omega⟩
        · left
          rw [beq_eq_false_iff_ne]
          have := mt (lm_len_le b10 x 1).1 (by omega)
          omega
      by_cases h2 : e = 0
      · have hv : powDr x e = .tup [.own 1 [I 1], .bool true] := by unfold powDr; rw [if_neg (by omega), if_pos (.inl h2)]
        rw [hv, show (2010 : Nat) = 2009 + 1 from rfl]
        have c2 : ((0 : Int) < (e : Int)) = False := eq_false (by omega)
        simp only [c59, Tryd.f59, gets, sub]
        rcases hne with hl1 | ⟨hl1, hg, hx1⟩
        · simp only [vmr, vmw, vmp, vza, ↓reduceIte, Nat.reduceBEq, Nat.reduceLT, Nat.reduceAdd, Nat.reduceEqDiff, reduceCtorEq, vmt, vzb, vzc, vlen, vleaf, velems, oks, vst, vmd, ty, Nat.reduceLeDiff, Nat.reduceMul, Nat.reduceSub, m59, hl, hl1, hr1, hr0, fitsI, List.map_cons]
          rw [L_succ]
          simp only [vmr, vmw, vmp, vza, ↓reduceIte, Nat.reduceBEq, Nat.reduceLT, Nat.reduceAdd, Nat.reduceEqDiff, reduceCtorEq, vmt, vzb, vzc, vlen, vleaf, velems, oks, vst, vmd, ty, Nat.reduceLeDiff, Nat.reduceMul, Nat.reduceSub, m59, c2]
          unfold F59P
          simp only [vmr, vmw, vmp, vza, ↓reduceIte, Nat.reduceBEq, Nat.reduceLT, Nat.reduceAdd, Nat.reduceEqDiff, reduceCtorEq, vmt, vzb, vzc, vlen, vleaf, velems, oks, vst, vmd, ty, Nat.reduceLeDiff, Nat.reduceMul, Nat.reduceSub, vzr, m59]
        · have hg' : (lm 10 x)[0]? = some ((x : Nat) : Int) := by
            rw [List.getElem?_map] at hg
            cases hh : (lm 10 x)[0]? with
            | none => rw [hh] at hg; cases hg
            | some y => rw [hh] at hg; injection hg with hg; rw [I_inj hg]
          simp only [vmr, vmw, vmp, vza, ↓reduceIte, Nat.reduceBEq, Nat.reduceLT, Nat.reduceAdd, Nat.reduceEqDiff, reduceCtorEq, vmt, vzb, vzc, vlen, vleaf, velems, oks, vst, vmd, ty, Nat.reduceLeDiff, Nat.reduceMul, Nat.reduceSub, m59, hl, hl1, hg', hx1, hr1, hr0, fitsI, List.map_cons, Option.map_some, Int.toNat_zero]
          rw [L_succ]
          simp only [vmr, vmw, vmp, vza, ↓reduceIte, Nat.reduceBEq, Nat.reduceLT, Nat.reduceAdd, Nat.reduceEqDiff, reduceCtorEq, vmt, vzb, vzc, vlen, vleaf, velems, oks, vst, vmd, ty, Nat.reduceLeDiff, Nat.reduceMul, Nat.reduceSub, m59, c2]
          unfold F59P
          simp only [vmr, vmw, vmp, vza, ↓reduceIte, Nat.reduceBEq, Nat.reduceLT, Nat.reduceAdd, Nat.reduceEqDiff, reduceCtorEq, vmt, vzb, vzc, vlen, vleaf, velems, oks, vst, vmd, ty, Nat.reduceLeDiff, Nat.reduceMul, Nat.reduceSub, vzr, m59]
      · have c2 : ((0 : Int) < (e : Int)) = True := eq_true (by omega)
        have e48 : F48 [.lst [I 1], D x] = some (D (1 * x)) := F48_eq (x := 1) (y := x) (by decide) (small_short (z := ((x : Nat) : Int)) hxs)
        rw [Nat.one_mul] at e48
        have hc2 : ((((lm 10 x).length : Nat) : Int) > 500) = False := eq_false (by have := (lm500 _).2 hxs; omega)
        have a1 := fun k s => @l59 2010 k x e (by omega) hxs he (F59P 2010 (powDr x e)) 2005 1 2009 s (by omega) (by omega) (by omega) (by rw [Nat.pow_one]; exact hxs)
        rw [Nat.pow_one] at a1
        simp only [sub, c59, Tryd.f59, gets] at a1 ⊢
        rcases hne with hl1 | ⟨hl1, hg, hx1⟩
        · simp only [vmr, vmw, vmp, vza, ↓reduceIte, Nat.reduceBEq, Nat.reduceLT, Nat.reduceAdd, Nat.reduceEqDiff, reduceCtorEq, vmt, vzb, vzc, vlen, vleaf, velems, oks, vst, vmd, ty, Nat.reduceLeDiff, Nat.reduceMul, Nat.reduceSub, m59, hl, hl1, hr1, hr0, fitsI, List.map_cons]
          rw [show (2010 : Nat) = 2009 + 1 from rfl, L_succ]
          simp only [vmr, vmw, vmp, vza, ↓reduceIte, Nat.reduceBEq, Nat.reduceLT, Nat.reduceAdd, Nat.reduceEqDiff, reduceCtorEq, vmt, vzb, vzc, vlen, vleaf, velems, oks, vst, vmd, ty, Nat.reduceLeDiff, Nat.reduceMul, Nat.reduceSub, m59, c2, e48, hc2, allflatI, pureLI, shI, import_I]
          refine a1 _ _ ?_ ?_ ?_ ?_ (fun s' hlt h6 => ?_) (fun s' hge h4 h5 => ?_)
          case refine_5 =>
            unfold powDr
            rw [if_neg (by omega), if_neg (by omega), if_pos hlt]
            simp only [vmr, vmw, vmp, vza, ↓reduceIte, Nat.reduceBEq, Nat.reduceLT, Nat.reduceAdd, Nat.reduceEqDiff, reduceCtorEq, vmt, vzb, vzc, vlen, vleaf, velems, oks, vst, vmd, ty, Nat.reduceLeDiff, Nat.reduceMul, Nat.reduceSub, m59, h6]
            unfold F59P
            simp only [vmr, vmw, vmp, vza, ↓reduceIte, Nat.reduceBEq, Nat.reduceLT, Nat.reduceAdd, Nat.reduceEqDiff, reduceCtorEq, vmt, vzb, vzc, vlen, vleaf, velems, oks, vst, vmd, ty, Nat.reduceLeDiff, Nat.reduceMul, Nat.reduceSub, vzr, m59]
          case refine_6 =>
            unfold powDr
            rw [if_neg (by omega), if_neg (by omega), if_neg (by omega)]
            unfold F59P
            simp only [vmr, vmw, vmp, vza, ↓reduceIte, Nat.reduceBEq, Nat.reduceLT, Nat.reduceAdd, Nat.reduceEqDiff, reduceCtorEq, vmt, vzb, vzc, vlen, vleaf, velems, oks, vst, vmd, ty, Nat.reduceLeDiff, Nat.reduceMul, Nat.reduceSub, vzr, m59, h4, h5]
          all_goals simp only [vmr, vmw, vmp, vza, ↓reduceIte, Nat.reduceBEq, Nat.reduceLT, Nat.reduceAdd, Nat.reduceEqDiff, reduceCtorEq, vmt, vzb, vzc, vlen, vleaf, velems, oks, vst, vmd, ty, Nat.reduceLeDiff, Nat.reduceMul, Nat.reduceSub, m59]
          rfl
        · have hg' : (lm 10 x)[0]? = some ((x : Nat) : Int) := by
            rw [List.getElem?_map] at hg
            cases hh : (lm 10 x)[0]? with
            | none => rw [hh] at hg; cases hg
            | some y => rw [hh] at hg; injection hg with hg; rw [I_inj hg]
          simp only [vmr, vmw, vmp, vza, ↓reduceIte, Nat.reduceBEq, Nat.reduceLT, Nat.reduceAdd, Nat.reduceEqDiff, reduceCtorEq, vmt, vzb, vzc, vlen, vleaf, velems, oks, vst, vmd, ty, Nat.reduceLeDiff, Nat.reduceMul, Nat.reduceSub, m59, hl, hl1, hg', hx1, hr1, hr0, fitsI, List.map_cons, Option.map_some, Int.toNat_zero]
          rw [show (2010 : Nat) = 2009 + 1 from rfl, L_succ]
          simp only [vmr, vmw, vmp, vza, ↓reduceIte, Nat.reduceBEq, Nat.reduceLT, Nat.reduceAdd, Nat.reduceEqDiff, reduceCtorEq, vmt, vzb, vzc, vlen, vleaf, velems, oks, vst, vmd, ty, Nat.reduceLeDiff, Nat.reduceMul, Nat.reduceSub, m59, c2, e48, hc2, allflatI, pureLI, shI, import_I]
          refine a1 _ _ ?_ ?_ ?_ ?_ (fun s' hlt h6 => ?_) (fun s' hge h4 h5 => ?_)
          case refine_5 =>
            unfold powDr
            rw [if_neg (by omega), if_neg (by omega), if_pos hlt]
            simp only [vmr, vmw, vmp, vza, ↓reduceIte, Nat.reduceBEq, Nat.reduceLT, Nat.reduceAdd, Nat.reduceEqDiff, reduceCtorEq, vmt, vzb, vzc, vlen, vleaf, velems, oks, vst, vmd, ty, Nat.reduceLeDiff, Nat.reduceMul, Nat.reduceSub, m59, h6]
            unfold F59P
            simp only [vmr, vmw, vmp, vza, ↓reduceIte, Nat.reduceBEq, Nat.reduceLT, Nat.reduceAdd, Nat.reduceEqDiff, reduceCtorEq, vmt, vzb, vzc, vlen, vleaf, velems, oks, vst, vmd, ty, Nat.reduceLeDiff, Nat.reduceMul, Nat.reduceSub, vzr, m59]
          case refine_6 =>
            unfold powDr
            rw [if_neg (by omega), if_neg (by omega), if_neg (by omega)]
            unfold F59P
            simp only [vmr, vmw, vmp, vza, ↓reduceIte, Nat.reduceBEq, Nat.reduceLT, Nat.reduceAdd, Nat.reduceEqDiff, reduceCtorEq, vmt, vzb, vzc, vlen, vleaf, velems, oks, vst, vmd, ty, Nat.reduceLeDiff, Nat.reduceMul, Nat.reduceSub, vzr, m59, h4, h5]
          all_goals simp only [vmr, vmw, vmp, vza, ↓reduceIte, Nat.reduceBEq, Nat.reduceLT, Nat.reduceAdd, Nat.reduceEqDiff, reduceCtorEq, vmt, vzb, vzc, vlen, vleaf, velems, oks, vst, vmd, ty, Nat.reduceLeDiff, Nat.reduceMul, Nat.reduceSub, m59]
          rfl
theorem w59 (x e : Nat) (hxs : x < 10 ^ 500) (he : e < 9223372036854775808) : SoundPure Tryd.prog 59 [D x, I (e : Nat)] (.ret (powD x e)) := by
  have := sound_imm (k59 x e hxs he) powDr_pure
  rw [powDr_imm] at this
  exact this
noncomputable def F59 : List V → Option V := hF (α := Nat × Nat) (fun a => [D a.1, I (a.2 : Nat)]) (fun a => a.1 < 10 ^ 500 ∧ a.2 < 9223372036854775808) (fun a => powD a.1 a.2)
theorem F59_eq {x e : Nat} (h : x < 10 ^ 500) (he : e < 9223372036854775808) : F59 [D x, I (e : Nat)] = some (powD x e) := hF_eq (a := (x, e)) (fun a b h => by
  injection h with h1 h2
  injection h2 with h2 _
  exact Prod.ext (lm_inj (by omega) (Is_inj h1)) (natI_inj h2)) (by simp only [cans, canD, canI]) ⟨h, he⟩
noncomputable abbrev T18 : List (FuncId × (List V → Option V)) := (59, F59) :: (56, F56) :: T32
theorem hT18 : SoundHand Tryd.prog (hand T18) := sound_cons (hF_sound fun a h => w59 a.1 a.2 h.1 h.2) <| sound_cons (hF_sound fun a h => w56 a h) hT32
theorem F56_small {z : Int} (h : small z) : F56 [Zr z] = some (.str (itxt z)) := F56_eq (small_k h)
theorem w18 (a : List UInt8) (e : Int) (he : e < 9223372036854775808) : SoundPure Tryd.prog 18 [.str a, I e] (.ret (powS a e)) := by
  refine s18 hT18 6 (by simp) powS_pure ?_
  unfold powS
  have hs : calm (M18 (hand T18) 6).E (opsAt (sub [1, 1, 1, 1, 1, 1, 1, 1, 1, 0] c18)) = true := by kernel_rfl
  cases ha : validB a with
  | false =>
    have e31 := F31_eq a
    rw [ha] at e31
    simp only [Bool.false_eq_true, if_false]
    simp only [c18, Tryd.f18, gets, sub, opsAt]
    simp only [vmr, vmw, vmp, vza, ↓reduceIte, Nat.reduceBEq, Nat.reduceLT, Nat.reduceAdd, Nat.reduceEqDiff, reduceCtorEq, vmt, vzb, vzc, vlen, vleaf, velems, oks, vst, vmd, ty, Nat.reduceLeDiff, Nat.reduceMul, Nat.reduceSub, vzr, m18, e31]
  | true =>
    have e31 := F31_eq a
    rw [ha] at e31
    simp only [if_true]
    have ea := F45_eq ha
    have sa := ival_small ha
    generalize ival a = x at *
    by_cases hn : e < 0
    · rw [if_pos hn]
      have hc := eq_true hn
      simp only [c18, Tryd.f18, gets, sub, opsAt]
      simp only [vmr, vmw, vmp, vza, ↓reduceIte, Nat.reduceBEq, Nat.reduceLT, Nat.reduceAdd, Nat.reduceEqDiff, reduceCtorEq, vmt, vzb, vzc, vlen, vleaf, velems, oks, vst, vmd, ty, Nat.reduceLeDiff, Nat.reduceMul, Nat.reduceSub, vzr, m18, e31, hc]
    · rw [if_neg hn]
      have hc := eq_false hn
      obtain ⟨n, rfl⟩ : ∃ n : Nat, e = n := ⟨e.toNat, by omega⟩
      have e59 := F59_eq (x := x.natAbs) (e := n) sa (by omega)
      rw [show ((n : Int)).toNat = n from rfl]
      unfold powD at e59
      simp only [c18, Tryd.f18, gets, sub, opsAt] at hs ⊢
      by_cases hb : x.natAbs ^ n < 10 ^ 500
      · rw [if_pos hb]
        rw [if_pos hb] at e59
        have ep := F47_posD (small_m hb)
        have en := F47_negD (small_m hb)
        have hsm : small ((x.natAbs ^ n : Nat) : Int) := by show Int.natAbs _ < _; rw [Int.natAbs_natCast]; exact hb
        have tp := F56_small hsm
        have tq := F56_small (z := -((x.natAbs ^ n : Nat) : Int)) (by show Int.natAbs _ < _; rw [Int.natAbs_neg]; exact hsm)
        have w2 : Int.tmod (n : Int) 2 = ((n % 2 : Nat) : Int) := rfl
        have n2 : ((2 : Int) = 0) = False := by decide
        by_cases hx : x < 0
        · have hv := neg_pow x.natAbs n
          have dx := decide_eq_true hx
          rw [show -((x.natAbs : Nat) : Int) = x by omega] at hv
          by_cases hm : n % 2 = 1
          · rw [if_pos hm] at hv
            have hm2 : (((n % 2 : Nat) : Int) == 1) = true := by rw [hm]; rfl
            rw [hv]
            simp only [vmr, vmw, vmp, vza, ↓reduceIte, Nat.reduceBEq, Nat.reduceLT, Nat.reduceAdd, Nat.reduceEqDiff, reduceCtorEq, vmt, vzb, vzc, vlen, vleaf, velems, oks, vst, vmd, ty, Nat.reduceLeDiff, Nat.reduceMul, Nat.reduceSub, vzr, m18, hs, e31, hc, ea, e59, dx, w2, n2, hm2, en, tq, RD_build, bxs, refsI, refsL, refs, shI, pureLI, allflatI, import_I, List.isEmpty_nil, List.nil_append, List.append_nil]
          · rw [if_neg hm] at hv
            have hm2 : (((n % 2 : Nat) : Int) == 1) = false := by rw [beq_eq_false_iff_ne]; omega
            rw [hv]
            simp only [vmr, vmw, vmp, vza, ↓reduceIte, Nat.reduceBEq, Nat.reduceLT, Nat.reduceAdd, Nat.reduceEqDiff, reduceCtorEq, vmt, vzb, vzc, vlen, vleaf, velems, oks, vst, vmd, ty, Nat.reduceLeDiff, Nat.reduceMul, Nat.reduceSub, vzr, m18, hs, e31, hc, ea, e59, dx, w2, n2, hm2, ep, tp, RD_build, bxs, refsI, refsL, refs, shI, pureLI, allflatI, import_I, List.isEmpty_nil, List.nil_append, List.append_nil]
        · have hv : x ^ n = ((x.natAbs ^ n : Nat) : Int) := by rw [Int.natCast_pow, show ((x.natAbs : Nat) : Int) = x by omega]
          have dx := decide_eq_false hx
          rw [hv]
          simp only [vmr, vmw, vmp, vza, ↓reduceIte, Nat.reduceBEq, Nat.reduceLT, Nat.reduceAdd, Nat.reduceEqDiff, reduceCtorEq, vmt, vzb, vzc, vlen, vleaf, velems, oks, vst, vmd, ty, Nat.reduceLeDiff, Nat.reduceMul, Nat.reduceSub, vzr, m18, hs, e31, hc, ea, e59, dx, ep, tp, RD_build, bxs, refsI, refsL, refs, shI, pureLI, allflatI, import_I, List.isEmpty_nil, List.nil_append, List.append_nil]
      · rw [if_neg hb]
        rw [if_neg hb] at e59
        simp only [vmr, vmw, vmp, vza, ↓reduceIte, Nat.reduceBEq, Nat.reduceLT, Nat.reduceAdd, Nat.reduceEqDiff, reduceCtorEq, vmt, vzb, vzc, vlen, vleaf, velems, oks, vst, vmd, ty, Nat.reduceLeDiff, Nat.reduceMul, Nat.reduceSub, vzr, m18, hs, e31, hc, ea, e59, shI, pureLI, allflatI, import_I, List.map_nil]
end Go.Vi
set_option maxRecDepth 100000
set_option maxHeartbeats 1000000
set_option exponentiation.threshold 256
namespace Go.Vi
open Go Go.Proofs

noncomputable abbrev T20 : List (FuncId × (List V → Option V)) := (64, F64) :: T18
theorem hT20 : SoundHand Tryd.prog (hand T20) := sound_cons (hF_sound fun a h => w64r a.1 a.2 h.1 h.2) hT18
structure P20 (s : St) (x e la v6 v7 A : Nat) : Prop where
  h1 : tget s.τ 1 = I (e : Nat)
  h6 : tget s.τ 6 = .ptr ⟨0, 6, 0⟩ v6 0 0
  h6' : lget s.L (6, 0) = some (v6, .var [.bool false, D x])
  h7 : tget s.τ 7 = .ref ⟨0, 7, 0⟩ v7 0 la
  h7' : lget s.L (7, 0) = some (v7, .arr 1 ((fx 10 la A).map I))
set_option exponentiation.threshold 500000 in
theorem big_short {n : Nat} (h : n < 10 ^ 500) : short n := Nat.lt_of_lt_of_le h (Nat.pow_le_pow_right (by omega) (by omega))
set_option exponentiation.threshold 500000 in
theorem l20b {n k} (x e la i R v6 v7 : Nat) (he1 : 1 ≤ e) (he : e ≤ 1000) (hx : x < 10 ^ 500) (hi : i < la) (hla : la ≤ 500) (hRe : R = rootN e x) (hR : R < 10 ^ la) {P : Option (Ex × St) → Prop} : ∀ f c n' s, c + f = 10 → f < n' →
    c ≤ R / 10 ^ i % 10 → P20 s x e la v6 v7 (R / 10 ^ (i + 1) * 10 ^ (i + 1) + c * 10 ^ i) → tget s.τ 8 = I (i : Nat) →
    (∀ s', P20 s' x e la v6 v7 (R / 10 ^ (i + 1) * 10 ^ (i + 1) + R / 10 ^ i % 10 * 10 ^ i) → tget s'.τ 8 = I (i : Nat) → P (X (M20 (hand T20) n) (.exit 2) k s')) →
    P (L (M20 (hand T20) n) (sub [1, 1, 1, 1, 1, 1, 1, 0, 1, 0, 0, 1, 0, 0, 0, 0] c20) n' k s) := by
  have hir : ((i : Int) < (la : Int)) = True := eq_true (by omega)
  have hdB := Nat.mod_lt (R / 10 ^ i) (show 0 < 10 by omega)
  intro f
  induction f with
  | zero => intro c n' s hf hn h1; omega
  | succ f ih =>
    intro c n' s hf hn hc hP h8 hq
    obtain ⟨n', rfl⟩ : ∃ m, n' = m + 1 := ⟨n' - 1, by omega⟩
    obtain ⟨h1, h6, h6', h7, h7'⟩ := hP
    have hcB : c < 10 := by omega
    have hgc : (fx 10 la (R / 10 ^ (i + 1) * 10 ^ (i + 1) + c * 10 ^ i))[i]? = some ((c : Nat) : Int) := by
      rw [fx_get 10 la _ i hi, trial_get b10 hcB]
    rw [L_succ]
    by_cases h9 : c = 9
    · have q : ((c : Int) < 9) = False := eq_false (by omega)
      simp only [vmr, vmw, vmp, vza, ↓reduceIte, Nat.reduceBEq, Nat.reduceLT, Nat.reduceAdd, Nat.reduceEqDiff, reduceCtorEq, vmt, vzb, vzc, vlen, vleaf, velems, oks, vst, vmd, ty, Nat.reduceLeDiff, Nat.reduceMul, Nat.reduceSub, c20, Tryd.f20, m20, h7, h7', h8, hir, hgc, fx_len, Option.map_some, q]
      refine hq _ ⟨?_, ?_, ?_, ?_, ?_⟩ ?_
      case refine_5 =>
        have : c = R / 10 ^ i % 10 := by omega
        rw [← this]
        simp only [vmr, vmw, vmp, vza, ↓reduceIte, Nat.reduceBEq, Nat.reduceLT, Nat.reduceAdd, Nat.reduceEqDiff, reduceCtorEq, vmt, vzb, vzc, vlen, vleaf, velems, oks, vst, vmd, ty, Nat.reduceLeDiff, Nat.reduceMul, Nat.reduceSub, m20, h7']
      all_goals simp only [vmr, vmw, vmp, vza, ↓reduceIte, Nat.reduceBEq, Nat.reduceLT, Nat.reduceAdd, Nat.reduceEqDiff, reduceCtorEq, vmt, vzb, vzc, vlen, vleaf, velems, oks, vst, vmd, ty, Nat.reduceLeDiff, Nat.reduceMul, Nat.reduceSub, m20, h1, h6, h6', h7, h8]
    · have q : ((c : Int) < 9) = True := eq_true (by omega)
      have hc1 : c + 1 < 10 := by omega
      have wc := wsucc9' (i := c) (by omega)
      have wm : IntKind.i64.wrap (((c + 1 : Nat) : Int) - 1) = ((c : Nat) : Int) := by rw [wrap_id] <;> omega
      have hst := congrArg (List.map I) (trial_set (Q := R / 10 ^ (i + 1)) (la := la) b10 hi hcB hc1)
      rw [← setI] at hst
      have hst2 := congrArg (List.map I) (trial_set (Q := R / 10 ^ (i + 1)) (la := la) b10 hi hc1 hcB)
      rw [← setI] at hst2
      have hgc1 : (fx 10 la (R / 10 ^ (i + 1) * 10 ^ (i + 1) + (c + 1) * 10 ^ i))[i]? = some ((c + 1 : Nat) : Int) := by
        rw [fx_get 10 la _ i hi, trial_get b10 hc1]
      have htk := take_of (fx 10 la (R / 10 ^ (i + 1) * 10 ^ (i + 1) + (c + 1) * 10 ^ i)) (fx_len ..)
      have hlt := trial_lt (c := c + 1) b10 hR hi hc1
      have e47 := F47_D (k := la) (by omega) hlt
      have hbig : R / 10 ^ (i + 1) * 10 ^ (i + 1) + (c + 1) * 10 ^ i < 10 ^ 500 := Nat.lt_of_lt_of_le hlt (Nat.pow_le_pow_right (by omega) hla)
      have e59 := F59_eq (e := e) hbig (by omega)
      have hdec : (R / 10 ^ (i + 1) * 10 ^ (i + 1) + (c + 1) * 10 ^ i) ^ e ≤ x ↔ c + 1 ≤ R / 10 ^ i % 10 := by
        rw [root_iff he1, ← hRe]
        exact root_digit b10 hc1
      have hr0 := @room3 0 (by omega)
      have hr1 := @room3 la (by omega)
      have hr2 := @room3 (0 + la) (by omega)
      have ih := fun s (h : c + 1 ≤ R / 10 ^ i % 10) => ih (c + 1) n' s (by omega) (by omega) h
      have hcd : ¬ c + 1 ≤ R / 10 ^ i % 10 → c = R / 10 ^ i % 10 := fun h => by omega
      have hq' : ¬ c + 1 ≤ R / 10 ^ i % 10 → ∀ (s' : St), P20 s' x e la v6 v7 (R / 10 ^ (i + 1) * 10 ^ (i + 1) + c * 10 ^ i) → tget s'.τ 8 = I (i : Nat) → P (X (M20 (hand T20) n) (.exit 2) k s') := fun h s' => by
        have := hq s'
        rw [← hcd h] at this
        exact this
      simp only [sub, c20, Tryd.f20, gets] at ih
      generalize R / 10 ^ (i + 1) * 10 ^ (i + 1) + (c + 1) * 10 ^ i = T1 at *
      generalize R / 10 ^ (i + 1) * 10 ^ (i + 1) + c * 10 ^ i = T0 at *
      unfold powD at e59
      by_cases hb : T1 ^ e < 10 ^ 500
      · rw [if_pos hb] at e59
        have e64 := F64_eq (big_short hb) (big_short hx)
        by_cases hd : T1 ^ e ≤ x
        · have c1 := cmp3_le hd
          simp only [vmr, vmw, vmp, vza, ↓reduceIte, Nat.reduceBEq, Nat.reduceLT, Nat.reduceAdd, Nat.reduceEqDiff, reduceCtorEq, vmt, vzb, vzc, vlen, vleaf, velems, oks, vst, vmd, ty, Nat.reduceLeDiff, Nat.reduceMul, Nat.reduceSub, c20, Tryd.f20, m20, h1, h6, h6', h7, h7', h8, hir, hgc, hgc1, hst, q, wc, hr0, hr1, hr2, fitsI, allfitsI, htk, e47, e59, e64, c1, fx_len, Option.map_some, List.map_nil, allflatI, pureLI, shI, import_I, refsI]
          refine ih _ (hdec.1 hd) ⟨?_, ?_, ?_, ?_, ?_⟩ ?_ hq
          all_goals simp only [vmr, vmw, vmp, vza, ↓reduceIte, Nat.reduceBEq, Nat.reduceLT, Nat.reduceAdd, Nat.reduceEqDiff, reduceCtorEq, vmt, vzb, vzc, vlen, vleaf, velems, oks, vst, vmd, ty, Nat.reduceLeDiff, Nat.reduceMul, Nat.reduceSub, m20, h1, h6, h6', h7, h8]
        · have c1 := cmp3_gt (show x < T1 ^ e by omega)
          simp only [vmr, vmw, vmp, vza, ↓reduceIte, Nat.reduceBEq, Nat.reduceLT, Nat.reduceAdd, Nat.reduceEqDiff, reduceCtorEq, vmt, vzb, vzc, vlen, vleaf, velems, oks, vst, vmd, ty, Nat.reduceLeDiff, Nat.reduceMul, Nat.reduceSub, c20, Tryd.f20, m20, h1, h6, h6', h7, h7', h8, hir, hgc, hgc1, hst, hst2, q, wc, wm, hr0, hr1, hr2, fitsI, allfitsI, htk, e47, e59, e64, c1, fx_len, Option.map_some, List.map_nil, allflatI, pureLI, shI, import_I, refsI]
          refine hq' (fun h => hd (hdec.2 h)) _ ⟨?_, ?_, ?_, ?_, ?_⟩ ?_
          all_goals simp only [vmr, vmw, vmp, vza, ↓reduceIte, Nat.reduceBEq, Nat.reduceLT, Nat.reduceAdd, Nat.reduceEqDiff, reduceCtorEq, vmt, vzb, vzc, vlen, vleaf, velems, oks, vst, vmd, ty, Nat.reduceLeDiff, Nat.reduceMul, Nat.reduceSub, m20, h1, h6, h6', h7, h8]
      · rw [if_neg hb] at e59
        simp only [vmr, vmw, vmp, vza, ↓reduceIte, Nat.reduceBEq, Nat.reduceLT, Nat.reduceAdd, Nat.reduceEqDiff, reduceCtorEq, vmt, vzb, vzc, vlen, vleaf, velems, oks, vst, vmd, ty, Nat.reduceLeDiff, Nat.reduceMul, Nat.reduceSub, c20, Tryd.f20, m20, h1, h6, h6', h7, h7', h8, hir, hgc, hgc1, hst, hst2, q, wc, wm, hr0, hr1, hr2, fitsI, allfitsI, htk, e47, e59, fx_len, Option.map_some, List.map_nil, allflatI, pureLI, shI, import_I, refsI]
        refine hq' (fun h => by have := hdec.2 h; omega) _ ⟨?_, ?_, ?_, ?_, ?_⟩ ?_
        all_goals simp only [vmr, vmw, vmp, vza, ↓reduceIte, Nat.reduceBEq, Nat.reduceLT, Nat.reduceAdd, Nat.reduceEqDiff, reduceCtorEq, vmt, vzb, vzc, vlen, vleaf, velems, oks, vst, vmd, ty, Nat.reduceLeDiff, Nat.reduceMul, Nat.reduceSub, m20, h1, h6, h6', h7, h8]
end Go.Vi
set_option maxRecDepth 100000
set_option maxHeartbeats 1000000
set_option exponentiation.threshold 256
namespace Go.Vi
open Go Go.Proofs

theorem l20 {n k} (x e la R v6 v7 : Nat) (hn0 : 20 < n) (he1 : 1 ≤ e) (he : e ≤ 1000) (hx : x < 10 ^ 500) (hla : la ≤ 500) (hRe : R = rootN e x) (hR : R < 10 ^ la) {P : Option (Ex × St) → Prop} : ∀ j n' s, j ≤ la → j < n' →
    P20 s x e la v6 v7 (R / 10 ^ j * 10 ^ j) → tget s.τ 8 = I ((j : Int) - 1) → (∀ s', P20 s' x e la v6 v7 R → P (X (M20 (hand T20) n) (.exit 0) k s')) →
    P (L (M20 (hand T20) n) (sub [1, 1, 1, 1, 1, 1, 1, 0, 1, 0, 0] c20) n' k s) := by
  intro j
  induction j with
  | zero =>
    intro n' s hj hn hP h8 hq
    obtain ⟨n', rfl⟩ : ∃ m, n' = m + 1 := ⟨n' - 1, by omega⟩
    obtain ⟨h1, h6, h6', h7, h7'⟩ := hP
    have c0 : (((0 : Nat) : Int) - 1 ≥ 0) = False := by decide
    rw [Nat.pow_zero, Nat.div_one, Nat.mul_one] at h7'
    rw [L_succ]
    simp only [vmr, vmw, vmp, vza, ↓reduceIte, Nat.reduceBEq, Nat.reduceLT, Nat.reduceAdd, Nat.reduceEqDiff, reduceCtorEq, vmt, vzb, vzc, vlen, vleaf, velems, oks, vst, vmd, ty, Nat.reduceLeDiff, Nat.reduceMul, Nat.reduceSub, c20, Tryd.f20, m20, h8, c0]
    refine hq _ ⟨?_, ?_, ?_, ?_, ?_⟩
    all_goals simp only [vmr, vmw, vmp, vza, ↓reduceIte, Nat.reduceBEq, Nat.reduceLT, Nat.reduceAdd, Nat.reduceEqDiff, reduceCtorEq, vmt, vzb, vzc, vlen, vleaf, velems, oks, vst, vmd, ty, Nat.reduceLeDiff, Nat.reduceMul, Nat.reduceSub, m20, h1, h6, h6', h7, h7']
  | succ i ih =>
    intro n' s hj hn hP h8 hq
    obtain ⟨n', rfl⟩ : ∃ m, n' = m + 1 := ⟨n' - 1, by omega⟩
    obtain ⟨h1, h6, h6', h7, h7'⟩ := hP
    rw [show (((i + 1 : Nat) : Int) - 1) = (i : Int) by omega] at h8
    have c0 : ((i : Int) ≥ 0) = True := eq_true (by omega)
    have ws : IntKind.i64.wrap ((i : Int) - 1) = (i : Int) - 1 := by rw [wrap_id]; omega
    have a1 := fun k s => @l20b n k x e la i R v6 v7 he1 he hx (by omega) hla hRe hR P 10 0 n s (by omega) (by omega) (by omega)
    have ih := fun s => ih n' s (by omega) (by omega)
    rw [trial_next] at a1
    simp only [sub, c20, Tryd.f20, gets] at a1 ih
    rw [L_succ]
    simp only [vmr, vmw, vmp, vza, ↓reduceIte, Nat.reduceBEq, Nat.reduceLT, Nat.reduceAdd, Nat.reduceEqDiff, reduceCtorEq, vmt, vzb, vzc, vlen, vleaf, velems, oks, vst, vmd, ty, Nat.reduceLeDiff, Nat.reduceMul, Nat.reduceSub, c20, Tryd.f20, m20, h8, c0]
    refine a1 _ _ ⟨?_, ?_, ?_, ?_, ?_⟩ ?_ (fun s' ⟨h1, h6, h6', h7, h7'⟩ h8 => ?_)
    case refine_7 =>
      simp only [vmr, vmw, vmp, vza, ↓reduceIte, Nat.reduceBEq, Nat.reduceLT, Nat.reduceAdd, Nat.reduceEqDiff, reduceCtorEq, vmt, vzb, vzc, vlen, vleaf, velems, oks, vst, vmd, ty, Nat.reduceLeDiff, Nat.reduceMul, Nat.reduceSub, c20, Tryd.f20, m20, h8, ws]
      refine ih _ ⟨?_, ?_, ?_, ?_, ?_⟩ ?_ hq
      all_goals simp only [vmr, vmw, vmp, vza, ↓reduceIte, Nat.reduceBEq, Nat.reduceLT, Nat.reduceAdd, Nat.reduceEqDiff, reduceCtorEq, vmt, vzb, vzc, vlen, vleaf, velems, oks, vst, vmd, ty, Nat.reduceLeDiff, Nat.reduceMul, Nat.reduceSub, m20, h1, h6, h6', h7, h7']
    all_goals simp only [vmr, vmw, vmp, vza, ↓reduceIte, Nat.reduceBEq, Nat.reduceLT, Nat.reduceAdd, Nat.reduceEqDiff, reduceCtorEq, vmt, vzb, vzc, vlen, vleaf, velems, oks, vst, vmd, ty, Nat.reduceLeDiff, Nat.reduceMul, Nat.reduceSub, m20, h1, h6, h6', h7, h7', h8, Nat.zero_mul, Nat.add_zero]
def F20P (n : Nat) (v : V) (r : Option (Ex × St)) : Prop := Fin (M20 (hand T20) n) [.tmp 4, .tmp 5] r = some (.ret v)
theorem w20 (a : List UInt8) (e : Int) : SoundPure Tryd.prog 20 [.str a, I e] (.ret (rootS a e)) := by
  refine s20 hT20 600 (by simp) rootS_pure ?_
  show F20P 600 _ _
  unfold rootS
  cases ha : validB a with
  | false =>
    have e31 := F31_eq a
    rw [ha] at e31
    simp only [c20, Tryd.f20, gets, sub, opsAt]
    simp only [Bool.false_eq_true, if_false]
    unfold F20P
    simp only [vmr, vmw, vmp, vza, ↓reduceIte, Nat.reduceBEq, Nat.reduceLT, Nat.reduceAdd, Nat.reduceEqDiff, reduceCtorEq, vmt, vzb, vzc, vlen, vleaf, velems, oks, vst, vmd, ty, Nat.reduceLeDiff, Nat.reduceMul, Nat.reduceSub, vzr, m20, e31]
  | true =>
    have e31 := F31_eq a
    rw [ha] at e31
    have ea := F45_eq ha
    have sa := ival_small ha
    have ia := itxt_ival ha
    simp only [if_true]
    generalize ival a = x at *
    by_cases h1 : 1 ≤ e
    · have q1 : (e < 1) = False := eq_false (by omega)
      by_cases h2 : e ≤ 1000
      · have q2 : (e > 1000) = False := eq_false (by omega)
        rw [if_pos ⟨h1, h2⟩]
        by_cases hx : x < 0
        · rw [if_pos hx]
          have dx := decide_eq_true hx
          simp only [c20, Tryd.f20, gets, sub, opsAt]
          unfold F20P
          simp only [vmr, vmw, vmp, vza, ↓reduceIte, Nat.reduceBEq, Nat.reduceLT, Nat.reduceAdd, Nat.reduceEqDiff, reduceCtorEq, vmt, vzb, vzc, vlen, vleaf, velems, oks, vst, vmd, ty, Nat.reduceLeDiff, Nat.reduceMul, Nat.reduceSub, vzr, m20, e31, ea, q1, q2, dx, allflatI, pureLI, shI, import_I]
        · rw [if_neg hx]
          have dx := decide_eq_false hx
          obtain ⟨n, rfl⟩ : ∃ n : Nat, e = n := ⟨e.toNat, by omega⟩
          obtain ⟨y, rfl⟩ : ∃ y : Nat, x = y := ⟨x.toNat, by omega⟩
          have hya : Int.natAbs (y : Int) = y := rfl
          have hy : y < 10 ^ 500 := sa
          rw [show ((n : Int)).toNat = n from rfl, show ((y : Int)).toNat = y from rfl]
          by_cases hn1 : n = 1
          · subst hn1
            have q1 : ((1 : Int) < 1) = False := by decide
            have q2 : ((1 : Int) > 1000) = False := by decide
            have q3 : ((1 : Int) == 1) = true := rfl
            rw [root_one, ia]
            simp only [c20, Tryd.f20, gets, sub, opsAt]
            unfold F20P
            simp only [vmr, vmw, vmp, vza, ↓reduceIte, Nat.reduceBEq, Nat.reduceLT, Nat.reduceAdd, Nat.reduceEqDiff, reduceCtorEq, vmt, vzb, vzc, vlen, vleaf, velems, oks, vst, vmd, ty, Nat.reduceLeDiff, Nat.reduceMul, Nat.reduceSub, vzr, m20, e31, ea, q1, q2, q3, dx, allflatI, pureLI, shI, import_I]
          · have q3 : (((n : Nat) : Int) == 1) = false := by rw [beq_eq_false_iff_ne]; omega
            have hl : (lm 10 y).length ≤ 500 := (lm500 y).2 hy
            have hlt := lm_lt b10 y
            generalize hlen : (lm 10 y).length = len at *
            have hR : rootN n y < 10 ^ ((len + n - 1) / n) := root_lt b10 (by omega) hlt (by
              have h3 := Nat.div_add_mod (len + n - 1) n
              have h4 := Nat.mod_lt (len + n - 1) (show 0 < n by omega)
              rw [Nat.mul_comm]
              omega)
            have hla1 : (len + n - 1) / n ≤ 500 := by
              rw [← Nat.lt_succ_iff, Nat.div_lt_iff_lt_mul (by omega)]
              have h5 : 500 * 1 ≤ 500 * n := Nat.mul_le_mul_left 500 (by omega)
              rw [Nat.succ_eq_add_one, Nat.add_mul]
              omega
            have w0 : IntKind.i64.wrap ((len : Int) + (n : Int)) = ((len + n : Nat) : Int) := by rw [wrap_id] <;> omega
            have w0b : IntKind.i64.wrap (((len + n : Nat) : Int) - 1) = ((len + n - 1 : Nat) : Int) := by rw [wrap_id] <;> omega
            have hn0 : ((n : Int) = 0) = False := eq_false (by omega)
            have t1 : IntKind.i64.wrap (Int.tdiv ((len + n - 1 : Nat) : Int) (n : Int)) = (((len + n - 1) / n : Nat) : Int) := by
              rw [show Int.tdiv ((len + n - 1 : Nat) : Int) (n : Int) = (((len + n - 1) / n : Nat) : Int) from rfl, wrap_id]
              generalize (len + n - 1) / n = q at *
              omega
            generalize hla : (len + n - 1) / n = la at *
            have w2 : IntKind.i64.wrap (((la : Nat) : Int) - 1) = ((la : Nat) : Int) - 1 := by rw [wrap_id]; omega
            have hr := @room3 la (by omega)
            have hm : (((la : Nat) : Int) ≤ 9223372036854775807) = True := eq_true (by omega)
            have hm2 : (((la : Nat) : Int) ≤ ((la : Nat) : Int)) = True := eq_true (by omega)
            have hR2 : small ((rootN n y : Nat) : Int) := Nat.lt_of_le_of_lt root_le hy
            have e56 := F56_small hR2
            have hz : Zr ((rootN n y : Nat) : Int) = .agg [.bool false, D (rootN n y)] := by
              have : decide (((rootN n y : Nat) : Int) < 0) = false := decide_eq_false (by omega)
              simp only [Zr, this]
              rfl
            rw [hz] at e56
            have e47 := F47_D (k := la) (by omega) hR
            have htk := take_of (fx 10 la (rootN n y)) (fx_len ..)
            have a1 := fun k s v6 v7 => @l20 600 k y n la (rootN n y) v6 v7 (by omega) (by omega) (by omega) hy hla1 rfl hR (F20P 600 (.tup [.str (itxt ((rootN n y : Nat) : Int)), I 0])) la 600 s (by omega) (by omega)
            simp only [c20, Tryd.f20, gets, sub, opsAt] at a1 ⊢
            simp only [vmr, vmw, vmp, vza, ↓reduceIte, Nat.reduceBEq, Nat.reduceLT, Nat.reduceAdd, Nat.reduceEqDiff, reduceCtorEq, vmt, vzb, vzc, vlen, vleaf, velems, oks, vst, vmd, ty, Nat.reduceLeDiff, Nat.reduceMul, Nat.reduceSub, m20, e31, ea, q1, q2, q3, dx, hya, hlen, hn0, w0, w0b, t1, w2, hr, hm, hm2, fitsI, allflatI, pureLI, shI, import_I]
            refine a1 _ _ 0 2 ⟨?_, ?_, ?_, ?_, ?_⟩ ?_ (fun s' ⟨h1, h6, h6', h7, h7'⟩ => ?_)
            case refine_7 =>
              unfold F20P
              simp only [vmr, vmw, vmp, vza, ↓reduceIte, Nat.reduceBEq, Nat.reduceLT, Nat.reduceAdd, Nat.reduceEqDiff, reduceCtorEq, vmt, vzb, vzc, vlen, vleaf, velems, oks, vst, vmd, ty, Nat.reduceLeDiff, Nat.reduceMul, Nat.reduceSub, vzr, m20, h1, h6, h6', h7, h7', htk, e47, e56, fx_len, allflatI, pureLI, shI, import_I]
            all_goals simp only [vmr, vmw, vmp, vza, ↓reduceIte, Nat.reduceBEq, Nat.reduceLT, Nat.reduceAdd, Nat.reduceEqDiff, reduceCtorEq, vmt, vzb, vzc, vlen, vleaf, velems, oks, vst, vmd, ty, Nat.reduceLeDiff, Nat.reduceMul, Nat.reduceSub, m20, w2, Nat.div_eq_of_lt hR, Nat.zero_mul, repl_fx10, fx_len]
      · have q2 : (e > 1000) = True := eq_true (by omega)
        rw [if_neg (by omega)]
        simp only [c20, Tryd.f20, gets, sub, opsAt]
        unfold F20P
        simp only [vmr, vmw, vmp, vza, ↓reduceIte, Nat.reduceBEq, Nat.reduceLT, Nat.reduceAdd, Nat.reduceEqDiff, reduceCtorEq, vmt, vzb, vzc, vlen, vleaf, velems, oks, vst, vmd, ty, Nat.reduceLeDiff, Nat.reduceMul, Nat.reduceSub, vzr, m20, e31, q1, q2]
    · have q1 : (e < 1) = True := eq_true (by omega)
      rw [if_neg (by omega)]
      simp only [c20, Tryd.f20, gets, sub, opsAt]
      unfold F20P
      simp only [vmr, vmw, vmp, vza, ↓reduceIte, Nat.reduceBEq, Nat.reduceLT, Nat.reduceAdd, Nat.reduceEqDiff, reduceCtorEq, vmt, vzb, vzc, vlen, vleaf, velems, oks, vst, vmd, ty, Nat.reduceLeDiff, Nat.reduceMul, Nat.reduceSub, vzr, m20, e31, q1]
theorem powS_tup (a : List UInt8) (e : Int) : ∃ s f, powS a e = .tup [.str s, I f] := by
  unfold powS
  split
  · split
    · exact ⟨_, _, rfl⟩
    · split <;> exact ⟨_, _, rfl⟩
  · exact ⟨_, _, rfl⟩
theorem rootS_tup (a : List UInt8) (e : Int) : ∃ s f, rootS a e = .tup [.str s, I f] := by
  unfold rootS
  split
  · split
    · split <;> exact ⟨_, _, rfl⟩
    · exact ⟨_, _, rfl⟩
  · exact ⟨_, _, rfl⟩
noncomputable abbrev T4 : List (FuncId × (List V → Option V)) := (9, F9) :: (10, F10) :: (17, F17) :: (18, F17) :: (19, F19) :: (20, F19) :: []
theorem hT4 : SoundHand Tryd.prog (hand T4) := sound_cons (hF_sound fun a h => w9 a h) <| sound_cons F10_sound <| sound_cons (hF_sound fun a h => w17 a.1 a.2 h) <| sound_cons (hF_sound fun a h => w18 a.1 a.2 h) <| sound_cons (hF_sound fun a _ => w19 a.1 a.2) <| sound_cons (hF_sound fun a _ => w20 a.1 a.2) sound_nil
theorem w4 (a : List UInt8) (e : Int) (he : e < 9223372036854775808) : SoundPure Tryd.prog 4 [.str a, I e] (.ret (.bool true)) := by
  refine s4 hT4 6 (by simp) rfl ?_
  have e9 := F9_eq (l := [a]) (by simp)
  rw [show Ss [a] = .lst [.str a] from rfl] at e9
  have e10 := F10_eq
  have e17 := F17_eq (a := a) he
  have e19 := @F19_eq a e
  obtain ⟨s2, d2, h2⟩ := powS_tup a e
  obtain ⟨s3, d3, h3⟩ := rootS_tup a e
  rw [h2] at e17
  rw [h3] at e19
  have hr1 := @room9 1 (by omega)
  have n2 : (d2 != d2) = false := bne_self_eq_false _
  have n3 : (d3 == d3) = true := beq_self_eq_true _
  have q2 : (s2 == s2) = true := beq_self_eq_true _
  have q3 : (s3 == s3) = true := beq_self_eq_true _
  simp only [c4, Tryd.f4, gets]
  cases hl : ([a] : List (List UInt8)).any fun s => decide (s.length > 600) with
  | true =>
    rw [hl] at e9
    simp only [vmr, vmw, vmp, vza, ↓reduceIte, Nat.reduceBEq, Nat.reduceLT, Nat.reduceAdd, Nat.reduceEqDiff, reduceCtorEq, vmt, vzb, vzc, vlen, vleaf, velems, oks, vst, vmd, ty, Nat.reduceLeDiff, Nat.reduceMul, Nat.reduceSub, vzr, m4, hr1, fits9, List.map_cons, List.map_nil, e9, e10]
  | false =>
    rw [hl] at e9
    simp only [vmr, vmw, vmp, vza, ↓reduceIte, Nat.reduceBEq, Nat.reduceLT, Nat.reduceAdd, Nat.reduceEqDiff, reduceCtorEq, vmt, vzb, vzc, vlen, vleaf, velems, oks, vst, vmd, ty, Nat.reduceLeDiff, Nat.reduceMul, Nat.reduceSub, vzr, m4, hr1, fits9, List.map_cons, List.map_nil, e9, e10, e17, e19, strOp, n2, n3, q2, q3]
end Go.Vi
