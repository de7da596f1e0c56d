/-
  Walks of Gcd's closure, Gcd.
-/
import Derived.Test.YtpdeblfnbcponaaGreatDoorXF
set_option linter.unusedSimpArgs false
set_option linter.unusedVariables false
set_option maxRecDepth 100000
set_option maxHeartbeats 1000000
namespace Go.Vi
open Go Go.Proofs

set_option exponentiation.threshold 500000 in
theorem tiny_small {z : Int} (h : small z) : tiny z.natAbs := by
  have h2 : z.natAbs < 10 ^ 500 := h
  rw [show (500 : Nat) = 4 * 125 from rfl, Nat.pow_mul, show (10 : Nat) ^ 4 = 10000 from rfl] at h2
  have := (lm_len_le (B := 10000) (by omega) z.natAbs 125).2 h2
  show (lm 10000 z.natAbs).length ≤ 40000
  omega
end Go.Vi
set_option maxRecDepth 100000
set_option maxHeartbeats 1000000
namespace Go.Vi
open Go Go.Proofs

end Go.Vi
set_option maxRecDepth 100000
set_option maxHeartbeats 1000000
set_option exponentiation.threshold 256
namespace Go.Vi
open Go Go.Proofs

theorem txt_len (n : Nat) : (txt n).length = if n = 0 then 1 else (lm 10 n).length := by
  unfold txt
  split
  · rfl
  · simp
set_option exponentiation.threshold 500000 in
theorem fitB_iff (n : Nat) : fitB n = true ↔ n < 10 ^ 500 := by
  unfold fitB
  rw [decide_eq_true_iff, txt_len]
  split
  · rename_i h
    subst h
    exact ⟨fun _ => Nat.pow_pos (by omega), fun _ => by omega⟩
  · exact lm_len_le (by omega) n 500
theorem w54v (x : Int) (h : small x) : SoundPure Tryz.prog 36 [Zi x] (.ret (.str (itxt x))) := by
  have := w54 x (small_few h)
  rw [(fitB_iff _).2 h] at this
  exact this
noncomputable def F54v : List V → Option V := hF (α := Int) (fun a => [Zi a]) small (fun x => .str (itxt x))
theorem F54v_eq {x : Int} (h : small x) : F54v [Zi x] = some (.str (itxt x)) := hF_eq (a := x) (one_inj' fun _ _ => Zi_inj) (by simp only [cans, canZ]) h
/-- The quotient, rounded to zero, and the rest. -/
def quoI (x y : Int) : Int := if decide (x < 0) = decide (y < 0) then ((x.natAbs / y.natAbs : Nat) : Int) else -((x.natAbs / y.natAbs : Nat) : Int)
def remI (x y : Int) : Int := if x < 0 then -((x.natAbs % y.natAbs : Nat) : Int) else ((x.natAbs % y.natAbs : Nat) : Int)
def divO (a b : List UInt8) : V :=
  if validB a = true ∧ validB b = true then (if ival b = 0 then .tup [.str [], .str [], I 100] else .tup [.str (itxt (quoI (ival a) (ival b))), .str (itxt (remI (ival a) (ival b))), I 0]) else .tup [.str [], .str [], I 2]
theorem divO_pure {a b} : pureR (divO a b) = true := by
  unfold divO
  split
  · split <;> rfl
  · rfl
noncomputable abbrev T13 : List (FuncId × (List V → Option V)) := (44, F52) :: (45, F53) :: (36, F54v) :: []
theorem hT13 : SoundHand Tryz.prog (hand T13) := sound_cons (hF_sound fun a h => w52 a.1 a.2 h.1 h.2.1 h.2.2) <| sound_cons (hF_sound fun a _ => w53 a.1 a.2) <| sound_cons (hF_sound fun a h => w54v a h) sound_nil
noncomputable abbrev K13 : List (FuncId × (List V → Option COut)) := (21, F50) :: (22, F51) :: []
theorem hK13 : SoundTab Tryz.prog (tabT K13) := tabs_cons (hO_sound fun a _ => w50 a) <| tabs_cons (hO_sound fun a _ => w51 a.1 a.2) tabs_nil
theorem w13 (a b : List UInt8) : SoundPure Tryz.prog 17 [.str a, .str b] (.ret (divO a b)) := by
  refine sound_defer (C := Cx (hand T13)) hT13 good mixed hK13 (n := 6) (s1 := ?s1) (k := ⟨0, 6, 0⟩) (ver := 0) Tryz.func17 rfl (by simp) divO_pure (by decide) caught49 ?h0 ?hte ?h1
  case h0 =>
    show R (tm (tabT K13) (M13 (hand T13) 6)) (sub [0] c13) .top _ = _
    simp only [c13, Tryz.f17, gets, sub]
    simp only [vmr, vmw, vmp, vza, ↓reduceIte, Nat.reduceBEq, Nat.reduceLT, Nat.reduceAdd, Nat.reduceEqDiff, reduceCtorEq, vmt, vzb, vzc, vlen, vleaf, velems, oks, vst, vmd, ty, Nat.reduceLeDiff, Nat.reduceMul, Nat.reduceSub, m13]
    exact X_top
  case hte => simp only [vmr, vmw, vmp, vza, ↓reduceIte, Nat.reduceBEq, Nat.reduceLT, Nat.reduceAdd, Nat.reduceEqDiff, reduceCtorEq, vmt, vzb, vzc, vlen, vleaf, velems, oks, vst, vmd, ty, Nat.reduceLeDiff, Nat.reduceMul, Nat.reduceSub, m13]
  have hs : calm (M13 (hand T13) 6).E (opsAt (sub [1, 1, 1, 1, 1, 0] c13)) = true := by kernel_rfl
  show FinC (tm (tabT K13) (M13 (hand T13) 6)) 25 79 _ [.tmp 4, .tmp 5, .cell 6 25] (R (tm (tabT K13) (M13 (hand T13) 6)) (sub [1, 1] c13) .top _) = _
  simp only [c13, Tryz.f17, gets, sub, opsAt] at hs ⊢
  unfold divO
  cases ha : validB a with
  | false =>
    have ea := F50_bad ha
    simp only [Bool.false_eq_true, false_and, if_false]
    simp only [vmr, vmw, vmp, vza, ↓reduceIte, Nat.reduceBEq, Nat.reduceLT, Nat.reduceAdd, Nat.reduceEqDiff, reduceCtorEq, vmt, vzb, vzc, vlen, vleaf, velems, oks, vst, vmd, ty, Nat.reduceLeDiff, Nat.reduceMul, Nat.reduceSub, vzr, m13, ea, FinC_pan, FinC_ret, tidy_mk]
  | true =>
    have ea := F50_ok ha
    cases hb : validB b with
    | false =>
      have eb := F50_bad hb
      simp only [Bool.false_eq_true, and_false, if_false]
      simp only [vmr, vmw, vmp, vza, ↓reduceIte, Nat.reduceBEq, Nat.reduceLT, Nat.reduceAdd, Nat.reduceEqDiff, reduceCtorEq, vmt, vzb, vzc, vlen, vleaf, velems, oks, vst, vmd, ty, Nat.reduceLeDiff, Nat.reduceMul, Nat.reduceSub, vzr, m13, ea, eb, FinC_pan, FinC_ret, tidy_mk]
    | true =>
      have eb := F50_ok hb
      have sa := ival_small ha
      have sb := ival_small hb
      simp only [and_self, if_true]
      generalize ival a = x at *
      generalize ival b = y at *
      by_cases hy : y = 0
      · subst hy
        rw [if_pos rfl]
        have hc : ((((lm 10000 (Int.natAbs 0)).length : Nat) : Int) > 0) = False := eq_false (by decide)
        have e51 := F51_eq false 100
        simp only [Bool.false_eq_true, if_false] at e51
        simp only [vmr, vmw, vmp, vza, ↓reduceIte, Nat.reduceBEq, Nat.reduceLT, Nat.reduceAdd, Nat.reduceEqDiff, reduceCtorEq, vmt, vzb, vzc, vlen, vleaf, velems, oks, vst, vmd, ty, Nat.reduceLeDiff, Nat.reduceMul, Nat.reduceSub, vzr, m13, ea, eb, hc, e51, FinC_pan, FinC_ret, tidy_mk]
      · rw [if_neg hy]
        have hc : ((((lm 10000 y.natAbs).length : Nat) : Int) > 0) = True := eq_true (by have := mt (lm_nil (B := 10000) (by omega) y.natAbs).1 (by omega); omega)
        have e51 := F51_eq true 100
        simp only [if_true] at e51
        have e52 := F52_eq (x := x.natAbs) (y := y.natAbs) (tiny_small sa) (tiny_small sb) (by omega)
        have qp := F53_pos (x.natAbs / y.natAbs)
        have qn := F53_neg (x.natAbs / y.natAbs)
        have rp := F53_pos (x.natAbs % y.natAbs)
        have rn := F53_neg (x.natAbs % y.natAbs)
        have hq1 : small ((x.natAbs / y.natAbs : Nat) : Int) := by show Int.natAbs _ < _; rw [Int.natAbs_natCast]; exact Nat.lt_of_le_of_lt (Nat.div_le_self _ _) sa
        have hr1 : small ((x.natAbs % y.natAbs : Nat) : Int) := by show Int.natAbs _ < _; rw [Int.natAbs_natCast]; exact Nat.lt_of_le_of_lt (Nat.mod_le _ _) sa
        have tq1 := F54v_eq hq1
        have tr1 := F54v_eq hr1
        have tq2 := F54v_eq (x := -((x.natAbs / y.natAbs : Nat) : Int)) (by show Int.natAbs _ < _; rw [Int.natAbs_neg]; exact hq1)
        have tr2 := F54v_eq (x := -((x.natAbs % y.natAbs : Nat) : Int)) (by show Int.natAbs _ < _; rw [Int.natAbs_neg]; exact hr1)
        unfold quoI remI
        by_cases h1 : x < 0 <;> by_cases h2 : y < 0
        · have d1 := decide_eq_true h1
          have d2 := decide_eq_true h2
          simp only [vmr, vmw, vmp, vza, ↓reduceIte, Nat.reduceBEq, Nat.reduceLT, Nat.reduceAdd, Nat.reduceEqDiff, reduceCtorEq, vmt, vzb, vzc, vlen, vleaf, velems, oks, vst, vmd, ty, Nat.reduceLeDiff, Nat.reduceMul, Nat.reduceSub, vzr, m13, hs, ea, eb, hc, e51, e52, qp, rn, tq1, tr2, h1, d1, d2, bxs, refsI, refsL, refs, shI, pureLI, allflatI, import_I, List.isEmpty_nil, List.nil_append, List.append_nil, FinC_pan, FinC_ret, tidy_mk]
        · have d1 := decide_eq_true h1
          have d2 := decide_eq_false h2
          simp only [vmr, vmw, vmp, vza, ↓reduceIte, Nat.reduceBEq, Nat.reduceLT, Nat.reduceAdd, Nat.reduceEqDiff, reduceCtorEq, vmt, vzb, vzc, vlen, vleaf, velems, oks, vst, vmd, ty, Nat.reduceLeDiff, Nat.reduceMul, Nat.reduceSub, vzr, m13, hs, ea, eb, hc, e51, e52, qn, rn, tq2, tr2, h1, d1, d2, bxs, refsI, refsL, refs, shI, pureLI, allflatI, import_I, List.isEmpty_nil, List.nil_append, List.append_nil, FinC_pan, FinC_ret, tidy_mk]
        · have d1 := decide_eq_false h1
          have d2 := decide_eq_true h2
          simp only [vmr, vmw, vmp, vza, ↓reduceIte, Nat.reduceBEq, Nat.reduceLT, Nat.reduceAdd, Nat.reduceEqDiff, reduceCtorEq, vmt, vzb, vzc, vlen, vleaf, velems, oks, vst, vmd, ty, Nat.reduceLeDiff, Nat.reduceMul, Nat.reduceSub, vzr, m13, hs, ea, eb, hc, e51, e52, qn, rp, tq2, tr1, h1, d1, d2, bxs, refsI, refsL, refs, shI, pureLI, allflatI, import_I, List.isEmpty_nil, List.nil_append, List.append_nil, FinC_pan, FinC_ret, tidy_mk]
        · have d1 := decide_eq_false h1
          have d2 := decide_eq_false h2
          simp only [vmr, vmw, vmp, vza, ↓reduceIte, Nat.reduceBEq, Nat.reduceLT, Nat.reduceAdd, Nat.reduceEqDiff, reduceCtorEq, vmt, vzb, vzc, vlen, vleaf, velems, oks, vst, vmd, ty, Nat.reduceLeDiff, Nat.reduceMul, Nat.reduceSub, vzr, m13, hs, ea, eb, hc, e51, e52, qp, rp, tq1, tr1, h1, d1, d2, bxs, refsI, refsL, refs, shI, pureLI, allflatI, import_I, List.isEmpty_nil, List.nil_append, List.append_nil, FinC_pan, FinC_ret, tidy_mk]
noncomputable def F13 : List V → Option V := hF (α := List UInt8 × List UInt8) (fun a => [.str a.1, .str a.2]) (fun _ => True) (fun a => divO a.1 a.2)
theorem F13_eq (a b : List UInt8) : F13 [.str a, .str b] = some (divO a b) := hF_eq (a := (a, b)) two_Str (by simp only [cans, canStr]) trivial
end Go.Vi
set_option maxRecDepth 100000
set_option maxHeartbeats 1000000
set_option exponentiation.threshold 256
namespace Go.Vi
open Go Go.Proofs

end Go.Vi
set_option maxRecDepth 100000
set_option maxHeartbeats 1000000
set_option exponentiation.threshold 256
namespace Go.Vi
open Go Go.Proofs

set_option exponentiation.threshold 500000 in
theorem lm125 (r : Nat) : (lm 10000 r).length ≤ 125 ↔ r < 10 ^ 500 := by
  rw [lm_len_le (by omega), show (500 : Nat) = 4 * 125 from rfl, Nat.pow_mul]
set_option exponentiation.threshold 500000 in
theorem pow_lt_1700 {x i : Nat} (hx : 2 ≤ x) (h : x ^ i < 10 ^ 500) : i < 2000 := by
  rcases Nat.lt_or_ge i 2000 with h1 | h1
  · exact h1
  · exfalso
    have h2 : 2 ^ 2000 ≤ x ^ i := Nat.le_trans (Nat.pow_le_pow_right (by omega) h1) (Nat.pow_le_pow_left hx i)
    have h3 : (10 : Nat) ^ 500 ≤ 2 ^ 2000 := by
      rw [show (2000 : Nat) = 4 * 500 from rfl, Nat.pow_mul]
      exact Nat.pow_le_pow_left (by omega) 500
    omega
def powO (x n : Nat) : V := if x ^ n < 10 ^ 500 then .tup [N (x ^ n), .bool true] else .tup [Is [], .bool false]
noncomputable abbrev T58 : List (FuncId × (List V → Option V)) := (59, F61) :: (34, F79) :: []
theorem hT58 : SoundHand Tryz.prog (hand T58) := sound_cons (hF_sound fun a h => w61N a.1 a.2 h.1 h.2) <| sound_cons (hF_sound fun a h => w79 a.1 a.2 h.1 h.2) sound_nil
theorem l58 {n k} {x e : Nat} (hx : 2 ≤ x) (hxs : x < 10 ^ 500) (he : e < 9223372036854775808) {P : Option (Ex × St) → Prop} : ∀ d i n' s, 2001 ≤ i + d → d < n' → i ≤ e → x ^ i < 10 ^ 500 → tget s.τ 0 = N x → tget s.τ 2 = I 125 → tget s.τ 8 = N (x ^ i) → tget s.τ 18 = I (e : Nat) → tget s.τ 19 = I (i : Nat) →
    (∀ s', x ^ e < 10 ^ 500 → tget s'.τ 8 = N (x ^ e) → P (X (M58 (hand T58) n) (.exit 0) k s')) →
    (∀ s', 10 ^ 500 ≤ x ^ e → tget s'.τ 6 = .nilS → tget s'.τ 7 = .bool false → P (some (.ret, s'))) →
    P (L (M58 (hand T58) n) (sub [1, 1, 1, 0, 1, 0, 0] c58) n' k s) := by
  intro d
  induction d with
  | zero =>
    intro i n' s hd hn hie hlt h0 h2 h8 h18 h19 hq hr
    have := pow_lt_1700 hx hlt
    omega
  | succ d ih =>
    intro i n' s hd hn hie hlt h0 h2 h8 h18 h19 hq hr
    obtain ⟨n', rfl⟩ : ∃ m, n' = m + 1 := ⟨n' - 1, by omega⟩
    by_cases hi : i = e
    · subst hi
      have hc : ((i : Int) < (i : Int)) = False := eq_false (by omega)
      rw [L_succ]
      simp only [vmr, vmw, vmp, vza, ↓reduceIte, Nat.reduceBEq, Nat.reduceLT, Nat.reduceAdd, Nat.reduceEqDiff, reduceCtorEq, vmt, vzb, vzc, vlen, vleaf, velems, oks, vst, vmd, ty, Nat.reduceLeDiff, Nat.reduceMul, Nat.reduceSub, c58, Tryz.f46, m58, h18, h19, hc]
      refine hq _ hlt ?_
      simp only [vmr, vmw, vmp, vza, ↓reduceIte, Nat.reduceBEq, Nat.reduceLT, Nat.reduceAdd, Nat.reduceEqDiff, reduceCtorEq, vmt, vzb, vzc, vlen, vleaf, velems, oks, vst, vmd, ty, Nat.reduceLeDiff, Nat.reduceMul, Nat.reduceSub, m58, h8]
    · have hc : ((i : Int) < (e : Int)) = True := eq_true (by omega)
      have hi2 := pow_lt_1700 hx hlt
      have w1 := wsucc9' (i := i) (by omega)
      have e79 := F79_eq (x := x ^ i) (y := x) (few_of (k := 500) (by omega) hlt) (few_of (k := 500) (by omega) hxs)
      rw [← Nat.pow_succ] at e79
      by_cases hb : x ^ (i + 1) < 10 ^ 500
      · have hc2 : ((((lm 10000 (x ^ (i + 1))).length : Nat) : Int) > 125) = False := eq_false (by have := (lm125 _).2 hb; omega)
        have ih := fun s => ih (i + 1) n' s (by omega) (by omega) (by omega) hb
        simp only [sub, c58, Tryz.f46, gets] at ih
        rw [L_succ]
        simp only [vmr, vmw, vmp, vza, ↓reduceIte, Nat.reduceBEq, Nat.reduceLT, Nat.reduceAdd, Nat.reduceEqDiff, reduceCtorEq, vmt, vzb, vzc, vlen, vleaf, velems, oks, vst, vmd, ty, Nat.reduceLeDiff, Nat.reduceMul, Nat.reduceSub, c58, Tryz.f46, m58, h18, h19, hc, h0, h2, h8, e79, hc2, w1, allflatI, pureLI, shI, import_I]
        refine ih _ ?_ ?_ ?_ ?_ ?_ hq hr
        all_goals simp only [vmr, vmw, vmp, vza, ↓reduceIte, Nat.reduceBEq, Nat.reduceLT, Nat.reduceAdd, Nat.reduceEqDiff, reduceCtorEq, vmt, vzb, vzc, vlen, vleaf, velems, oks, vst, vmd, ty, Nat.reduceLeDiff, Nat.reduceMul, Nat.reduceSub, m58, h0, h2, h18]
      · have hc2 : ((((lm 10000 (x ^ (i + 1))).length : Nat) : Int) > 125) = True := eq_true (by have := mt (lm125 (x ^ (i + 1))).1 hb; omega)
        have hbig : 10 ^ 500 ≤ x ^ e := Nat.le_trans (by omega) (Nat.pow_le_pow_right (by omega) (show i + 1 ≤ e by omega))
        rw [L_succ]
        simp only [vmr, vmw, vmp, vza, ↓reduceIte, Nat.reduceBEq, Nat.reduceLT, Nat.reduceAdd, Nat.reduceEqDiff, reduceCtorEq, vmt, vzb, vzc, vlen, vleaf, velems, oks, vst, vmd, ty, Nat.reduceLeDiff, Nat.reduceMul, Nat.reduceSub, c58, Tryz.f46, m58, h18, h19, hc, h0, h2, h8, e79, hc2, w1, allflatI, pureLI, shI, import_I]
        refine hr _ hbig ?_ ?_
        all_goals simp only [vmr, vmw, vmp, vza, ↓reduceIte, Nat.reduceBEq, Nat.reduceLT, Nat.reduceAdd, Nat.reduceEqDiff, reduceCtorEq, vmt, vzb, vzc, vlen, vleaf, velems, oks, vst, vmd, ty, Nat.reduceLeDiff, Nat.reduceMul, Nat.reduceSub, m58]
def F58P (H : FuncId → Option (List V → Option V)) (n : Nat) (v : V) (r : Option (Ex × St)) : Prop := Fin (M58 H n) [.tmp 6, .tmp 7] r = some (.ret v)
/-- The answer as it is handed back. -/
def powR (x e : Nat) : V := if e = 0 then .tup [.own 1 [I 1], .bool true] else if x ^ e < 10 ^ 500 then .tup [N (x ^ e), .bool true] else .tup [.nilS, .bool false]
theorem powR_pure {x e} : pureR (powR x e) = true := by
  unfold powR
  split
  · rfl
  · split
    · show (pureR (N (x ^ e)) && (pureR (.bool true) && true)) = true
      simp only [pureR, pureLI, Bool.and_self]
    · rfl
set_option exponentiation.threshold 500000 in
theorem one_lt_big : (1 : Nat) < 10 ^ 500 := Nat.one_lt_pow (by omega) (by omega)
theorem powR_imm {x e} : can (imm (powR x e)) = powO x e := by
  unfold powR powO
  by_cases h : e = 0
  · subst h
    rw [if_pos rfl, Nat.pow_zero, if_pos one_lt_big]
    rfl
  · rw [if_neg h]
    split
    · simp only [imm, immL, can, cans, cans_I]
    · rfl
theorem k58 (x e : Nat) (hxs : x < 10 ^ 500) (he : e < 9223372036854775808) : SoundPure Tryz.prog 46 [N x, I (e : Nat), I 125] (.ret (powR x e)) := by
  refine s58 hT58 2010 (by simp) powR_pure ?_
  have e61 : F61 [N x, .lst [I 1]] = some (I (cmp3 x 1)) := F61_eq (x := x) (y := 1) (few_of (k := 500) (by omega) hxs) (by decide)
  show F58P (hand T58) 2010 (powR x e) _
  simp only [c58, Tryz.f46, gets, sub]
  have hr1 := @room3 1 (by omega)
  by_cases h1 : x ≤ 1
  · have c1 : (cmp3 x 1 ≤ 0) = True := eq_true (by unfold cmp3; split <;> (try split) <;> omega)
    by_cases h2 : e = 0
    · have c2 : ((e : Int) > 0) = False := eq_false (by omega)
      have hv : powR x e = .tup [.own 1 [I 1], .bool true] := by unfold powR; rw [if_pos h2]
      rw [hv]
      simp only [vmr, vmw, vmp, vza, ↓reduceIte, Nat.reduceBEq, Nat.reduceLT, Nat.reduceAdd, Nat.reduceEqDiff, reduceCtorEq, vmt, vzb, vzc, vlen, vleaf, velems, oks, vst, vmd, ty, Nat.reduceLeDiff, Nat.reduceMul, Nat.reduceSub, m58, e61, c1, c2, List.map_cons, fitsI, hr1, allflatI, pureLI, shI, import_I]
      unfold F58P
      simp only [vmr, vmw, vmp, vza, ↓reduceIte, Nat.reduceBEq, Nat.reduceLT, Nat.reduceAdd, Nat.reduceEqDiff, reduceCtorEq, vmt, vzb, vzc, vlen, vleaf, velems, oks, vst, vmd, ty, Nat.reduceLeDiff, Nat.reduceMul, Nat.reduceSub, vzr, m58]
    · have c2 : ((e : Int) > 0) = True := eq_true (by omega)
      have hv : powR x e = .tup [N x, .bool true] := by
        have : x ^ e = x := by
          rcases Nat.le_one_iff_eq_zero_or_eq_one.1 h1 with rfl | rfl
          · exact Nat.zero_pow (by omega)
          · exact Nat.one_pow _
        unfold powR
        rw [if_neg h2, this, if_pos hxs]
      rw [hv]
      simp only [vmr, vmw, vmp, vza, ↓reduceIte, Nat.reduceBEq, Nat.reduceLT, Nat.reduceAdd, Nat.reduceEqDiff, reduceCtorEq, vmt, vzb, vzc, vlen, vleaf, velems, oks, vst, vmd, ty, Nat.reduceLeDiff, Nat.reduceMul, Nat.reduceSub, m58, e61, c1, c2, List.map_cons, fitsI, hr1, allflatI, pureLI, shI, import_I]
      unfold F58P
      simp only [vmr, vmw, vmp, vza, ↓reduceIte, Nat.reduceBEq, Nat.reduceLT, Nat.reduceAdd, Nat.reduceEqDiff, reduceCtorEq, vmt, vzb, vzc, vlen, vleaf, velems, oks, vst, vmd, ty, Nat.reduceLeDiff, Nat.reduceMul, Nat.reduceSub, vzr, m58]
  · have c1 : (cmp3 x 1 ≤ 0) = False := eq_false (by unfold cmp3; rw [if_neg (by omega), if_neg (by omega)]; omega)
    simp only [vmr, vmw, vmp, vza, ↓reduceIte, Nat.reduceBEq, Nat.reduceLT, Nat.reduceAdd, Nat.reduceEqDiff, reduceCtorEq, vmt, vzb, vzc, vlen, vleaf, velems, oks, vst, vmd, ty, Nat.reduceLeDiff, Nat.reduceMul, Nat.reduceSub, m58, e61, c1, List.map_cons, fitsI, hr1, allflatI, pureLI, shI, import_I]
    by_cases h2 : e = 0
    · have c2 : ((0 : Int) < (e : Int)) = False := eq_false (by omega)
      have hv : powR x e = .tup [.own 1 [I 1], .bool true] := by unfold powR; rw [if_pos h2]
      rw [hv, show (2010 : Nat) = 2009 + 1 from rfl, L_succ]
      simp only [vmr, vmw, vmp, vza, ↓reduceIte, Nat.reduceBEq, Nat.reduceLT, Nat.reduceAdd, Nat.reduceEqDiff, reduceCtorEq, vmt, vzb, vzc, vlen, vleaf, velems, oks, vst, vmd, ty, Nat.reduceLeDiff, Nat.reduceMul, Nat.reduceSub, m58, c2]
      unfold F58P
      simp only [vmr, vmw, vmp, vza, ↓reduceIte, Nat.reduceBEq, Nat.reduceLT, Nat.reduceAdd, Nat.reduceEqDiff, reduceCtorEq, vmt, vzb, vzc, vlen, vleaf, velems, oks, vst, vmd, ty, Nat.reduceLeDiff, Nat.reduceMul, Nat.reduceSub, vzr, m58]
    · have c2 : ((0 : Int) < (e : Int)) = True := eq_true (by omega)
      have e79 : F79 [.lst [I 1], N x] = some (N (1 * x)) := F79_eq (x := 1) (y := x) (by decide) (few_of (k := 500) (by omega) hxs)
      rw [Nat.one_mul] at e79
      have hc2 : ((((lm 10000 x).length : Nat) : Int) > 125) = False := eq_false (by have := (lm125 _).2 hxs; omega)
      have a1 := fun k s => @l58 2010 k x e (by omega) hxs he (F58P (hand T58) 2010 (powR x e)) 2005 1 2009 s (by omega) (by omega) (by omega) (by rw [Nat.pow_one]; exact hxs)
      rw [Nat.pow_one] at a1
      simp only [sub, c58, Tryz.f46, gets] at a1
      rw [show (2010 : Nat) = 2009 + 1 from rfl, L_succ]
      simp only [vmr, vmw, vmp, vza, ↓reduceIte, Nat.reduceBEq, Nat.reduceLT, Nat.reduceAdd, Nat.reduceEqDiff, reduceCtorEq, vmt, vzb, vzc, vlen, vleaf, velems, oks, vst, vmd, ty, Nat.reduceLeDiff, Nat.reduceMul, Nat.reduceSub, m58, c2, e79, hc2, allflatI, pureLI, shI, import_I]
      refine a1 _ _ ?_ ?_ ?_ ?_ ?_ (fun s' hlt h8 => ?_) (fun s' hge h6 h7 => ?_)
      case refine_6 =>
        unfold powR
        rw [if_neg h2, if_pos hlt]
        simp only [vmr, vmw, vmp, vza, ↓reduceIte, Nat.reduceBEq, Nat.reduceLT, Nat.reduceAdd, Nat.reduceEqDiff, reduceCtorEq, vmt, vzb, vzc, vlen, vleaf, velems, oks, vst, vmd, ty, Nat.reduceLeDiff, Nat.reduceMul, Nat.reduceSub, m58, h8]
        unfold F58P
        simp only [vmr, vmw, vmp, vza, ↓reduceIte, Nat.reduceBEq, Nat.reduceLT, Nat.reduceAdd, Nat.reduceEqDiff, reduceCtorEq, vmt, vzb, vzc, vlen, vleaf, velems, oks, vst, vmd, ty, Nat.reduceLeDiff, Nat.reduceMul, Nat.reduceSub, vzr, m58]
      case refine_7 =>
        unfold powR
        rw [if_neg h2, if_neg (by omega)]
        unfold F58P
        simp only [vmr, vmw, vmp, vza, ↓reduceIte, Nat.reduceBEq, Nat.reduceLT, Nat.reduceAdd, Nat.reduceEqDiff, reduceCtorEq, vmt, vzb, vzc, vlen, vleaf, velems, oks, vst, vmd, ty, Nat.reduceLeDiff, Nat.reduceMul, Nat.reduceSub, vzr, m58, h6, h7]
      all_goals simp only [vmr, vmw, vmp, vza, ↓reduceIte, Nat.reduceBEq, Nat.reduceLT, Nat.reduceAdd, Nat.reduceEqDiff, reduceCtorEq, vmt, vzb, vzc, vlen, vleaf, velems, oks, vst, vmd, ty, Nat.reduceLeDiff, Nat.reduceMul, Nat.reduceSub, m58]
      rfl
noncomputable def F58 : List V → Option V := hF (α := Nat × Nat) (fun a => [N a.1, I (a.2 : Nat), I 125]) (fun a => a.1 < 10 ^ 500 ∧ a.2 < 9223372036854775808) (fun a => powO a.1 a.2)
theorem F58_eq {x e : Nat} (h : x < 10 ^ 500) (he : e < 9223372036854775808) : F58 [N x, I (e : Nat), I 125] = some (powO x e) := hF_eq (a := (x, e)) (fun a b h => by
  injection h with h1 h2
  injection h2 with h2 _
  exact Prod.ext (N_inj h1) (natI_inj h2)) (by simp only [cans, canN, canI]) ⟨h, he⟩
theorem w58 (x e : Nat) (hxs : x < 10 ^ 500) (he : e < 9223372036854775808) : SoundPure Tryz.prog 46 [N x, I (e : Nat), I 125] (.ret (powO x e)) := by
  have := sound_imm (k58 x e hxs he) powR_pure
  rw [powR_imm] at this
  exact this
def powS (a : List UInt8) (n : Int) : V :=
  if validB a = true then (if n < 0 then .tup [.str [], I 101] else if (ival a).natAbs ^ n.toNat < 10 ^ 500 then .tup [.str (itxt ((ival a) ^ n.toNat)), I 0] else .tup [.str [], I 7]) else .tup [.str [], I 2]
theorem powS_pure {a n} : pureR (powS a n) = true := by
  unfold powS
  split
  · split
    · rfl
    · split <;> rfl
  · rfl
noncomputable abbrev T17 : List (FuncId × (List V → Option V)) := (46, F58) :: (45, F53) :: (36, F54v) :: []
theorem hT17 : SoundHand Tryz.prog (hand T17) := sound_cons (hF_sound fun a h => w58 a.1 a.2 h.1 h.2) <| sound_cons (hF_sound fun a _ => w53 a.1 a.2) <| sound_cons (hF_sound fun a h => w54v a h) sound_nil
theorem neg_pow (a n : Nat) : (-(a : Int)) ^ n = if n % 2 = 1 then -((a ^ n : Nat) : Int) else ((a ^ n : Nat) : Int) := by
  induction n with
  | zero => simp
  | succ n ih =>
    rw [Int.pow_succ, ih, Nat.pow_succ]
    by_cases h : n % 2 = 1
    · rw [if_pos h, if_neg (by omega), Int.natCast_mul, Int.neg_mul_neg]
    · rw [if_neg h, if_pos (by omega), Int.natCast_mul, Int.mul_neg]
theorem w17 (a : List UInt8) (e : Int) (he : e < 9223372036854775808) : SoundPure Tryz.prog 18 [.str a, I e] (.ret (powS a e)) := by
  refine sound_defer (C := Cx (hand T17)) hT17 good mixed hK13 (n := 6) (s1 := ?s1) (k := ⟨0, 5, 0⟩) (ver := 0) Tryz.func18 rfl (by simp) powS_pure (by decide) caught49 ?h0 ?hte ?h1
  case h0 =>
    show R (tm (tabT K13) (M17 (hand T17) 6)) (sub [0] c17) .top _ = _
    simp only [c17, Tryz.f18, gets, sub]
    simp only [vmr, vmw, vmp, vza, ↓reduceIte, Nat.reduceBEq, Nat.reduceLT, Nat.reduceAdd, Nat.reduceEqDiff, reduceCtorEq, vmt, vzb, vzc, vlen, vleaf, velems, oks, vst, vmd, ty, Nat.reduceLeDiff, Nat.reduceMul, Nat.reduceSub, m17]
    exact X_top
  case hte => simp only [vmr, vmw, vmp, vza, ↓reduceIte, Nat.reduceBEq, Nat.reduceLT, Nat.reduceAdd, Nat.reduceEqDiff, reduceCtorEq, vmt, vzb, vzc, vlen, vleaf, velems, oks, vst, vmd, ty, Nat.reduceLeDiff, Nat.reduceMul, Nat.reduceSub, m17]
  show FinC (tm (tabT K13) (M17 (hand T17) 6)) 25 79 _ [.tmp 4, .cell 5 25] (R (tm (tabT K13) (M17 (hand T17) 6)) (sub [1, 1] c17) .top _) = _
  simp only [c17, Tryz.f18, gets, sub, opsAt]
  unfold powS
  cases ha : validB a with
  | false =>
    have ea := F50_bad ha
    simp only [Bool.false_eq_true, if_false]
    simp only [vmr, vmw, vmp, vza, ↓reduceIte, Nat.reduceBEq, Nat.reduceLT, Nat.reduceAdd, Nat.reduceEqDiff, reduceCtorEq, vmt, vzb, vzc, vlen, vleaf, velems, oks, vst, vmd, ty, Nat.reduceLeDiff, Nat.reduceMul, Nat.reduceSub, vzr, m17, ea, FinC_pan, FinC_ret, tidy_mk]
  | true =>
    have ea := F50_ok ha
    have sa := ival_small ha
    simp only [if_true]
    generalize ival a = x at *
    by_cases hn : e < 0
    · rw [if_pos hn]
      have hc : (e ≥ 0) = False := eq_false (by omega)
      have e51 := F51_eq false 101
      simp only [Bool.false_eq_true, if_false] at e51
      simp only [vmr, vmw, vmp, vza, ↓reduceIte, Nat.reduceBEq, Nat.reduceLT, Nat.reduceAdd, Nat.reduceEqDiff, reduceCtorEq, vmt, vzb, vzc, vlen, vleaf, velems, oks, vst, vmd, ty, Nat.reduceLeDiff, Nat.reduceMul, Nat.reduceSub, vzr, m17, ea, hc, e51, FinC_pan, FinC_ret, tidy_mk]
    · rw [if_neg hn]
      obtain ⟨n, rfl⟩ : ∃ n : Nat, e = n := ⟨e.toNat, by omega⟩
      have hc : ((n : Int) ≥ 0) = True := eq_true (by omega)
      have e51 := F51_eq true 101
      simp only [if_true] at e51
      have e58 := F58_eq (x := x.natAbs) (e := n) sa (by omega)
      rw [show ((n : Int)).toNat = n from rfl]
      by_cases hb : x.natAbs ^ n < 10 ^ 500
      · rw [if_pos hb]
        unfold powO at e58
        rw [if_pos hb] at e58
        have e51b := F51_eq true 7
        simp only [if_true] at e51b
        have hsm : small ((x.natAbs ^ n : Nat) : Int) := by show Int.natAbs _ < _; rw [Int.natAbs_natCast]; exact hb
        have hp := F53_pos (x.natAbs ^ n)
        have hq := F53_neg (x.natAbs ^ n)
        have tp := F54v_eq hsm
        have tq := F54v_eq (x := -((x.natAbs ^ n : Nat) : Int)) (by show Int.natAbs _ < _; rw [Int.natAbs_neg]; exact hsm)
        have w2 : Int.tmod (n : Int) 2 = ((n % 2 : Nat) : Int) := rfl
        have n2 : ((2 : Int) = 0) = False := by decide
        by_cases hx : x < 0
        · have hv := neg_pow x.natAbs n
          rw [show -((x.natAbs : Nat) : Int) = x by omega] at hv
          by_cases hm : n % 2 = 1
          · rw [if_pos hm] at hv
            have hm2 : (((n % 2 : Nat) : Int) == 1) = true := by rw [hm]; rfl
            rw [hv]
            simp only [vmr, vmw, vmp, vza, ↓reduceIte, Nat.reduceBEq, Nat.reduceLT, Nat.reduceAdd, Nat.reduceEqDiff, reduceCtorEq, vmt, vzb, vzc, vlen, vleaf, velems, oks, vst, vmd, ty, Nat.reduceLeDiff, Nat.reduceMul, Nat.reduceSub, vzr, m17, ea, hc, e51, e51b, e58, hx, w2, n2, hm2, hq, tq, allflatI, pureLI, shI, import_I, FinC_pan, FinC_ret, tidy_mk]
          · rw [if_neg hm] at hv
            have hm2 : (((n % 2 : Nat) : Int) == 1) = false := by rw [beq_eq_false_iff_ne]; omega
            rw [hv]
            simp only [vmr, vmw, vmp, vza, ↓reduceIte, Nat.reduceBEq, Nat.reduceLT, Nat.reduceAdd, Nat.reduceEqDiff, reduceCtorEq, vmt, vzb, vzc, vlen, vleaf, velems, oks, vst, vmd, ty, Nat.reduceLeDiff, Nat.reduceMul, Nat.reduceSub, vzr, m17, ea, hc, e51, e51b, e58, hx, w2, n2, hm2, hp, tp, allflatI, pureLI, shI, import_I, FinC_pan, FinC_ret, tidy_mk]
        · have hv : x ^ n = ((x.natAbs ^ n : Nat) : Int) := by rw [Int.natCast_pow, show ((x.natAbs : Nat) : Int) = x by omega]
          rw [hv]
          simp only [vmr, vmw, vmp, vza, ↓reduceIte, Nat.reduceBEq, Nat.reduceLT, Nat.reduceAdd, Nat.reduceEqDiff, reduceCtorEq, vmt, vzb, vzc, vlen, vleaf, velems, oks, vst, vmd, ty, Nat.reduceLeDiff, Nat.reduceMul, Nat.reduceSub, vzr, m17, ea, hc, e51, e51b, e58, hx, hp, tp, allflatI, pureLI, shI, import_I, FinC_pan, FinC_ret, tidy_mk]
      · rw [if_neg hb]
        unfold powO at e58
        rw [if_neg hb] at e58
        have e51b := F51_eq false 7
        simp only [Bool.false_eq_true, if_false] at e51b
        simp only [vmr, vmw, vmp, vza, ↓reduceIte, Nat.reduceBEq, Nat.reduceLT, Nat.reduceAdd, Nat.reduceEqDiff, reduceCtorEq, vmt, vzb, vzc, vlen, vleaf, velems, oks, vst, vmd, ty, Nat.reduceLeDiff, Nat.reduceMul, Nat.reduceSub, vzr, m17, ea, hc, e51, e51b, e58, allflatI, pureLI, shI, import_I, List.map_nil, FinC_pan, FinC_ret, tidy_mk]
noncomputable def F17 : List V → Option V := hF (α := List UInt8 × Int) (fun a => [.str a.1, I a.2]) (fun a => a.2 < 9223372036854775808) (fun a => powS a.1 a.2)
theorem F17_eq {a : List UInt8} {e : Int} (he : e < 9223372036854775808) : F17 [.str a, I e] = some (powS a e) := hF_eq (a := (a, e)) (fun a b h => by
  injection h with h1 h2
  injection h2 with h2 _
  exact Prod.ext (Str_inj h1) (I_inj h2)) (by simp only [cans, canStr, canI]) he
end Go.Vi
