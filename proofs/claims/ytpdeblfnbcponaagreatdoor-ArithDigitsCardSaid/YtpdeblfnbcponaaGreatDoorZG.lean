/-
  Walk of arith.Digits.
-/
import Derived.Test.YtpdeblfnbcponaaGreatDoorZF
set_option linter.unusedSimpArgs false
set_option linter.unusedVariables false
set_option maxRecDepth 100000
set_option maxHeartbeats 1000000
set_option exponentiation.threshold 256
namespace Go.Vi
open Go Go.Proofs

theorem withT_fn {T : FuncId → Option (List V → Option COut)} {call : CallFn} {g : FuncId} {args : List V} {lvl c : Nat} {O : Heap} (h : T g = none) : (withT T call).fn g args lvl c O = call.fn g args lvl c O := by
  unfold withT
  simp only [h]
theorem callV_s2 {call : CallFn} {E : Env} {H : FuncId → Option (List V → Option V)} {d : Nat} {g : FuncId} {first caps args : List V} {s : St} (hg : E.ok.contains g = true) (hi : E.imp.contains g = false) (hC : (H g).isSome = true) (hp : (frzs E s (first ++ args ++ caps)).isSome = true) :
    callV call E H d (.fn (.func g) first caps) args s = CR E d (first ++ args ++ caps) s (((H g).getD fun _ => none) ((frzs E s (first ++ args ++ caps)).getD [])) := by
  obtain ⟨F, hF⟩ := Option.isSome_iff_exists.1 hC
  obtain ⟨p, hP⟩ := Option.isSome_iff_exists.1 hp
  unfold callV
  simp only [hg, if_true, hi, Bool.false_eq_true, if_false, hF, hP, Option.getD_some]
  unfold CR
  cases F p with
  | none => rfl
  | some v => simp only [Option.map_some, CD]
theorem callV_t2 {T : FuncId → Option (List V → Option COut)} {base : CallFn} {E : Env} {H : FuncId → Option (List V → Option V)} {d : Nat} {g : FuncId} {first caps args : List V} {s : St} (hg : E.ok.contains g = true) (hi : E.imp.contains g = false) (hC : H g = none) (hT : (T g).isSome = true) (hp : (frzs E s (first ++ args ++ caps)).isSome = true) (hq : pureRL ((frzs E s (first ++ args ++ caps)).getD []) = true) :
    callV (withT T base) E H d (.fn (.func g) first caps) args s = CT E d (first ++ args ++ caps) s (((T g).getD fun _ => none) ((frzs E s (first ++ args ++ caps)).getD [])) := by
  obtain ⟨F, hF⟩ := Option.isSome_iff_exists.1 hT
  obtain ⟨p, hP⟩ := Option.isSome_iff_exists.1 hp
  rw [hP] at hq
  unfold callV
  simp only [hg, if_true, hi, Bool.false_eq_true, if_false, hC, hP, hF, withT, Option.getD_some]
  simp only [Option.getD_some] at hq
  rw [if_pos ⟨trivial, trivial, hq⟩]
  cases hFp : F p with
  | none => rfl
  | some o =>
    cases o with
    | ret v => simp only [Option.map_some, CT, CR, CD]
    | pan v => simp only [Option.map_some, CT]
theorem w73 (b : Int) : SoundPure Tryz.prog 23 [I b] (.ret (.bool (decide (2 ≤ b ∧ b ≤ 1000)))) := by
  refine s73 (H := []) sound_nil 3 (by simp) rfl ?_
  simp only [c73, Tryz.f23, gets]
  by_cases h1 : 2 ≤ b
  · have q1 : (b ≥ 2) = True := eq_true h1
    by_cases h2 : b ≤ 1000
    · have q2 := eq_true h2
      rw [decide_eq_true ⟨h1, h2⟩]
      simp only [vmr, vmw, vmp, vza, ↓reduceIte, Nat.reduceBEq, Nat.reduceLT, Nat.reduceAdd, Nat.reduceEqDiff, reduceCtorEq, vmt, vzb, vzc, vlen, vleaf, velems, oks, vst, vmd, ty, Nat.reduceLeDiff, Nat.reduceMul, Nat.reduceSub, vzr, m73, q1, q2]
    · have q2 := eq_false h2
      rw [decide_eq_false (fun h => h2 h.2)]
      simp only [vmr, vmw, vmp, vza, ↓reduceIte, Nat.reduceBEq, Nat.reduceLT, Nat.reduceAdd, Nat.reduceEqDiff, reduceCtorEq, vmt, vzb, vzc, vlen, vleaf, velems, oks, vst, vmd, ty, Nat.reduceLeDiff, Nat.reduceMul, Nat.reduceSub, vzr, m73, q1, q2]
  · have q1 : (b ≥ 2) = False := eq_false h1
    rw [decide_eq_false (fun h => h1 h.1)]
    simp only [vmr, vmw, vmp, vza, ↓reduceIte, Nat.reduceBEq, Nat.reduceLT, Nat.reduceAdd, Nat.reduceEqDiff, reduceCtorEq, vmt, vzb, vzc, vlen, vleaf, velems, oks, vst, vmd, ty, Nat.reduceLeDiff, Nat.reduceMul, Nat.reduceSub, vzr, m73, q1]
noncomputable def F73 : List V → Option V := hF (α := Int) (fun a => [I a]) (fun _ => True) (fun b => .bool (decide (2 ≤ b ∧ b ≤ 1000)))
theorem F73_eq (b : Int) : F73 [I b] = some (.bool (decide (2 ≤ b ∧ b ≤ 1000))) := hF_eq (a := b) (one_inj' fun _ _ => I_inj) (by simp only [cans, canI]) trivial
noncomputable abbrev T36 : List (FuncId × (List V → Option V)) := (23, F73) :: (24, F74) :: []
theorem hT36 : SoundHand Tryz.prog (hand T36) := sound_cons (hF_sound fun a _ => w73 a) <| sound_cons (hF_sound fun a h => w74 a.1 a.2 h.1 h.2.1 h.2.2) sound_nil
structure P36 (s : St) (x b v5 v7 i : Nat) : Prop where
  h1 : tget s.τ 1 = I (b : Nat)
  h5 : tget s.τ 5 = .ptr ⟨0, 5, 0⟩ v5 0 0
  h5' : lget s.L (5, 0) = some (v5, .var [I 0])
  h6 : tget s.τ 6 = N (x / b ^ i)
  h7 : tget s.τ 7 = .ref ⟨0, 7, 0⟩ v7 0 i
  h7' : lget s.L (7, 0) = some (v7, .arr (szi i) ((fx b i x).map I))
set_option exponentiation.threshold 500000 in
theorem pow_lt_2000 {x b i : Nat} (hb : 2 ≤ b) (hx : x < 10 ^ 500) (h : b ^ i ≤ x) : i < 2000 := pow_lt_1700 hb (Nat.lt_of_le_of_lt h hx)
theorem l36 {n k} (x b v5 : Nat) (hb : 2 ≤ b) (hb2 : b ≤ 1000) (hx : x < 10 ^ 500) {P : Option (Ex × St) → Prop} : ∀ d i v7 n' s, 2001 ≤ i + d → d < n' → b ^ (i - 1) ≤ x → i ≤ 2001 → P36 s x b v5 v7 i →
    (∀ s' v7 i, b ^ (i - 1) ≤ x → x < b ^ i → i ≤ 2001 → P36 s' x b v5 v7 i → P (X (tm (tabT K13) (M36 (hand T36) n)) (.exit 0) k s')) →
    P (L (tm (tabT K13) (M36 (hand T36) n)) (sub [1, 1, 1, 1, 1, 1, 0, 0, 0] c36) n' k s) := by
  intro d
  induction d with
  | zero =>
    intro i v7 n' s hd hn hlo hi2 hP hq
    obtain ⟨n', rfl⟩ : ∃ m, n' = m + 1 := ⟨n' - 1, by omega⟩
    by_cases hz : x < b ^ i
    · obtain ⟨h1, h5, h5', h6, h7, h7'⟩ := hP
      have h6z := h6
      rw [Nat.div_eq_of_lt hz] at h6z
      have hc : ((((lm 10000 0).length : Nat) : Int) > 0) = False := eq_false (by rw [lm_zero]; decide)
      rw [L_succ]
      simp only [vmr, vmw, vmp, vza, ↓reduceIte, Nat.reduceBEq, Nat.reduceLT, Nat.reduceAdd, Nat.reduceEqDiff, reduceCtorEq, vmt, vzb, vzc, vlen, vleaf, velems, oks, vst, vmd, ty, Nat.reduceLeDiff, Nat.reduceMul, Nat.reduceSub, c36, Tryz.f6, m36, h6z, hc]
      refine hq _ v7 i hlo hz hi2 ⟨?_, ?_, ?_, ?_, ?_, ?_⟩
      all_goals simp only [vmr, vmw, vmp, vza, ↓reduceIte, Nat.reduceBEq, Nat.reduceLT, Nat.reduceAdd, Nat.reduceEqDiff, reduceCtorEq, vmt, vzb, vzc, vlen, vleaf, velems, oks, vst, vmd, ty, Nat.reduceLeDiff, Nat.reduceMul, Nat.reduceSub, m36, h1, h5, h5', h6, h7, h7']
    · have := pow_lt_2000 hb hx (by omega : b ^ i ≤ x)
      omega
  | succ d ih =>
    intro i v7 n' s hd hn hlo hi2 hP hq
    obtain ⟨n', rfl⟩ : ∃ m, n' = m + 1 := ⟨n' - 1, by omega⟩
    obtain ⟨h1, h5, h5', h6, h7, h7'⟩ := hP
    rw [L_succ]
    by_cases hz : x < b ^ i
    · have h6z := h6
      rw [Nat.div_eq_of_lt hz] at h6z
      have hc : ((((lm 10000 0).length : Nat) : Int) > 0) = False := eq_false (by rw [lm_zero]; decide)
      simp only [vmr, vmw, vmp, vza, ↓reduceIte, Nat.reduceBEq, Nat.reduceLT, Nat.reduceAdd, Nat.reduceEqDiff, reduceCtorEq, vmt, vzb, vzc, vlen, vleaf, velems, oks, vst, vmd, ty, Nat.reduceLeDiff, Nat.reduceMul, Nat.reduceSub, c36, Tryz.f6, m36, h6z, hc]
      refine hq _ v7 i hlo hz hi2 ⟨?_, ?_, ?_, ?_, ?_, ?_⟩
      all_goals simp only [vmr, vmw, vmp, vza, ↓reduceIte, Nat.reduceBEq, Nat.reduceLT, Nat.reduceAdd, Nat.reduceEqDiff, reduceCtorEq, vmt, vzb, vzc, vlen, vleaf, velems, oks, vst, vmd, ty, Nat.reduceLeDiff, Nat.reduceMul, Nat.reduceSub, m36, h1, h5, h5', h6, h7, h7']
    · have hi3 := pow_lt_2000 hb hx (by omega : b ^ i ≤ x)
      have hpos : x / b ^ i ≠ 0 := fun h => by
        have := Nat.div_pos (show b ^ i ≤ x by omega) (pow_pos' hb i)
        omega
      have hc : ((((lm 10000 (x / b ^ i)).length : Nat) : Int) > 0) = True := eq_true (by have := mt (lm_nil b2 (x / b ^ i)).1 hpos; omega)
      have hfew : few (x / b ^ i) := few_of (k := 500) (by omega) (Nat.lt_of_le_of_lt (Nat.div_le_self _ _) hx)
      have e74 : F74 [N (x / b ^ i), I (b : Nat)] = some (.tup [N (x / b ^ i / b), I (x / b ^ i % b : Nat)]) := F74_eq hfew (by omega) (by omega)
      have hsn := congrArg (List.map I) (fx_snoc b i x)
      simp only [List.map_append, List.map_cons, List.map_nil] at hsn
      have hr1 := @room3 1 (by omega)
      have hr2 := @room3 (i + 1) (by omega)
      have hr3 := @room3 (1 + i) (by omega)
      have hz3 : szi (i + 1) = 1 := szis
      have ih := fun v7 s => ih (i + 1) v7 n' s (by omega) (by omega) (by simp only [Nat.add_sub_cancel]; omega) (by omega)
      rw [← div_succ] at e74
      simp only [sub, c36, Tryz.f6, gets] at ih
      rcases Nat.eq_zero_or_pos i with hi0 | hi0
      · subst hi0
        have hf : fx b 0 x = [] := rfl
        rw [szi0, hf] at h7'
        rw [hf] at hsn
        simp only [vmr, vmw, vmp, vza, ↓reduceIte, Nat.reduceBEq, Nat.reduceLT, Nat.reduceAdd, Nat.reduceEqDiff, reduceCtorEq, vmt, vzb, vzc, vlen, vleaf, velems, oks, vst, vmd, ty, Nat.reduceLeDiff, Nat.reduceMul, Nat.reduceSub, c36, Tryz.f6, m36, h1, h6, h7, h7', hc, callV_s2, e74, fitsI, hr1, hr2, hr3, List.map_cons, List.map_nil, allflatI, pureLI, shI, import_I]
        refine ih (s.c + 1 + 1) _ ⟨?_, ?_, ?_, ?_, ?_, ?_⟩ hq
        all_goals simp only [vmr, vmw, vmp, vza, ↓reduceIte, Nat.reduceBEq, Nat.reduceLT, Nat.reduceAdd, Nat.reduceEqDiff, reduceCtorEq, vmt, vzb, vzc, vlen, vleaf, velems, oks, vst, vmd, ty, Nat.reduceLeDiff, Nat.reduceMul, Nat.reduceSub, m36, h1, h5, h5', h6, hz3, hsn, List.length_append, fx_len]
      · have hS : szi i = 1 := by unfold szi; rw [if_neg (by omega)]
        rw [hS] at h7'
        simp only [vmr, vmw, vmp, vza, ↓reduceIte, Nat.reduceBEq, Nat.reduceLT, Nat.reduceAdd, Nat.reduceEqDiff, reduceCtorEq, vmt, vzb, vzc, vlen, vleaf, velems, oks, vst, vmd, ty, Nat.reduceLeDiff, Nat.reduceMul, Nat.reduceSub, c36, Tryz.f6, m36, h1, h6, h7, h7', hc, callV_s2, e74, fitsI, hr1, hr2, hr3, List.map_cons, List.map_nil, allflatI, pureLI, shI, import_I, fx_len]
        refine ih (s.c + 1 + 1) _ ⟨?_, ?_, ?_, ?_, ?_, ?_⟩ hq
        all_goals simp only [vmr, vmw, vmp, vza, ↓reduceIte, Nat.reduceBEq, Nat.reduceLT, Nat.reduceAdd, Nat.reduceEqDiff, reduceCtorEq, vmt, vzb, vzc, vlen, vleaf, velems, oks, vst, vmd, ty, Nat.reduceLeDiff, Nat.reduceMul, Nat.reduceSub, m36, h1, h5, h5', h6, hz3, hsn, List.length_append, fx_len]
end Go.Vi
set_option maxRecDepth 100000
set_option maxHeartbeats 1000000
set_option exponentiation.threshold 256
namespace Go.Vi
open Go Go.Proofs

def digH (b n : Nat) : List Int := if n = 0 then [0] else (lm b n).reverse
def digsS (a : List UInt8) (b : Int) : V :=
  if validB a = true then (if 2 ≤ b ∧ b ≤ 1000 then .tup [Is (digH b.toNat (ival a).natAbs), I 0] else .tup [Is [], I 4]) else .tup [Is [], I 2]
/-- The answer as it is handed back. -/
def digsR (a : List UInt8) (b : Int) : V :=
  if validB a = true then (if 2 ≤ b ∧ b ≤ 1000 then .tup [.own 1 ((digH b.toNat (ival a).natAbs).map I), I 0] else .tup [.nilS, I 4]) else .tup [.nilS, I 2]
theorem digsR_pure {a b} : pureR (digsR a b) = true := by
  unfold digsR
  split
  · split
    · show (pureR (.own 1 ((digH b.toNat (ival a).natAbs).map I)) && (pureR (I 0) && true)) = true
      simp only [pureR, pureLI, Bool.and_self]
    · rfl
  · rfl
theorem digsR_imm {a b} : can (imm (digsR a b)) = digsS a b := by
  unfold digsR digsS
  split
  · split
    · simp only [imm, immL, can, cans, cans_I]
    · rfl
  · rfl
theorem k36 (a : List UInt8) (b : Int) : SoundPure Tryz.prog 6 [.str a, I b] (.ret (digsR a b)) := by
  refine sound_defer (C := Cx (hand T36)) hT36 good mixed hK13 (n := 1000012) (s1 := ?s1) (k := ⟨0, 5, 0⟩) (ver := 0) Tryz.func6 rfl (by simp) digsR_pure (by decide) caught49 ?h0 ?hte ?h1
  case h0 =>
    show R (tm (tabT K13) (M36 (hand T36) 1000012)) (sub [0] c36) .top _ = _
    simp only [c36, Tryz.f6, gets, sub]
    simp only [vmr, vmw, vmp, vza, ↓reduceIte, Nat.reduceBEq, Nat.reduceLT, Nat.reduceAdd, Nat.reduceEqDiff, reduceCtorEq, vmt, vzb, vzc, vlen, vleaf, velems, oks, vst, vmd, ty, Nat.reduceLeDiff, Nat.reduceMul, Nat.reduceSub, m36]
    exact X_top
  case hte => simp only [vmr, vmw, vmp, vza, ↓reduceIte, Nat.reduceBEq, Nat.reduceLT, Nat.reduceAdd, Nat.reduceEqDiff, reduceCtorEq, vmt, vzb, vzc, vlen, vleaf, velems, oks, vst, vmd, ty, Nat.reduceLeDiff, Nat.reduceMul, Nat.reduceSub, m36]
  show FinC (tm (tabT K13) (M36 (hand T36) 1000012)) 25 79 _ [.tmp 4, .cell 5 25] (R (tm (tabT K13) (M36 (hand T36) 1000012)) (sub [1, 1] c36) .top _) = _
  unfold digsR
  cases ha : validB a with
  | false =>
    have ea := F50_bad ha
    simp only [c36, Tryz.f6, gets, sub, opsAt]
    simp only [Bool.false_eq_true, if_false]
    simp only [vmr, vmw, vmp, vza, ↓reduceIte, Nat.reduceBEq, Nat.reduceLT, Nat.reduceAdd, Nat.reduceEqDiff, reduceCtorEq, vmt, vzb, vzc, vlen, vleaf, velems, oks, vst, vmd, ty, Nat.reduceLeDiff, Nat.reduceMul, Nat.reduceSub, vzr, m36, callV_s2, callV_t2, ea, FinC_pan, FinC_ret, tidy_mk]
  | true =>
    have ea := F50_ok ha
    have sa := ival_small ha
    simp only [if_true]
    generalize ival a = x at *
    have e73 := F73_eq b
    by_cases hb : 2 ≤ b ∧ b ≤ 1000
    · rw [if_pos hb]
      rw [decide_eq_true hb] at e73
      have e51 := F51_eq true 4
      simp only [if_true] at e51
      obtain ⟨B, rfl⟩ : ∃ B : Nat, b = B := ⟨b.toNat, by omega⟩
      rw [show ((B : Int)).toNat = B from rfl]
      have hx : x.natAbs < 10 ^ 500 := sa
      obtain ⟨y, hna⟩ : ∃ y, x.natAbs = y := ⟨_, rfl⟩
      rw [hna] at hx ⊢
      by_cases hy : y = 0
      · subst hy
        have hc : ((((lm 10000 0).length : Nat) : Int) == 0) = true := rfl
        have hr1 := @room3 1 (by omega)
        have hd : digH B 0 = [0] := rfl
        rw [hd]
        simp only [c36, Tryz.f6, gets, sub, opsAt]
        simp only [vmr, vmw, vmp, vza, ↓reduceIte, Nat.reduceBEq, Nat.reduceLT, Nat.reduceAdd, Nat.reduceEqDiff, reduceCtorEq, vmt, vzb, vzc, vlen, vleaf, velems, oks, vst, vmd, ty, Nat.reduceLeDiff, Nat.reduceMul, Nat.reduceSub, vzr, m36, callV_s2, callV_t2, ea, hna, e73, e51, hc, hr1, fitsI, List.map_cons, allflatI, pureLI, shI, import_I, FinC_pan, FinC_ret, tidy_mk]
      · have hc : ((((lm 10000 y).length : Nat) : Int) == 0) = false := by rw [beq_eq_false_iff_ne]; have := mt (lm_nil b2 y).1 hy; omega
        have hd : digH B y = (lm B y).reverse := by unfold digH; rw [if_neg hy]
        rw [hd]
        have a1 := fun k s v5 v7 => @l36 1000012 k y B v5 (by omega) (by omega) hx (fun r => FinC (tm (tabT K13) (M36 (hand T36) 1000012)) 25 79 (.ptr ⟨0, 5, 0⟩ 0 0 0) [.tmp 4, .cell 5 25] r = some (.ret (.tup [.own 1 ((lm B y).reverse.map I), I 0]))) 2001 0 v7 1000012 s (by omega) (by omega) (by simp; omega) (by omega)
        simp only [c36, Tryz.f6, gets, sub, opsAt] at a1 ⊢
        simp only [vmr, vmw, vmp, vza, ↓reduceIte, Nat.reduceBEq, Nat.reduceLT, Nat.reduceAdd, Nat.reduceEqDiff, reduceCtorEq, vmt, vzb, vzc, vlen, vleaf, velems, oks, vst, vmd, ty, Nat.reduceLeDiff, Nat.reduceMul, Nat.reduceSub, m36, callV_s2, callV_t2, ea, hna, e73, e51, hc, allflatI, pureLI, shI, import_I]
        refine a1 _ _ 0 1 ⟨?_, ?_, ?_, ?_, ?_, ?_⟩ (fun s' v7 i hlo hhi hi2 ⟨h1, h5, h5', h6, h7, h7'⟩ => ?_)
        case refine_7 =>
          obtain ⟨τ, L, O, c⟩ := s'
          dsimp only at h1 h5 h5' h6 h7 h7'
          have hi0 : i ≠ 0 := fun h => by subst h; rw [Nat.pow_zero] at hhi; omega
          have hS : szi i = 1 := by unfold szi; rw [if_neg hi0]
          have hlm : fx B i y = lm B y := lm_of (by omega) hhi hlo
          have hil : (lm B y).length = i := by rw [← hlm, fx_len]
          rw [hS, hlm] at h7'
          obtain ⟨c', O', hcl, ho, hf⟩ := w75 (H := hand T36) (n := 1000010) (c := c) (vr := v7) (O := heapOf 0 L O) (xs := lm B y) (by omega) (by omega) (by rw [heapOf_get, if_pos rfl]; exact h7')
          rw [hil] at hcl
          have h5o : O' ⟨0, 5, 0⟩ = some (0, .var [I 0]) := hf _ (by simp) (by simp) |>.trans (by rw [heapOf_get, if_pos rfl]; exact h5')
          have hcall : ∀ args lvl c O, (withT (tabT K13) (M36 (hand T36) 1000012).call).fn 25 args lvl c O = (evF (Cx (hand T36)) (1000010 + 2)).fn 25 args lvl c O := fun _ _ _ _ => withT_fn (call := (M36 (hand T36) 1000012).call) rfl
          have hb7 : ∀ τ1 O1 c1, lget (back (M36 (hand T36) 1000012).E ⟨τ1, L, O1, c1⟩ c' O').L (7, 0) = some (v7, .arr 1 ((lm B y).reverse.map I)) := fun τ1 O1 c1 => back_get (s := ⟨τ1, L, O1, c1⟩) h7' ho
          have hb5 : ∀ τ1 O1 c1, lget (back (M36 (hand T36) 1000012).E ⟨τ1, L, O1, c1⟩ c' O').L (5, 0) = some (0, .var [I 0]) := fun τ1 O1 c1 => back_get (s := ⟨τ1, L, O1, c1⟩) h5' h5o
          have htk : ((lm B y).reverse.map I).take i = (lm B y).reverse.map I := List.take_of_length_le (by simp [hil])
          have hle : (i ≤ (lm B y).reverse.length) = True := eq_true (by rw [List.length_reverse, hil]; exact Nat.le_refl _)
          simp only [vmr, vmw, vmp, vza, ↓reduceIte, Nat.reduceBEq, Nat.reduceLT, Nat.reduceAdd, Nat.reduceEqDiff, reduceCtorEq, vmt, vzb, vzc, vlen, vleaf, velems, oks, vst, vmd, ty, Nat.reduceLeDiff, Nat.reduceMul, Nat.reduceSub, m36, h5, h7, h7', callV_i, St.heap]
          rw [hcall, hcl]
          simp only [vmr, vmw, vmp, vza, ↓reduceIte, Nat.reduceBEq, Nat.reduceLT, Nat.reduceAdd, Nat.reduceEqDiff, reduceCtorEq, vmt, vzb, vzc, vlen, vleaf, velems, oks, vst, vmd, ty, Nat.reduceLeDiff, Nat.reduceMul, Nat.reduceSub, CI, m36, back_τ, back_O, back_c, hb7, hb5, h5, h7]
          simp only [vmr, vmw, vmp, vza, ↓reduceIte, Nat.reduceBEq, Nat.reduceLT, Nat.reduceAdd, Nat.reduceEqDiff, reduceCtorEq, vmt, vzb, vzc, vlen, vleaf, velems, oks, vst, vmd, ty, Nat.reduceLeDiff, Nat.reduceMul, Nat.reduceSub, vzr, m36, back_τ, back_O, back_c, hb7, hb5, h5, h7, htk, hle, allflatI, pureLI, shI, FinC_pan, FinC_ret, tidy_mk]
        all_goals simp only [vmr, vmw, vmp, vza, ↓reduceIte, Nat.reduceBEq, Nat.reduceLT, Nat.reduceAdd, Nat.reduceEqDiff, reduceCtorEq, vmt, vzb, vzc, vlen, vleaf, velems, oks, vst, vmd, ty, Nat.reduceLeDiff, Nat.reduceMul, Nat.reduceSub, m36, Nat.pow_zero, Nat.div_one, szi0]
        all_goals rfl
    · rw [if_neg hb]
      rw [decide_eq_false hb] at e73
      have e51 := F51_eq false 4
      simp only [Bool.false_eq_true, if_false] at e51
      simp only [c36, Tryz.f6, gets, sub, opsAt]
      simp only [vmr, vmw, vmp, vza, ↓reduceIte, Nat.reduceBEq, Nat.reduceLT, Nat.reduceAdd, Nat.reduceEqDiff, reduceCtorEq, vmt, vzb, vzc, vlen, vleaf, velems, oks, vst, vmd, ty, Nat.reduceLeDiff, Nat.reduceMul, Nat.reduceSub, vzr, m36, callV_s2, callV_t2, ea, e73, e51, FinC_pan, FinC_ret, tidy_mk]
theorem w36 (a : List UInt8) (b : Int) : SoundPure Tryz.prog 6 [.str a, I b] (.ret (digsS a b)) := by
  have := sound_imm (k36 a b) digsR_pure
  rw [digsR_imm] at this
  exact this
noncomputable def F36 : List V → Option V := hF (α := List UInt8 × Int) (fun a => [.str a.1, I a.2]) (fun _ => True) (fun a => digsS a.1 a.2)
theorem F36_eq (a : List UInt8) (b : Int) : F36 [.str a, I b] = some (digsS a b) := hF_eq (a := (a, b)) (fun a b h => by
  injection h with h1 h2
  injection h2 with h2 _
  exact Prod.ext (Str_inj h1) (I_inj h2)) (by simp only [cans, canStr, canI]) trivial
end Go.Vi
