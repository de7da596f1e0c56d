/-
  Walks of arith's integers: text, opposite, sum, product and the closures.
-/
import Derived.Test.YtpdeblfnbcponaaGreatDoorXE
import Derived.Test.YtpdeblfnbcponaaGreatDoorXC
set_option linter.unusedSimpArgs false
set_option linter.unusedVariables false
set_option maxRecDepth 100000
set_option maxHeartbeats 1000000
namespace Go.Vi
open Go Go.Proofs

/-- The value of an integer. -/
abbrev Zi (z : Int) : V := Z (decide (z < 0)) (lm 10000 z.natAbs)
abbrev fewI (z : Int) : Prop := few z.natAbs
theorem Z_inj {a b : Bool} {l m : List Int} (h : Z a l = Z b m) : a = b ∧ l = m := by
  injection h with h
  injection h with h1 h2
  injection h2 with h2 _
  injection h1 with h1
  exact ⟨h1, Is_inj h2⟩
theorem Zi_inj {x y : Int} (h : Zi x = Zi y) : x = y := by
  obtain ⟨h1, h2⟩ := Z_inj h
  have h3 := lm_inj (by omega) h2
  have h4 : (x < 0) ↔ (y < 0) := by simpa using h1
  omega
theorem canZ {b l} : can (Z b l) = Z b l := by
  have h : can (Is l) = Is l := canIs l
  show V.agg (cans [.bool b, Is l]) = _
  simp only [cans, h, canBool]
theorem F53_pos (n : Nat) : F53 [N n, .bool false] = some (Zi (n : Int)) := by
  rw [F53_eq, Bool.false_and]
  simp only [Zi, Int.natAbs_natCast]
  rw [decide_eq_false (show ¬ ((n : Int) < 0) by omega)]
theorem F53_neg (n : Nat) : F53 [N n, .bool true] = some (Zi (-(n : Int))) := by
  rw [F53_eq, Bool.true_and]
  simp only [Zi, Int.natAbs_neg, Int.natAbs_natCast]
  congr 3
  by_cases h : n = 0
  · subst h; simp [lm_zero]
  · have : 0 < (lm 10000 n).length := by have := mt (lm_nil (B := 10000) (by omega) n).1 h; omega
    exact propext ⟨fun _ => by omega, fun _ => this⟩
theorem sZ {b l} : pureR (Z b l) = true := by simp only [pureR, pureRL, pureLI, Bool.and_self]
theorem bxs : ((true != true) = false) ∧ ((true != false) = true) ∧ ((false != true) = true) ∧ ((false != false) = false) ∧ ((true == true) = true) ∧ ((true == false) = false) ∧ ((false == true) = false) ∧ ((false == false) = true) := by decide
end Go.Vi
set_option maxRecDepth 100000
set_option maxHeartbeats 1000000
namespace Go.Vi
open Go Go.Proofs

def itxt (z : Int) : List UInt8 := if z < 0 then 45 :: txt z.natAbs else txt z.natAbs
def fitB (n : Nat) : Bool := decide ((txt n).length ≤ 500)
noncomputable abbrev T54 : List (FuncId × (List V → Option V)) := (55, F86) :: []
theorem hT54 : SoundHand Tryz.prog (hand T54) := sound_cons (hF_sound fun a h => w86 a h) sound_nil
theorem w54 (x : Int) (hx : fewI x) : SoundPure Tryz.prog 36 [Zi x] (outT (fitB x.natAbs) (.str (itxt x)) 7) := by
  have e86 := F86_eq hx
  have e51 := F51_eq (fitB x.natAbs) 7
  unfold outT
  refine sound_ofT (C := Cx (hand T54)) hT54 good mixed hK50 Tryz.func36 rfl (by simp) (n := 6) ?_ ?_
  · cases fitB x.natAbs
    · rfl
    · simp only [if_true, pureR]
  show Fin (tm (tabT K50) (M54 (hand T54) 6)) [.tmp 2] (R (tm (tabT K50) (M54 (hand T54) 6)) c54 .top _) = _
  simp only [c54, Tryz.f36, gets]
  cases hv : fitB x.natAbs with
  | false =>
    rw [hv] at e51
    simp only [Bool.false_eq_true, if_false] at e51 ⊢
    have hc : ((((txt x.natAbs).length : Nat) : Int) ≤ 500) = False := eq_false (by have := of_decide_eq_false hv; omega)
    simp only [vmr, vmw, vmp, vza, ↓reduceIte, Nat.reduceBEq, Nat.reduceLT, Nat.reduceAdd, Nat.reduceEqDiff, reduceCtorEq, vmt, vzb, vzc, vlen, vleaf, velems, oks, vst, vmd, ty, Nat.reduceLeDiff, Nat.reduceMul, Nat.reduceSub, vzr, m54, e86, hc, e51]
  | true =>
    rw [hv] at e51
    simp only [if_true] at e51 ⊢
    have hc : ((((txt x.natAbs).length : Nat) : Int) ≤ 500) = True := eq_true (by have := of_decide_eq_true hv; omega)
    unfold itxt
    by_cases h : x < 0
    · have d := decide_eq_true h
      rw [if_pos h]
      have hl := of_decide_eq_true hv
      have k1 : (0 + 1 + (txt x.natAbs).length ≤ 9223372036854775807) = True := eq_true (by omega)
      have k2 : (1 + (txt x.natAbs).length ≤ 9223372036854775807) = True := eq_true (by omega)
      simp only [vmr, vmw, vmp, vza, ↓reduceIte, Nat.reduceBEq, Nat.reduceLT, Nat.reduceAdd, Nat.reduceEqDiff, reduceCtorEq, vmt, vzb, vzc, vlen, vleaf, velems, oks, vst, vmd, ty, Nat.reduceLeDiff, Nat.reduceMul, Nat.reduceSub, vzr, m54, e86, hc, e51, d, strOp, List.length_cons, List.length_nil, k1, k2, List.cons_append, List.nil_append]
    · have d := decide_eq_false h
      rw [if_neg h]
      simp only [vmr, vmw, vmp, vza, ↓reduceIte, Nat.reduceBEq, Nat.reduceLT, Nat.reduceAdd, Nat.reduceEqDiff, reduceCtorEq, vmt, vzb, vzc, vlen, vleaf, velems, oks, vst, vmd, ty, Nat.reduceLeDiff, Nat.reduceMul, Nat.reduceSub, vzr, m54, e86, hc, e51, d, strOp, List.cons_append, List.nil_append]
noncomputable def F54 : List V → Option COut := hO (α := Int) (fun a => [Zi a]) fewI (fun x => outT (fitB x.natAbs) (.str (itxt x)) 7)
theorem F54_eq {x : Int} (h : fewI x) : F54 [Zi x] = some (outT (fitB x.natAbs) (.str (itxt x)) 7) := hO_eq (a := x) (one_inj' fun _ _ => Zi_inj) (by simp only [cans, canZ]) h
end Go.Vi
set_option maxRecDepth 100000
set_option maxHeartbeats 1000000
namespace Go.Vi
open Go Go.Proofs

theorem FinC_ret {M et tf p rs s} : FinC M et tf p rs (some (.ret, s)) = Fin M rs (some (.ret, s)) := rfl
theorem FinC_pan {M et tf p rs c s} : FinC M et tf p rs (some (.pan (.iface tf (.agg [.int .i64 c])), s)) = (match storeAt M.E et p (.int .i64 c) s with | some s' => Fin M rs (some (.ret, s')) | none => none) := by
  show (if tf = tf then _ else _) = _
  rw [if_pos rfl]
  rfl
theorem tidy_mk {E : Env} {τ L O c} : tidy E ⟨τ, L, O, c⟩ = ⟨tkeep τ E.keep, lkeep L E.keep, O, c⟩ := rfl
def ival (s : List UInt8) : Int := if preB s [45] = true then -(dval (dropB s [45]) : Int) else (dval (dropB s [45]) : Int)
theorem dval_pos : ∀ (t : List UInt8), t.all isDig = true → t ≠ [] → (t.head? == some 48) = false → 0 < dval t
  | [], _, h, _ => absurd rfl h
  | u :: r, h, _, h0 => by
    have hd := dacc_cons 0 u r
    have e : dval (u :: r) = dg u * 10 ^ r.length + dval r := by
      have := dval_append [u] r
      simpa [dval, dacc, dacl] using this
    rw [e]
    have hu : isDig u = true := by simp at h; exact h.1
    have hne : u ≠ 48 := fun e => by subst e; simp at h0
    have : 0 < dg u := by
      simp only [isDig, Bool.and_eq_true, decide_eq_true_eq] at hu
      unfold dg
      have h48 : u.toNat ≠ 48 := fun e => hne (UInt8.toNat_inj.1 (by simpa using e))
      omega
    have := Nat.mul_pos this (Nat.pow_pos (n := r.length) (show 0 < 10 by omega))
    omega
theorem Z_ival {s : List UInt8} (h : validB s = true) : Z (preB s [45]) (lm 10000 (dval (dropB s [45]))) = Zi (ival s) := by
  unfold ival
  cases hp : preB s [45] with
  | false =>
    simp only [Bool.false_eq_true, if_false, Zi, Int.natAbs_natCast]
    rw [decide_eq_false (show ¬ ((dval (dropB s [45]) : Nat) : Int) < 0 by omega)]
  | true =>
    simp only [if_true, Zi, Int.natAbs_neg, Int.natAbs_natCast]
    have : 0 < dval (dropB s [45]) := by
      unfold validB at h
      rw [Bool.or_eq_true] at h
      rcases h with h | h
      · have : s = [48] := by simpa using h
        subst this
        exact absurd hp (by decide)
      · unfold validT at h
        simp only [Bool.and_eq_true, Bool.not_eq_true', decide_eq_false_iff_not, beq_eq_false_iff_ne, ne_eq] at h
        exact dval_pos _ h.2 h.1.1.1 (by simpa using h.1.2)
    rw [decide_eq_true (by omega)]
theorem F50_ok {s : List UInt8} (h : validB s = true) : F50 [.str s] = some (.ret (Zi (ival s))) := by
  rw [F50_eq, h, outT, if_pos rfl, Z_ival h]
theorem F50_bad {s : List UInt8} (h : validB s = false) : F50 [.str s] = some (.pan (fault 2)) := by
  rw [F50_eq, h]
  rfl
/-- A value of at most 500 digits. -/
abbrev small (z : Int) : Prop := z.natAbs < 10 ^ 500
set_option exponentiation.threshold 500000 in
theorem ival_small {s : List UInt8} (h : validB s = true) : small (ival s) := by
  obtain ⟨h1, h2⟩ := valid_dig h
  have h3 := dval_lt _ h1
  have h4 : (10 : Nat) ^ (dropB s [45]).length ≤ 10 ^ 500 := Nat.pow_le_pow_right (by omega) h2
  have : (ival s).natAbs = dval (dropB s [45]) := by unfold ival; split <;> omega
  show (ival s).natAbs < _
  omega
set_option exponentiation.threshold 500000 in
theorem few_of {n k : Nat} (hk : k ≤ 400000) (h : n < 10 ^ k) : few n := by
  have : (10 : Nat) ^ k ≤ 10 ^ (4 * 100000) := Nat.pow_le_pow_right (by omega) (by omega)
  show (lm 10000 n).length ≤ 100000
  rw [lm_len_le (by omega)]
  rw [Nat.pow_mul, show (10 : Nat) ^ 4 = 10000 from rfl] at this
  omega
theorem small_few {z : Int} (h : small z) : fewI z := few_of (k := 500) (by omega) h
end Go.Vi
set_option maxRecDepth 100000
set_option maxHeartbeats 1000000
namespace Go.Vi
open Go Go.Proofs

end Go.Vi
