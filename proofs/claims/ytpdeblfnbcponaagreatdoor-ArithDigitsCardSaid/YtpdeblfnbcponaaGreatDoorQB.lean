/-
  Walk of the reference's Text.
-/
import Derived.Test.YtpdeblfnbcponaaGreatDoorQA
import Derived.Below
import Derived.Test.YtpdeblfnbcponaaGreatDoorYE
set_option linter.unusedSimpArgs false
set_option linter.unusedVariables false
set_option maxRecDepth 100000
set_option maxHeartbeats 1000000
set_option exponentiation.threshold 256
namespace Go.Vi
open Go Go.Proofs

/-- A natural with a sign. -/
def sgv (neg : Bool) (m : Nat) : Int := if neg = true then -(m : Int) else (m : Int)
def lowS (i x : Nat) : List UInt8 := ((fx 10 i x).map dgt).reverse
theorem lowS_succ (i x : Nat) : lowS (i + 1) x = dgt ((x / 10 ^ i % 10 : Nat) : Int) :: lowS i x := by
  unfold lowS
  rw [fx_snoc]
  simp
theorem byteV {d : Nat} (h : d < 10) : bytesV [.int .u8 (48 + (d : Int))] = some [dgt (d : Int)] := by
  simp only [bytesV]
  have e : (48 + (d : Int)).toNat = 48 + d := by omega
  first
    | (rw [if_pos (by omega)]; simp [e])
    | simp [e]
structure P314 (s : St) (neg : Bool) (x i : Nat) : Prop where
  h0 : tget s.τ 0 = I (sgv neg x)
  h3 : tget s.τ 3 = .str (lowS i x)
  h4 : tget s.τ 4 = I (sgv neg (x / 10 ^ i))
theorem l314 {n k} (neg : Bool) (x : Nat) (hx : x ≤ 9223372036854775808) {P : Option (Ex × St) → Prop} : ∀ d i n' s, 20 ≤ i + d → d < n' → (i = 0 ∨ 10 ^ (i - 1) ≤ x) → i ≤ 20 → P314 s neg x i →
    (∀ s' i, (i = 0 ∨ 10 ^ (i - 1) ≤ x) → x < 10 ^ i → P314 s' neg x i → P (X (M314 (hand []) n) (.exit 0) k s')) →
    P (L (M314 (hand []) n) (sub [1, 1, 1, 1, 0, 0, 0] c314) n' k s) := by
  have hx19 : x < 10 ^ 19 := by have : (10 : Nat) ^ 19 = 10000000000000000000 := by decide
                                omega
  intro d
  induction d with
  | zero =>
    intro i n' s hd hn hlo hi2 hP hq
    obtain ⟨n', rfl⟩ : ∃ m, n' = m + 1 := ⟨n' - 1, by omega⟩
    have hz : x < 10 ^ i := Nat.lt_of_lt_of_le hx19 (Nat.pow_le_pow_right (by omega) (by omega))
    obtain ⟨h0, h3, h4⟩ := hP
    have h4z := h4
    rw [Nat.div_eq_of_lt hz] at h4z
    have hc : ((sgv neg 0 : Int) != 0) = false := by cases neg <;> rfl
    rw [L_succ]
    simp only [vmr, vmw, vmp, vza, ↓reduceIte, Nat.reduceBEq, Nat.reduceLT, Nat.reduceAdd, Nat.reduceEqDiff, reduceCtorEq, vmt, vzb, vzc, vlen, vleaf, velems, oks, vst, vmd, ty, Nat.reduceLeDiff, Nat.reduceMul, Nat.reduceSub, c314, Tryz.f14, m314, h4z, hc]
    refine hq _ i hlo hz ⟨?_, ?_, ?_⟩
    all_goals simp only [vmr, vmw, vmp, vza, ↓reduceIte, Nat.reduceBEq, Nat.reduceLT, Nat.reduceAdd, Nat.reduceEqDiff, reduceCtorEq, vmt, vzb, vzc, vlen, vleaf, velems, oks, vst, vmd, ty, Nat.reduceLeDiff, Nat.reduceMul, Nat.reduceSub, m314, h0, h3, h4]
  | succ d ih =>
    intro i n' s hd hn hlo hi2 hP hq
    obtain ⟨n', rfl⟩ : ∃ m, n' = m + 1 := ⟨n' - 1, by omega⟩
    obtain ⟨h0, h3, h4⟩ := hP
    rw [L_succ]
    by_cases hz : x < 10 ^ i
    · have h4z := h4
      rw [Nat.div_eq_of_lt hz] at h4z
      have hc : ((sgv neg 0 : Int) != 0) = false := by cases neg <;> rfl
      simp only [vmr, vmw, vmp, vza, ↓reduceIte, Nat.reduceBEq, Nat.reduceLT, Nat.reduceAdd, Nat.reduceEqDiff, reduceCtorEq, vmt, vzb, vzc, vlen, vleaf, velems, oks, vst, vmd, ty, Nat.reduceLeDiff, Nat.reduceMul, Nat.reduceSub, c314, Tryz.f14, m314, h4z, hc]
      refine hq _ i hlo hz ⟨?_, ?_, ?_⟩
      all_goals simp only [vmr, vmw, vmp, vza, ↓reduceIte, Nat.reduceBEq, Nat.reduceLT, Nat.reduceAdd, Nat.reduceEqDiff, reduceCtorEq, vmt, vzb, vzc, vlen, vleaf, velems, oks, vst, vmd, ty, Nat.reduceLeDiff, Nat.reduceMul, Nat.reduceSub, m314, h0, h3, h4]
    · have hi3 : i < 19 := by
        refine Nat.lt_of_not_le fun h => hz ?_
        exact Nat.lt_of_lt_of_le hx19 (Nat.pow_le_pow_right (by omega) h)
      have hpos : 0 < x / 10 ^ i := Nat.div_pos (by omega) (Nat.pow_pos (by omega))
      have hle : x / 10 ^ i ≤ x := Nat.div_le_self _ _
      have ih := fun s => ih (i + 1) n' s (by omega) (by omega) (by simp only [Nat.add_sub_cancel]; omega) (by omega)
      have e10 : x / 10 ^ (i + 1) = x / 10 ^ i / 10 := div_succ 10 x i
      have hls := lowS_succ i x
      generalize hy : x / 10 ^ i = y at *
      have hc : ((sgv neg y : Int) != 0) = true := by
        rw [bne_iff_ne]
        unfold sgv
        split <;> omega
      have n10 : ((10 : Int) = 0) = False := by decide
      have dm := Nat.mod_lt y (show 0 < 10 by omega)
      have w4 : IntKind.i64.wrap (48 + ((y % 10 : Nat) : Int)) = 48 + ((y % 10 : Nat) : Int) := by rw [wrap_id] <;> omega
      have w5 := w48 (d := y % 10) (by omega)
      have hr1 := @room5 1 (by omega)
      have hby := byteV dm
      have hsz : (1 + (lowS i x).length ≤ 9223372036854775807) = True := eq_true (by unfold lowS; rw [List.length_reverse, List.length_map, fx_len]; omega)
      simp only [sub, c314, Tryz.f14, gets] at ih
      cases neg with
      | false =>
        have t2 : Int.tmod (sgv false y) 10 = ((y % 10 : Nat) : Int) := rfl
        have t1 : IntKind.i64.wrap (Int.tdiv (sgv false y) 10) = sgv false (y / 10) := by
          show IntKind.i64.wrap (Int.tdiv (y : Int) 10) = ((y / 10 : Nat) : Int)
          rw [show Int.tdiv (y : Int) 10 = ((y / 10 : Nat) : Int) from rfl, wrap_id]
          omega
        have q1 : (((y % 10 : Nat) : Int) < 0) = False := eq_false (by omega)
        simp only [vmr, vmw, vmp, vza, ↓reduceIte, Nat.reduceBEq, Nat.reduceLT, Nat.reduceAdd, Nat.reduceEqDiff, reduceCtorEq, vmt, vzb, vzc, vlen, vleaf, velems, oks, vst, vmd, ty, Nat.reduceLeDiff, Nat.reduceMul, Nat.reduceSub, c314, Tryz.f14, m314, h0, h3, h4, hc, n10, t1, t2, q1, w4, w5, hr1, fits5b, str100.1, str100.2, convB_ref, cv2_lst, hby, hsz, strOp, List.map_cons, List.map_nil]
        refine ih _ ⟨?_, ?_, ?_⟩ hq
        all_goals simp only [vmr, vmw, vmp, vza, ↓reduceIte, Nat.reduceBEq, Nat.reduceLT, Nat.reduceAdd, Nat.reduceEqDiff, reduceCtorEq, vmt, vzb, vzc, vlen, vleaf, velems, oks, vst, vmd, ty, Nat.reduceLeDiff, Nat.reduceMul, Nat.reduceSub, m314, h0, h4, t1, e10, hls]
      | true =>
        have t2 : Int.tmod (sgv true y) 10 = -((y % 10 : Nat) : Int) := by
          show Int.tmod (-(y : Int)) 10 = _
          rw [Int.neg_tmod]
          rfl
        have t1 : IntKind.i64.wrap (Int.tdiv (sgv true y) 10) = sgv true (y / 10) := by
          show IntKind.i64.wrap (Int.tdiv (-(y : Int)) 10) = -((y / 10 : Nat) : Int)
          rw [Int.neg_tdiv, show Int.tdiv (y : Int) 10 = ((y / 10 : Nat) : Int) from rfl, wrap_id]
          omega
        have w6 : IntKind.i64.wrap (0 - -((y % 10 : Nat) : Int)) = ((y % 10 : Nat) : Int) := by rw [wrap_id] <;> omega
        by_cases q : y % 10 = 0
        · have q1 : (-((y % 10 : Nat) : Int) < 0) = False := eq_false (by omega)
          have t2' : -((y % 10 : Nat) : Int) = ((y % 10 : Nat) : Int) := by omega
          rw [t2'] at t2 q1
          simp only [vmr, vmw, vmp, vza, ↓reduceIte, Nat.reduceBEq, Nat.reduceLT, Nat.reduceAdd, Nat.reduceEqDiff, reduceCtorEq, vmt, vzb, vzc, vlen, vleaf, velems, oks, vst, vmd, ty, Nat.reduceLeDiff, Nat.reduceMul, Nat.reduceSub, c314, Tryz.f14, m314, h0, h3, h4, hc, n10, t1, t2, q1, w4, w5, hr1, fits5b, str100.1, str100.2, convB_ref, cv2_lst, hby, hsz, strOp, List.map_cons, List.map_nil]
          refine ih _ ⟨?_, ?_, ?_⟩ hq
          all_goals simp only [vmr, vmw, vmp, vza, ↓reduceIte, Nat.reduceBEq, Nat.reduceLT, Nat.reduceAdd, Nat.reduceEqDiff, reduceCtorEq, vmt, vzb, vzc, vlen, vleaf, velems, oks, vst, vmd, ty, Nat.reduceLeDiff, Nat.reduceMul, Nat.reduceSub, m314, h0, h4, t1, e10, hls]
        · have q1 : (-((y % 10 : Nat) : Int) < 0) = True := eq_true (by omega)
          simp only [vmr, vmw, vmp, vza, ↓reduceIte, Nat.reduceBEq, Nat.reduceLT, Nat.reduceAdd, Nat.reduceEqDiff, reduceCtorEq, vmt, vzb, vzc, vlen, vleaf, velems, oks, vst, vmd, ty, Nat.reduceLeDiff, Nat.reduceMul, Nat.reduceSub, c314, Tryz.f14, m314, h0, h3, h4, hc, n10, t1, t2, q1, w6, w4, w5, hr1, fits5b, str100.1, str100.2, convB_ref, cv2_lst, hby, hsz, strOp, List.map_cons, List.map_nil]
          refine ih _ ⟨?_, ?_, ?_⟩ hq
          all_goals simp only [vmr, vmw, vmp, vza, ↓reduceIte, Nat.reduceBEq, Nat.reduceLT, Nat.reduceAdd, Nat.reduceEqDiff, reduceCtorEq, vmt, vzb, vzc, vlen, vleaf, velems, oks, vst, vmd, ty, Nat.reduceLeDiff, Nat.reduceMul, Nat.reduceSub, m314, h0, h4, t1, e10, hls]
def F314P (n : Nat) (v : V) (r : Option (Ex × St)) : Prop := Fin (M314 (hand []) n) [.tmp 2] r = some (.ret v)
theorem w314 (n : Int) (hn : -9223372036854775808 ≤ n ∧ n ≤ 9223372036854775807) : SoundPure Tryz.prog 14 [I n] (.ret (.str (itxt n))) := by
  refine s314 (H := []) sound_nil 30 (by simp) rfl ?_
  show F314P _ _ _
  by_cases h0 : n = 0
  · subst h0
    have e : itxt 0 = [48] := rfl
    have q0 : ((0 : Int) == 0) = true := rfl
    rw [e]
    simp only [c314, Tryz.f14, gets]
    unfold F314P
    simp only [vmr, vmw, vmp, vza, ↓reduceIte, Nat.reduceBEq, Nat.reduceLT, Nat.reduceAdd, Nat.reduceEqDiff, reduceCtorEq, vmt, vzb, vzc, vlen, vleaf, velems, oks, vst, vmd, ty, Nat.reduceLeDiff, Nat.reduceMul, Nat.reduceSub, vzr, m314, q0]
  · have q0 : ((n : Int) == 0) = false := by rw [beq_eq_false_iff_ne]; exact h0
    have hs : sgv (decide (n < 0)) n.natAbs = n := by
      unfold sgv
      by_cases h : n < 0
      · rw [decide_eq_true h, if_pos rfl]; omega
      · rw [decide_eq_false h, if_neg (by decide)]; omega
    have a1 := fun k s => @l314 30 k (decide (n < 0)) n.natAbs (by omega) (F314P 30 (.str (itxt n))) 20 0 30 s (by omega) (by omega) (.inl rfl) (by omega)
    simp only [sub, c314, Tryz.f14, gets] at a1 ⊢
    simp only [vmr, vmw, vmp, vza, ↓reduceIte, Nat.reduceBEq, Nat.reduceLT, Nat.reduceAdd, Nat.reduceEqDiff, reduceCtorEq, vmt, vzb, vzc, vlen, vleaf, velems, oks, vst, vmd, ty, Nat.reduceLeDiff, Nat.reduceMul, Nat.reduceSub, m314, q0]
    refine a1 _ _ ⟨?_, ?_, ?_⟩ (fun s' i hlo hhi ⟨h0', h3, h4⟩ => ?_)
    case refine_4 =>
      have hna : n.natAbs ≠ 0 := by omega
      have hi0 : i ≠ 0 := fun h => by subst h; rw [Nat.pow_zero] at hhi; omega
      have hlm : lowS i n.natAbs = txt n.natAbs := by
        rw [txt_pos hna]
        unfold lowS
        rw [lm_of b10 hhi (hlo.resolve_left hi0)]
      have hi20 : (lowS i n.natAbs).length ≤ 1000 := by
        rw [hlm]
        have h1 := txt_len n.natAbs
        rw [if_neg hna] at h1
        rw [h1]
        have := (lm_len_le b10 n.natAbs 19).2 (by have : (10 : Nat) ^ 19 = 10000000000000000000 := by decide
                                                  omega)
        omega
      rw [hs] at h0'
      rw [hlm] at h3 hi20
      have hsz : (1 + (txt n.natAbs).length ≤ 9223372036854775807) = True := eq_true (by omega)
      by_cases hneg : n < 0
      · have q1 := eq_true hneg
        have e : itxt n = 45 :: txt n.natAbs := by unfold itxt; rw [if_pos hneg]
        rw [e]
        unfold F314P
        simp only [vmr, vmw, vmp, vza, ↓reduceIte, Nat.reduceBEq, Nat.reduceLT, Nat.reduceAdd, Nat.reduceEqDiff, reduceCtorEq, vmt, vzb, vzc, vlen, vleaf, velems, oks, vst, vmd, ty, Nat.reduceLeDiff, Nat.reduceMul, Nat.reduceSub, vzr, m314, h0', h3, q1, hsz, strOp]
      · have q1 := eq_false hneg
        have e : itxt n = txt n.natAbs := by unfold itxt; rw [if_neg hneg]
        rw [e]
        unfold F314P
        simp only [vmr, vmw, vmp, vza, ↓reduceIte, Nat.reduceBEq, Nat.reduceLT, Nat.reduceAdd, Nat.reduceEqDiff, reduceCtorEq, vmt, vzb, vzc, vlen, vleaf, velems, oks, vst, vmd, ty, Nat.reduceLeDiff, Nat.reduceMul, Nat.reduceSub, vzr, m314, h0', h3, q1]
    all_goals simp only [vmr, vmw, vmp, vza, ↓reduceIte, Nat.reduceBEq, Nat.reduceLT, Nat.reduceAdd, Nat.reduceEqDiff, reduceCtorEq, vmt, vzb, vzc, vlen, vleaf, velems, oks, vst, vmd, ty, Nat.reduceLeDiff, Nat.reduceMul, Nat.reduceSub, m314, hs, Nat.pow_zero, Nat.div_one]
    all_goals rfl
noncomputable def F314 : List V → Option V := hF (α := Int) (fun a => [I a]) (fun n => -9223372036854775808 ≤ n ∧ n ≤ 9223372036854775807) (fun n => .str (itxt n))
theorem F314_eq {n : Int} (h : -9223372036854775808 ≤ n ∧ n ≤ 9223372036854775807) : F314 [I n] = some (.str (itxt n)) := hF_eq (a := n) (one_inj' fun _ _ => I_inj) (by simp only [cans, canI]) h
end Go.Vi
set_option maxRecDepth 100000
set_option maxHeartbeats 1000000
set_option exponentiation.threshold 256
namespace Go.Vi
open Go Go.Proofs

def intS (a : List UInt8) : V :=
  if validB a = true then (if -9223372036854775808 ≤ ival a ∧ ival a ≤ 9223372036854775807 then .tup [I (ival a), I 0] else .tup [I 0, I 7]) else .tup [I 0, I 2]
theorem intS_pure {a} : pureR (intS a) = true := by
  unfold intS
  split
  · split <;> rfl
  · rfl
noncomputable abbrev T312 : List (FuncId × (List V → Option V)) := (26, F31) :: (27, F45) :: (14, F314) :: []
theorem hT312 : SoundHand Tryz.prog (hand T312) := sound_cons (hF_sound fun a _ => w31 a) <| sound_cons (hF_sound fun a h => w45 a h) <| sound_cons (hF_sound fun a h => w314 a h) sound_nil
structure P312 (s : St) (a : List UInt8) (neg : Bool) (y v4 j : Nat) : Prop where
  h0 : tget s.τ 0 = .str a
  h4 : tget s.τ 4 = .ptr ⟨0, 4, 0⟩ v4 0 0
  h4' : lget s.L (4, 0) = some (v4, .var [.bool neg, D y])
  h5 : tget s.τ 5 = I (-((y / 10 ^ j : Nat) : Int))
  h6 : tget s.τ 6 = I ((j : Int) - 1)
theorem l312 {n k} (a : List UInt8) (neg : Bool) (y v4 : Nat) (hl : (lm 10 y).length ≤ 100) {P : Option (Ex × St) → Prop} : ∀ j n' s, j ≤ (lm 10 y).length → j < n' → y / 10 ^ j ≤ 9223372036854775808 → P312 s a neg y v4 j →
    (∀ s', y ≤ 9223372036854775808 → P312 s' a neg y v4 0 → P (X (M312 (hand T312) n) (.exit 0) k s')) →
    (∀ s', 9223372036854775808 < y → tget s'.τ 2 = I 0 → tget s'.τ 3 = I 7 → P (some (.ret, s'))) →
    P (L (M312 (hand T312) n) (sub [1, 1, 1, 1, 1, 0, 1, 0, 0] c312) n' k s) := by
  intro j
  induction j with
  | zero =>
    intro n' s hj hn hy hP hq hr
    obtain ⟨n', rfl⟩ : ∃ m, n' = m + 1 := ⟨n' - 1, by omega⟩
    obtain ⟨h0, h4, h4', h5, h6⟩ := hP
    have c0 : (((0 : Nat) : Int) - 1 ≥ 0) = False := by decide
    rw [Nat.pow_zero, Nat.div_one] at hy
    rw [L_succ]
    simp only [vmr, vmw, vmp, vza, ↓reduceIte, Nat.reduceBEq, Nat.reduceLT, Nat.reduceAdd, Nat.reduceEqDiff, reduceCtorEq, vmt, vzb, vzc, vlen, vleaf, velems, oks, vst, vmd, ty, Nat.reduceLeDiff, Nat.reduceMul, Nat.reduceSub, c312, Tryz.f12, m312, h6, c0]
    refine hq _ hy ⟨?_, ?_, ?_, ?_, ?_⟩
    all_goals simp only [vmr, vmw, vmp, vza, ↓reduceIte, Nat.reduceBEq, Nat.reduceLT, Nat.reduceAdd, Nat.reduceEqDiff, reduceCtorEq, vmt, vzb, vzc, vlen, vleaf, velems, oks, vst, vmd, ty, Nat.reduceLeDiff, Nat.reduceMul, Nat.reduceSub, m312, h0, h4, h4', h5, h6]
  | succ i ih =>
    intro n' s hj hn hy hP hq hr
    obtain ⟨n', rfl⟩ : ∃ m, n' = m + 1 := ⟨n' - 1, by omega⟩
    obtain ⟨h0, h4, h4', h5, h6⟩ := hP
    rw [show (((i + 1 : Nat) : Int) - 1) = (i : Int) by omega] at h6
    have c0 : ((i : Int) ≥ 0) = True := eq_true (by omega)
    have ws : IntKind.i64.wrap ((i : Int) - 1) = (i : Int) - 1 := by rw [wrap_id]; omega
    have hix : ((i : Int) < ((lm 10 y).length : Int)) = True := eq_true (by omega)
    have gx := lm_get b10 y i (by omega)
    have hds : y / 10 ^ (i + 1) = y / 10 ^ i / 10 := div_succ 10 y i
    rw [hds] at h5 hy
    have hle : y / 10 ^ i ≤ y := Nat.div_le_self _ _
    have ih := fun s => ih n' s (by omega) (by omega)
    simp only [sub, c312, Tryz.f12, gets] at ih
    generalize hm : y / 10 ^ i = m at *
    have dm := Nat.mod_lt m (show 0 < 10 by omega)
    rw [L_succ]
    by_cases q1 : 922337203685477581 < m / 10
    · have q1' : (-((m / 10 : Nat) : Int) < -922337203685477581) = True := eq_true (by omega)
      simp only [vmr, vmw, vmp, vza, ↓reduceIte, Nat.reduceBEq, Nat.reduceLT, Nat.reduceAdd, Nat.reduceEqDiff, reduceCtorEq, vmt, vzb, vzc, vlen, vleaf, velems, oks, vst, vmd, ty, Nat.reduceLeDiff, Nat.reduceMul, Nat.reduceSub, c312, Tryz.f12, m312, h5, h6, c0, q1']
      refine hr _ (by omega) ?_ ?_
      all_goals simp only [vmr, vmw, vmp, vza, ↓reduceIte, Nat.reduceBEq, Nat.reduceLT, Nat.reduceAdd, Nat.reduceEqDiff, reduceCtorEq, vmt, vzb, vzc, vlen, vleaf, velems, oks, vst, vmd, ty, Nat.reduceLeDiff, Nat.reduceMul, Nat.reduceSub, m312]
    · have q1' : (-((m / 10 : Nat) : Int) < -922337203685477581) = False := eq_false (by omega)
      by_cases q2 : m ≤ 9223372036854775808
      · have w1 : IntKind.i64.wrap (-((m / 10 : Nat) : Int) * 10) = -((m / 10 * 10 : Nat) : Int) := by rw [wrap_id] <;> omega
        have w2 : IntKind.i64.wrap (-((m / 10 * 10 : Nat) : Int) - ((m % 10 : Nat) : Int)) = -((m : Nat) : Int) := by rw [wrap_id] <;> omega
        have q3 : (-((m : Nat) : Int) > 0) = False := eq_false (by omega)
        simp only [vmr, vmw, vmp, vza, ↓reduceIte, Nat.reduceBEq, Nat.reduceLT, Nat.reduceAdd, Nat.reduceEqDiff, reduceCtorEq, vmt, vzb, vzc, vlen, vleaf, velems, oks, vst, vmd, ty, Nat.reduceLeDiff, Nat.reduceMul, Nat.reduceSub, c312, Tryz.f12, m312, h0, h4, h4', h5, h6, c0, q1', w1, w2, q3, ws, hix, gx, fitsI, Option.map_some]
        refine ih _ q2 ⟨?_, ?_, ?_, ?_, ?_⟩ hq hr
        all_goals simp only [vmr, vmw, vmp, vza, ↓reduceIte, Nat.reduceBEq, Nat.reduceLT, Nat.reduceAdd, Nat.reduceEqDiff, reduceCtorEq, vmt, vzb, vzc, vlen, vleaf, velems, oks, vst, vmd, ty, Nat.reduceLeDiff, Nat.reduceMul, Nat.reduceSub, m312, h0, h4, h4', h5, h6, hm]
      · -- the product or the difference goes round
        have e1 : (2:Int) ^ (IntKind.i64.bits - 1) = 9223372036854775808 := by decide
        have e2 : (2:Int) ^ IntKind.i64.bits = 18446744073709551616 := by decide
        have e3 : IntKind.i64.signed = true := rfl
        obtain ⟨p, hp⟩ : ∃ p, IntKind.i64.wrap (-((m / 10 : Nat) : Int) * 10) = p := ⟨_, rfl⟩
        obtain ⟨r, hrr⟩ : ∃ r, IntKind.i64.wrap (p - ((m % 10 : Nat) : Int)) = r := ⟨_, rfl⟩
        have hpos : r > 0 := by
          simp only [IntKind.wrap, e1, e2, e3, Bool.true_and, decide_eq_true_eq] at hp hrr
          split at hp <;> split at hrr <;> omega
        have q3 : (r > 0) = True := eq_true hpos
        simp only [vmr, vmw, vmp, vza, ↓reduceIte, Nat.reduceBEq, Nat.reduceLT, Nat.reduceAdd, Nat.reduceEqDiff, reduceCtorEq, vmt, vzb, vzc, vlen, vleaf, velems, oks, vst, vmd, ty, Nat.reduceLeDiff, Nat.reduceMul, Nat.reduceSub, c312, Tryz.f12, m312, h0, h4, h4', h5, h6, c0, q1', hp, hrr, q3, hix, gx, fitsI, Option.map_some]
        refine hr _ (by omega) ?_ ?_
        all_goals simp only [vmr, vmw, vmp, vza, ↓reduceIte, Nat.reduceBEq, Nat.reduceLT, Nat.reduceAdd, Nat.reduceEqDiff, reduceCtorEq, vmt, vzb, vzc, vlen, vleaf, velems, oks, vst, vmd, ty, Nat.reduceLeDiff, Nat.reduceMul, Nat.reduceSub, m312]
theorem itxt_len {z : Int} (hz : z ≠ 0) : (itxt z).length = (lm 10 z.natAbs).length + (if z < 0 then 1 else 0) := by
  have h1 := txt_len z.natAbs
  rw [if_neg (by omega)] at h1
  unfold itxt
  split
  · rw [List.length_cons, h1]
  · rw [h1]
    rfl
def F312P (n : Nat) (v : V) (r : Option (Ex × St)) : Prop := Fin (M312 (hand T312) n) [.tmp 2, .tmp 3] r = some (.ret v)
theorem w312 (a : List UInt8) : SoundPure Tryz.prog 12 [.str a] (.ret (intS a)) := by
  refine s312 hT312 110 (by simp) intS_pure ?_
  show F312P _ _ _
  unfold intS
  have e31 := F31_eq a
  cases ha : validB a with
  | false =>
    rw [ha] at e31
    simp only [c312, Tryz.f12, gets, sub, opsAt]
    simp only [Bool.false_eq_true, if_false]
    unfold F312P
    simp only [vmr, vmw, vmp, vza, ↓reduceIte, Nat.reduceBEq, Nat.reduceLT, Nat.reduceAdd, Nat.reduceEqDiff, reduceCtorEq, vmt, vzb, vzc, vlen, vleaf, velems, oks, vst, vmd, ty, Nat.reduceLeDiff, Nat.reduceMul, Nat.reduceSub, vzr, m312, e31]
  | true =>
    rw [ha] at e31
    have ea := F45_eq ha
    have ia := itxt_ival ha
    have e19 : (10 : Nat) ^ 19 = 10000000000000000000 := by decide
    simp only [if_true]
    generalize hx : ival a = x at *
    by_cases hl : a.length > 20
    · have q1 : ((a.length : Int) > 20) = True := eq_true (by omega)
      have hx0 : x ≠ 0 := fun h => by
        rw [h] at ia
        rw [← ia] at hl
        exact absurd hl (by decide)
      have hlen := itxt_len hx0
      rw [ia] at hlen
      have hbig : ¬ x.natAbs < 10 ^ 19 := fun h => by
        have := (lm_len_le b10 x.natAbs 19).2 h
        split at hlen <;> omega
      rw [if_neg (by omega)]
      simp only [c312, Tryz.f12, gets, sub, opsAt]
      unfold F312P
      simp only [vmr, vmw, vmp, vza, ↓reduceIte, Nat.reduceBEq, Nat.reduceLT, Nat.reduceAdd, Nat.reduceEqDiff, reduceCtorEq, vmt, vzb, vzc, vlen, vleaf, velems, oks, vst, vmd, ty, Nat.reduceLeDiff, Nat.reduceMul, Nat.reduceSub, vzr, m312, e31, q1]
    · have q1 : ((a.length : Int) > 20) = False := eq_false (by omega)
      have hll : (lm 10 x.natAbs).length ≤ 100 := by
        by_cases hx0 : x = 0
        · subst hx0; decide
        · have hlen := itxt_len hx0
          rw [ia] at hlen
          omega
      obtain ⟨y, hna⟩ : ∃ y, x.natAbs = y := ⟨_, rfl⟩
      rw [hna] at hll
      have hlt := lm_lt b10 y
      have w1 : IntKind.i64.wrap (((lm 10 y).length : Int) - 1) = ((lm 10 y).length : Int) - 1 := by rw [wrap_id]; omega
      by_cases hfit : -9223372036854775808 ≤ x ∧ x ≤ 9223372036854775807
      · rw [if_pos hfit]
        have e314 := F314_eq hfit
        rw [ia] at e314
        have haa : (a != a) = false := bne_self_eq_false _
        have a1 := fun k s v4 => @l312 110 k a (decide (x < 0)) y v4 hll (F312P 110 (.tup [I x, I 0])) (lm 10 y).length 110 s (Nat.le_refl _) (by omega) (by rw [Nat.div_eq_of_lt hlt]; omega)
        simp only [c312, Tryz.f12, gets, sub, opsAt] at a1 ⊢
        simp only [vmr, vmw, vmp, vza, ↓reduceIte, Nat.reduceBEq, Nat.reduceLT, Nat.reduceAdd, Nat.reduceEqDiff, reduceCtorEq, vmt, vzb, vzc, vlen, vleaf, velems, oks, vst, vmd, ty, Nat.reduceLeDiff, Nat.reduceMul, Nat.reduceSub, m312, e31, ea, hna, q1, w1, allflatI, pureLI, shI, import_I]
        refine a1 _ _ 0 ⟨?_, ?_, ?_, ?_, ?_⟩ (fun s' hy ⟨h0, h4, h4', h5, h6⟩ => ?_) (fun s' hbig _ _ => absurd hbig (by omega))
        case refine_6 =>
          rw [Nat.pow_zero, Nat.div_one] at h5
          by_cases hneg : x < 0
          · have d1 := decide_eq_true hneg
            have hyx : -((y : Nat) : Int) = x := by omega
            rw [hyx] at h5
            unfold F312P
            simp only [vmr, vmw, vmp, vza, ↓reduceIte, Nat.reduceBEq, Nat.reduceLT, Nat.reduceAdd, Nat.reduceEqDiff, reduceCtorEq, vmt, vzb, vzc, vlen, vleaf, velems, oks, vst, vmd, ty, Nat.reduceLeDiff, Nat.reduceMul, Nat.reduceSub, vzr, m312, h0, h4, h4', h5, d1, e314, haa, strOp]
          · have d1 := decide_eq_false hneg
            have hyx : ((y : Nat) : Int) = x := by omega
            have q2 : (-((y : Nat) : Int) == -9223372036854775808) = false := by rw [beq_eq_false_iff_ne]; omega
            have w3 : IntKind.i64.wrap (0 - -((y : Nat) : Int)) = x := by rw [wrap_id] <;> omega
            unfold F312P
            simp only [vmr, vmw, vmp, vza, ↓reduceIte, Nat.reduceBEq, Nat.reduceLT, Nat.reduceAdd, Nat.reduceEqDiff, reduceCtorEq, vmt, vzb, vzc, vlen, vleaf, velems, oks, vst, vmd, ty, Nat.reduceLeDiff, Nat.reduceMul, Nat.reduceSub, vzr, m312, h0, h4, h4', h5, d1, q2, w3, e314, haa, strOp]
        all_goals simp only [vmr, vmw, vmp, vza, ↓reduceIte, Nat.reduceBEq, Nat.reduceLT, Nat.reduceAdd, Nat.reduceEqDiff, reduceCtorEq, vmt, vzb, vzc, vlen, vleaf, velems, oks, vst, vmd, ty, Nat.reduceLeDiff, Nat.reduceMul, Nat.reduceSub, m312, Nat.div_eq_of_lt hlt, w1, hna]
        all_goals rfl
      · rw [if_neg hfit]
        have a1 := fun k s v4 => @l312 110 k a (decide (x < 0)) y v4 hll (F312P 110 (.tup [I 0, I 7])) (lm 10 y).length 110 s (Nat.le_refl _) (by omega) (by rw [Nat.div_eq_of_lt hlt]; omega)
        simp only [c312, Tryz.f12, gets, sub, opsAt] at a1 ⊢
        simp only [vmr, vmw, vmp, vza, ↓reduceIte, Nat.reduceBEq, Nat.reduceLT, Nat.reduceAdd, Nat.reduceEqDiff, reduceCtorEq, vmt, vzb, vzc, vlen, vleaf, velems, oks, vst, vmd, ty, Nat.reduceLeDiff, Nat.reduceMul, Nat.reduceSub, m312, e31, ea, hna, q1, w1, allflatI, pureLI, shI, import_I]
        refine a1 _ _ 0 ⟨?_, ?_, ?_, ?_, ?_⟩ (fun s' hy ⟨h0, h4, h4', h5, h6⟩ => ?_) (fun s' _ h2 h3 => ?_)
        case refine_6 =>
          rw [Nat.pow_zero, Nat.div_one] at h5
          have hneg : ¬ x < 0 := by omega
          have d1 := decide_eq_false hneg
          have q2 : (-((y : Nat) : Int) == -9223372036854775808) = true := by rw [beq_iff_eq]; omega
          unfold F312P
          simp only [vmr, vmw, vmp, vza, ↓reduceIte, Nat.reduceBEq, Nat.reduceLT, Nat.reduceAdd, Nat.reduceEqDiff, reduceCtorEq, vmt, vzb, vzc, vlen, vleaf, velems, oks, vst, vmd, ty, Nat.reduceLeDiff, Nat.reduceMul, Nat.reduceSub, vzr, m312, h0, h4, h4', h5, d1, q2]
        case refine_7 =>
          unfold F312P
          simp only [vmr, vmw, vmp, vza, ↓reduceIte, Nat.reduceBEq, Nat.reduceLT, Nat.reduceAdd, Nat.reduceEqDiff, reduceCtorEq, vmt, vzb, vzc, vlen, vleaf, velems, oks, vst, vmd, ty, Nat.reduceLeDiff, Nat.reduceMul, Nat.reduceSub, vzr, m312, h2, h3]
        all_goals simp only [vmr, vmw, vmp, vza, ↓reduceIte, Nat.reduceBEq, Nat.reduceLT, Nat.reduceAdd, Nat.reduceEqDiff, reduceCtorEq, vmt, vzb, vzc, vlen, vleaf, velems, oks, vst, vmd, ty, Nat.reduceLeDiff, Nat.reduceMul, Nat.reduceSub, m312, Nat.div_eq_of_lt hlt, w1, hna]
        all_goals rfl
end Go.Vi
set_option maxRecDepth 100000
set_option maxHeartbeats 1000000
set_option exponentiation.threshold 256
namespace Go.Vi
open Go Go.Proofs

theorem var_of {w : World} {A : Nat → Prop} (h : JA w A) : ∃ t p, w.cell? ⟨1, 0, none⟩ = some (.iface t p) := by
  obtain ⟨_, cs, t, f, hc, tt, p, hp⟩ := h (1, _) (by unfold JL; exact List.mem_cons_of_mem _ (List.mem_cons_self ..))
  dsimp only at hc
  subst hp
  exact ⟨tt, p, by simp only [World.cell?, hc]; rfl⟩
/-- What strconv.Atoi hands back of an accepted text. -/
def atoV (s : List UInt8) : V :=
  if -9223372036854775808 ≤ ival s ∧ ival s ≤ 9223372036854775807 then .tup [I (ival s), .nilI] else .tup [I (Lib.atoiSat s), .iface 101 (.iptr [])]
theorem w80f (s : List UInt8) (hv : validB s = true) : SoundPure Tryz.prog 41 [.str s] (.ret (atoV s)) := by
  unfold atoV
  by_cases hr : -9223372036854775808 ≤ ival s ∧ ival s ≤ 9223372036854775807
  · rw [if_pos hr]
    exact w80 s ⟨hv, hr⟩
  · rw [if_neg hr]
    intro w A cs hJ hA hp
    simp only [PCs, PC] at hp
    obtain ⟨c, d, e, rfl, rfl⟩ := hp
    obtain rfl : cs = #[.string ⟨s.toArray⟩] := by cases cs; simp_all
    have hl := valid_len hv
    have ha := atoi_valid hv
    rw [if_neg hr] at ha
    obtain ⟨tt, p, hcell⟩ := var_of hJ
    refine (Tryz.strconv_Atoi_range ⟨s.toArray⟩ (by simp [ByteArray.size]; omega) (by simpa using ha) (.iface tt p) w hcell (.inr ⟨tt, p, rfl⟩)).mono ?_
    rintro e w' ⟨N, rfl, hN, hblk, hb⟩
    have hNs : N < w'.heap.size := (Array.getElem?_eq_some_iff.1 hblk).1
    refine ⟨fun b => A b ∨ b = N, ⟨hb.size, hb.os, hb.tape, hb.output, fun b hlt _ => hb.block b hlt, fun _ _ _ => rfl, Nat.le_refl _, fun _ h => .inl h, fun b h => h.elim .inl (fun h => .inr (.inr (by omega))), fun _ h => .inl h⟩, fun b h => ?_, _, [], rfl, ?_, fun i hi => (by cases hi), List.Pairwise.nil⟩
    · rcases h with h | h
      · have := hA b h; have := hb.size; omega
      · omega
    · simp only [RC, RCs, IC, PC]
      exact ⟨_, rfl, _, _, [], [], rfl, rfl, ⟨rfl, rfl⟩, _, _, [], [], rfl, rfl, ⟨rfl, _, rfl, _, _, rfl, .inr rfl, by simp [PAt]⟩, rfl, rfl⟩
noncomputable def F80f : List V → Option V := hF (α := List UInt8) (fun a => [.str a]) (fun s => validB s = true) atoV
theorem F80f_eq {s : List UInt8} (h : validB s = true) : F80f [.str s] = some (atoV s) := hF_eq (a := s) (one_inj' fun _ _ => Str_inj) (by simp only [cans, canStr]) h
noncomputable abbrev T38f : List (FuncId × (List V → Option V)) := (19, F30) :: (41, F80f) :: []
theorem hT38f : SoundHand Tryz.prog (hand T38f) := sound_cons (hF_sound fun a _ => w30 a) <| sound_cons (hF_sound fun a h => w80f a h) sound_nil
theorem w38f (s : List UInt8) : SoundPure Tryz.prog 11 [.str s] (.ret (intS s)) := by
  refine s38 hT38f 6 (by simp) intS_pure ?_
  unfold intS
  have e30 := F30_eq s
  cases hv : validB s with
  | false =>
    rw [hv] at e30
    simp only [c38, Tryz.f11, gets]
    simp only [Bool.false_eq_true, if_false]
    simp only [vmr, vmw, vmp, vza, ↓reduceIte, Nat.reduceBEq, Nat.reduceLT, Nat.reduceAdd, Nat.reduceEqDiff, reduceCtorEq, vmt, vzb, vzc, vlen, vleaf, velems, oks, vst, vmd, ty, Nat.reduceLeDiff, Nat.reduceMul, Nat.reduceSub, vzr, m38, e30]
  | true =>
    rw [hv] at e30
    have e80 := F80f_eq hv
    unfold atoV at e80
    simp only [if_true]
    by_cases hr : -9223372036854775808 ≤ ival s ∧ ival s ≤ 9223372036854775807
    · rw [if_pos hr] at e80 ⊢
      simp only [c38, Tryz.f11, gets]
      simp only [vmr, vmw, vmp, vza, ↓reduceIte, Nat.reduceBEq, Nat.reduceLT, Nat.reduceAdd, Nat.reduceEqDiff, reduceCtorEq, vmt, vzb, vzc, vlen, vleaf, velems, oks, vst, vmd, ty, Nat.reduceLeDiff, Nat.reduceMul, Nat.reduceSub, vzr, m38, e30, e80, Tryz.underlying67]
    · rw [if_neg hr] at e80 ⊢
      simp only [c38, Tryz.f11, gets]
      simp only [vmr, vmw, vmp, vza, ↓reduceIte, Nat.reduceBEq, Nat.reduceLT, Nat.reduceAdd, Nat.reduceEqDiff, reduceCtorEq, vmt, vzb, vzc, vlen, vleaf, velems, oks, vst, vmd, ty, Nat.reduceLeDiff, Nat.reduceMul, Nat.reduceSub, vzr, m38, e30, e80, Tryz.underlying67]
end Go.Vi
set_option maxRecDepth 100000
set_option maxHeartbeats 2000000
set_option exponentiation.threshold 256
namespace Go.Vi
open Go Go.Proofs

set_option exponentiation.threshold 500000 in
theorem digH_len {b y : Nat} (hb : 2 ≤ b) (hy : y < 10 ^ 500) : (digH b y).length ≤ 1000000 := by
  unfold digH
  split
  · simp
  · rw [List.length_reverse]
    have h1 : ¬ 2000 < (lm b y).length := fun h => by
      have h2 := mt (lm_len_le hb y 2000).2 (by omega)
      have h3 := pow_lt_2000 hb hy (by omega : b ^ 2000 ≤ y)
      omega
    omega
theorem digsS_tup (a : List UInt8) (b : Int) : ∃ X e, digsS a b = .tup [Is X, I e] ∧ X.length ≤ 1000000 := by
  unfold digsS
  cases hv : validB a with
  | false => exact ⟨[], 2, rfl, by simp⟩
  | true =>
    simp only [if_true]
    split
    · rename_i h
      exact ⟨_, _, rfl, digH_len (by omega) (ival_small hv)⟩
    · exact ⟨[], 4, rfl, by simp⟩
theorem numS_tup (l : List Int) (b : Int) : ∃ s e, numS l b = .tup [.str s, I e] := by
  unfold numS
  split
  · split
    · split
      · exact ⟨_, _, rfl⟩
      · split <;> exact ⟨_, _, rfl⟩
    · exact ⟨_, _, rfl⟩
  · exact ⟨_, _, rfl⟩
theorem intS_tup (a : List UInt8) : ∃ v e, intS a = .tup [I v, I e] := by
  unfold intS
  split
  · split <;> exact ⟨_, _, rfl⟩
  · exact ⟨_, _, rfl⟩
noncomputable def F11i : List V → Option V := hF (α := List UInt8) (fun a => [.str a]) (fun _ => True) intS
theorem F11i_eq (s : List UInt8) : F11i [.str s] = some (intS s) := hF_eq (a := s) (one_inj' fun _ _ => Str_inj) (by simp only [cans, canStr]) trivial
noncomputable abbrev T303 : List (FuncId × (List V → Option V)) := (4, F9) :: (5, F10) :: (6, F36) :: (7, F36) :: (8, F308) :: (9, F37) :: (10, F37) :: (11, F11i) :: (12, F11i) :: (13, F39) :: (14, F39) :: []
theorem hT303 : SoundHand Tryz.prog (hand T303) := sound_cons (hF_sound fun a h => w9 a h) <| sound_cons F10_sound <| sound_cons (hF_sound fun a _ => w36 a.1 a.2) <| sound_cons (hF_sound fun a _ => w307 a.1 a.2) <| sound_cons (hF_sound fun a h => w308 a h) <| sound_cons (hF_sound fun a _ => w37 a.1 a.2) <|
  sound_cons (hF_sound fun a _ => w310 a.1 a.2) <| sound_cons (hF_sound fun a _ => w38f a) <| sound_cons (hF_sound fun a _ => w312 a) <| sound_cons (hF_sound fun a h => w39 a h) <| sound_cons (hF_sound fun a h => w314 a h) sound_nil
theorem w303 (a : List UInt8) (l : List Int) (b : Int) (hb : -9223372036854775808 ≤ b ∧ b ≤ 9223372036854775807) : SoundPure Tryz.prog 3 [.str a, Is l, I b] (.ret (.bool true)) := by
  refine s303 hT303 6 (by simp) rfl ?_
  have e9 := F9_eq (l := [a]) (by simp)
  rw [show Ss [a] = .lst [.str a] from rfl] at e9
  have e10 := F10_eq
  have e36 := F36_eq a b
  obtain ⟨X, d1, h1, hX⟩ := digsS_tup a b
  rw [h1] at e36
  have e308 := F308_eq hX
  have e37 := F37_eq l b
  obtain ⟨s2, d2, h2⟩ := numS_tup l b
  rw [h2] at e37
  have e11 := F11i_eq a
  obtain ⟨v3, d3, h3⟩ := intS_tup a
  rw [h3] at e11
  have e39 := F39_eq hb
  have hr1 := @room9 1 (by omega)
  have n1 : (d1 != d1) = false := bne_self_eq_false _
  have n2 : (d2 == d2) = true := beq_self_eq_true _
  have n3 : (d3 == d3) = true := beq_self_eq_true _
  have n4 : (v3 == v3) = true := beq_self_eq_true _
  have q2 : ∀ s : List UInt8, (s == s) = true := fun s => beq_self_eq_true _
  simp only [c303, Tryz.f3, gets]
  cases hl : ([a] : List (List UInt8)).any fun s => decide (s.length > 600) with
  | true =>
    rw [hl] at e9
    simp only [vmr, vmw, vmp, vza, ↓reduceIte, Nat.reduceBEq, Nat.reduceLT, Nat.reduceAdd, Nat.reduceEqDiff, reduceCtorEq, vmt, vzb, vzc, vlen, vleaf, velems, oks, vst, vmd, ty, Nat.reduceLeDiff, Nat.reduceMul, Nat.reduceSub, vzr, m303, hr1, fits9, List.map_cons, List.map_nil, e9, e10]
  | false =>
    rw [hl] at e9
    by_cases hll : l.length > 2100
    · have c1 : ((l.length : Int) > 2100) = True := eq_true (by omega)
      simp only [vmr, vmw, vmp, vza, ↓reduceIte, Nat.reduceBEq, Nat.reduceLT, Nat.reduceAdd, Nat.reduceEqDiff, reduceCtorEq, vmt, vzb, vzc, vlen, vleaf, velems, oks, vst, vmd, ty, Nat.reduceLeDiff, Nat.reduceMul, Nat.reduceSub, vzr, m303, hr1, fits9, List.map_cons, List.map_nil, e9, e10, c1]
    · have c1 : ((l.length : Int) > 2100) = False := eq_false (by omega)
      simp only [vmr, vmw, vmp, vza, ↓reduceIte, Nat.reduceBEq, Nat.reduceLT, Nat.reduceAdd, Nat.reduceEqDiff, reduceCtorEq, vmt, vzb, vzc, vlen, vleaf, velems, oks, vst, vmd, ty, Nat.reduceLeDiff, Nat.reduceMul, Nat.reduceSub, vzr, m303, hr1, fits9, List.map_cons, List.map_nil, e9, e10, c1, e36, e308, e37, e11, e39, strOp, n1, n2, n3, n4, q2, allflatI, pureLI, shI, import_I]
end Go.Vi
