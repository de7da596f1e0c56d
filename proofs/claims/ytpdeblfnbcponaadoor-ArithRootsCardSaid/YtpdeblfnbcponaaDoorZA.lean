/-
  Walk of chiasmuslaw08.ArithRing and its closures.
-/
import Derived.Test.YtpdeblfnbcponaaDoorYG
set_option linter.unusedSimpArgs false
set_option linter.unusedVariables false
set_option maxRecDepth 100000
set_option maxHeartbeats 1000000
namespace Go.Vi
open Go Go.Proofs

/-- A text that is accepted and reads as an integer. -/
def rd (s : List UInt8) (x : Int) : Prop := validB s = true ∧ ival s = x
theorem with2_rd {G : Int → Int → Int} {s t : List UInt8} {x y : Int} (hs : rd s x) (ht : rd t y) (h : small (G x y)) : with2 G s t = .tup [.str (itxt (G x y)), I 0] := by
  unfold with2
  rw [if_pos ⟨hs.1, ht.1⟩, hs.2, ht.2, outS_small h]
/-- The text of an answer. -/
def opS (G : Int → Int → Int) (s t : List UInt8) : List UInt8 := match with2 G s t with | .tup (.str u :: _) => u | _ => []
theorem opS_eq (G : Int → Int → Int) (s t : List UInt8) : ∃ e, with2 G s t = .tup [.str (opS G s t), I e] := by
  obtain ⟨u, e, h⟩ := with2_tup G s t
  exact ⟨e, by unfold opS; rw [h]⟩
theorem opS_rd {G : Int → Int → Int} {s t : List UInt8} {x y : Int} (hs : rd s x) (ht : rd t y) (h : small (G x y)) : opS G s t = itxt (G x y) := by
  unfold opS
  rw [with2_rd hs ht h]
noncomputable abbrev T22 : List (FuncId × (List V → Option V)) := (24, F24) :: (11, F11) :: (27, F27) :: []
theorem hT22 : SoundHand Tryd.prog (hand T22) := sound_cons (hF_sound fun a _ => w24 a.1 a.2) <| sound_cons (hF_sound fun a _ => w11 a.1 a.2) <| sound_cons (hF_sound fun a _ => w27 a.1 a.2) sound_nil
theorem w22_24 (a b : List UInt8) : SoundPure Tryd.prog 22 [.fn (.func 24) [] [], .str a, .str b] (.ret (.str (opS (fun x y => x + y) a b))) := by
  refine s22 hT22 6 (by simp) rfl ?_
  obtain ⟨e, h⟩ := opS_eq (fun x y => x + y) a b
  have e1 := F24_eq a b
  rw [h] at e1
  simp only [c22, Tryd.f22, gets]
  simp only [vmr, vmw, vmp, vza, ↓reduceIte, Nat.reduceBEq, Nat.reduceLT, Nat.reduceAdd, Nat.reduceEqDiff, reduceCtorEq, vmt, vzb, vzc, vlen, vleaf, velems, oks, vst, vmd, ty, Nat.reduceLeDiff, Nat.reduceMul, Nat.reduceSub, vzr, m22, e1]
theorem w22_11 (a b : List UInt8) : SoundPure Tryd.prog 22 [.fn (.func 11) [] [], .str a, .str b] (.ret (.str (opS (fun x y => x * y) a b))) := by
  refine s22 hT22 6 (by simp) rfl ?_
  obtain ⟨e, h⟩ := opS_eq (fun x y => x * y) a b
  have e1 := F11_eq a b
  rw [h] at e1
  simp only [c22, Tryd.f22, gets]
  simp only [vmr, vmw, vmp, vza, ↓reduceIte, Nat.reduceBEq, Nat.reduceLT, Nat.reduceAdd, Nat.reduceEqDiff, reduceCtorEq, vmt, vzb, vzc, vlen, vleaf, velems, oks, vst, vmd, ty, Nat.reduceLeDiff, Nat.reduceMul, Nat.reduceSub, vzr, m22, e1]
theorem w22_27 (a b : List UInt8) : SoundPure Tryd.prog 22 [.fn (.func 27) [] [], .str a, .str b] (.ret (.str (opS (fun x y => x - y) a b))) := by
  refine s22 hT22 6 (by simp) rfl ?_
  obtain ⟨e, h⟩ := opS_eq (fun x y => x - y) a b
  have e1 := F27_eq a b
  rw [h] at e1
  simp only [c22, Tryd.f22, gets]
  simp only [vmr, vmw, vmp, vza, ↓reduceIte, Nat.reduceBEq, Nat.reduceLT, Nat.reduceAdd, Nat.reduceEqDiff, reduceCtorEq, vmt, vzb, vzc, vlen, vleaf, velems, oks, vst, vmd, ty, Nat.reduceLeDiff, Nat.reduceMul, Nat.reduceSub, vzr, m22, e1]
theorem fn_two {q : FuncId} : ∀ a b : List UInt8 × List UInt8, ([.fn (.func q) [] [], .str a.1, .str a.2] : List V) = [.fn (.func q) [] [], .str b.1, .str b.2] → a = b := fun a b h => by
  injection h with _ h; injection h with h1 h; injection h with h2 _; exact Prod.ext (Str_inj h1) (Str_inj h2)
noncomputable def F22_24 : List V → Option V := hF (α := List UInt8 × List UInt8) (fun a => [.fn (.func 24) [] [], .str a.1, .str a.2]) (fun _ => True) (fun a => .str (opS (fun x y => x + y) a.1 a.2))
theorem F22_24_eq (a b : List UInt8) : F22_24 [.fn (.func 24) [] [], .str a, .str b] = some (.str (opS (fun x y => x + y) a b)) := hF_eq (a := (a, b)) fn_two (by simp only [cans, can]) trivial
noncomputable def F22_11 : List V → Option V := hF (α := List UInt8 × List UInt8) (fun a => [.fn (.func 11) [] [], .str a.1, .str a.2]) (fun _ => True) (fun a => .str (opS (fun x y => x * y) a.1 a.2))
theorem F22_11_eq (a b : List UInt8) : F22_11 [.fn (.func 11) [] [], .str a, .str b] = some (.str (opS (fun x y => x * y) a b)) := hF_eq (a := (a, b)) fn_two (by simp only [cans, can]) trivial
noncomputable def F22_27 : List V → Option V := hF (α := List UInt8 × List UInt8) (fun a => [.fn (.func 27) [] [], .str a.1, .str a.2]) (fun _ => True) (fun a => .str (opS (fun x y => x - y) a.1 a.2))
theorem F22_27_eq (a b : List UInt8) : F22_27 [.fn (.func 27) [] [], .str a, .str b] = some (.str (opS (fun x y => x - y) a b)) := hF_eq (a := (a, b)) fn_two (by simp only [cans, can]) trivial
/-- What the closures hold: a place where op lies. -/
abbrev opP : V := .iptr [.fn (.func 22) [] []]
noncomputable abbrev T23 : List (FuncId × (List V → Option V)) := (22, F22_24) :: []
theorem hT23 : SoundHand Tryd.prog (hand T23) := sound_cons (hF_sound fun a _ => w22_24 a.1 a.2) sound_nil
theorem w23 (a b : List UInt8) : SoundPure Tryd.prog 23 [.str a, .str b, opP] (.ret (.str (opS (fun x y => x + y) a b))) := by
  refine s23 hT23 6 (by simp) rfl ?_
  have e1 := F22_24_eq a b
  simp only [c23, Tryd.f23, gets]
  simp only [vmr, vmw, vmp, vza, ↓reduceIte, Nat.reduceBEq, Nat.reduceLT, Nat.reduceAdd, Nat.reduceEqDiff, reduceCtorEq, vmt, vzb, vzc, vlen, vleaf, velems, oks, vst, vmd, ty, Nat.reduceLeDiff, Nat.reduceMul, Nat.reduceSub, vzr, m23, e1]
noncomputable abbrev T25 : List (FuncId × (List V → Option V)) := (22, F22_11) :: []
theorem hT25 : SoundHand Tryd.prog (hand T25) := sound_cons (hF_sound fun a _ => w22_11 a.1 a.2) sound_nil
theorem w25 (a b : List UInt8) : SoundPure Tryd.prog 25 [.str a, .str b, opP] (.ret (.str (opS (fun x y => x * y) a b))) := by
  refine s25 hT25 6 (by simp) rfl ?_
  have e1 := F22_11_eq a b
  simp only [c25, Tryd.f25, gets]
  simp only [vmr, vmw, vmp, vza, ↓reduceIte, Nat.reduceBEq, Nat.reduceLT, Nat.reduceAdd, Nat.reduceEqDiff, reduceCtorEq, vmt, vzb, vzc, vlen, vleaf, velems, oks, vst, vmd, ty, Nat.reduceLeDiff, Nat.reduceMul, Nat.reduceSub, vzr, m25, e1]
theorem opP_two : ∀ a b : List UInt8 × List UInt8, ([.str a.1, .str a.2, opP] : List V) = [.str b.1, .str b.2, opP] → a = b := fun a b h => by
  injection h with h1 h; injection h with h2 _; exact Prod.ext (Str_inj h1) (Str_inj h2)
noncomputable def F23 : List V → Option V := hF (α := List UInt8 × List UInt8) (fun a => [.str a.1, .str a.2, opP]) (fun _ => True) (fun a => .str (opS (fun x y => x + y) a.1 a.2))
theorem F23_eq (a b : List UInt8) : F23 [.str a, .str b, opP] = some (.str (opS (fun x y => x + y) a b)) := hF_eq (a := (a, b)) opP_two (by simp only [cans, can]) trivial
noncomputable def F25 : List V → Option V := hF (α := List UInt8 × List UInt8) (fun a => [.str a.1, .str a.2, opP]) (fun _ => True) (fun a => .str (opS (fun x y => x * y) a.1 a.2))
theorem F25_eq (a b : List UInt8) : F25 [.str a, .str b, opP] = some (.str (opS (fun x y => x * y) a b)) := hF_eq (a := (a, b)) opP_two (by simp only [cans, can]) trivial
theorem F23_rd {s t : List UInt8} {x y z : Int} (hs : rd s x) (ht : rd t y) (hz : x + y = z) (h : small z) : F23 [.str s, .str t, opP] = some (.str (itxt z)) := by
  subst hz; rw [F23_eq, opS_rd hs ht h]
theorem F25_rd {s t : List UInt8} {x y z : Int} (hs : rd s x) (ht : rd t y) (hz : x * y = z) (h : small z) : F25 [.str s, .str t, opP] = some (.str (itxt z)) := by
  subst hz; rw [F25_eq, opS_rd hs ht h]
set_option exponentiation.threshold 500000 in
theorem ival_100 {s : List UInt8} (h : longB s = false) : validB s = true ∧ (ival s).natAbs < 10 ^ 100 := by
  simp only [longB, Bool.or_eq_false_iff, decide_eq_false_iff_not, Bool.not_eq_false'] at h
  obtain ⟨hl, hv⟩ := h
  refine ⟨hv, ?_⟩
  have hd : (ival s).natAbs = dval (dropB s [45]) := by
    unfold ival
    split <;> omega
  rw [hd]
  have hdig : (dropB s [45]).all isDig = true := by
    unfold validB at hv
    rw [Bool.or_eq_true] at hv
    rcases hv with h | h
    · have : s = [48] := by simpa using h
      subst this
      rfl
    · unfold validT at h
      simp only [Bool.and_eq_true] at h
      exact h.2
  have h1 := dval_lt _ hdig
  have h2 := dropB_len s [45]
  exact Nat.lt_of_lt_of_le h1 (Nat.pow_le_pow_right (by omega) (by omega))
end Go.Vi
set_option maxRecDepth 100000
set_option maxHeartbeats 2000000
namespace Go.Vi
open Go Go.Proofs

set_option exponentiation.threshold 500000 in
theorem small_of {P : Nat} (hP : P = 10 ^ 100) {z : Int} (h : z.natAbs ≤ 2 * (P * P * P)) : small z := by
  subst hP
  show z.natAbs < 10 ^ 500
  have h1 : 2 * ((10 : Nat) ^ 100 * 10 ^ 100 * 10 ^ 100) < 10 ^ 500 := by
    rw [← Nat.pow_add, ← Nat.pow_add, show (500 : Nat) = (100 + 100 + 100) + 200 from rfl, Nat.pow_add 10 (100 + 100 + 100) 200, Nat.mul_comm]
    refine Nat.mul_lt_mul_of_pos_left ?_ (Nat.pow_pos (by omega))
    exact Nat.lt_of_lt_of_le (show 2 < 10 ^ 1 by omega) (Nat.pow_le_pow_right (by omega) (by omega))
  omega
set_option exponentiation.threshold 500000 in
theorem bound_100 : ∃ P : Nat, 3 ≤ P ∧ (∀ z : Int, z.natAbs ≤ 2 * (P * P * P) → small z) ∧ ∀ s, longB s = false → validB s = true ∧ (ival s).natAbs < P :=
  ⟨10 ^ 100, Nat.le_trans (show 3 ≤ 10 ^ 1 by omega) (Nat.pow_le_pow_right (by omega) (by omega)), fun z h => small_of rfl h, fun s h => ival_100 h⟩
theorem abs_mul_le {x y : Int} {A B : Nat} (hx : x.natAbs ≤ A) (hy : y.natAbs ≤ B) : (x * y).natAbs ≤ A * B := by
  rw [Int.natAbs_mul]; exact Nat.mul_le_mul hx hy
noncomputable abbrev T5 : List (FuncId × (List V → Option V)) := (21, F21) :: (10, F10) :: (26, F26) :: (23, F23) :: (25, F25) :: (22, F22_27) :: []
theorem w5 (a b c : List UInt8) : SoundPure Tryd.prog 5 [.str a, .str b, .str c] (.ret (.bool true)) := by
  have hT5 : SoundHand Tryd.prog (hand T5) := sound_cons (hF_sound fun a h => w21 a h) <| sound_cons F10_sound <| sound_cons (hF_sound fun a _ => w26 a) <| sound_cons (hF_sound fun a _ => w23 a.1 a.2) <| sound_cons (hF_sound fun a _ => w25 a.1 a.2) <|
    sound_cons (hF_sound fun a _ => w22_27 a.1 a.2) sound_nil
  refine s5 hT5 6 (by simp) rfl ?_
  have e21 := F21_eq (l := [a, b, c]) (by simp)
  rw [show Ss [a, b, c] = .lst [.str a, .str b, .str c] from rfl] at e21
  have e10 := F10_eq
  have hr3 := @room9 3 (by omega)
  simp only [c5, Tryd.f5, gets]
  cases hl : ([a, b, c] : List (List UInt8)).any longB with
  | true =>
    rw [hl] at e21
    simp only [vmr, vmw, vmp, vza, ↓reduceIte, Nat.reduceBEq, Nat.reduceLT, Nat.reduceAdd, Nat.reduceEqDiff, reduceCtorEq, vmt, vzb, vzc, vlen, vleaf, velems, oks, vst, vmd, ty, Nat.reduceLeDiff, Nat.reduceMul, Nat.reduceSub, vzr, m5, hr3, fits9, List.map_cons, List.map_nil, e21, e10]
  | false =>
    rw [hl] at e21
    simp only [List.any_cons, List.any_nil, Bool.or_false, Bool.or_eq_false_iff] at hl
    obtain ⟨ha, hb, hc⟩ := hl
    obtain ⟨P, hP1, sm, h100⟩ := bound_100
    obtain ⟨va, sa⟩ := h100 a ha
    obtain ⟨vb, sb⟩ := h100 b hb
    obtain ⟨vc, sc⟩ := h100 c hc
    have ia := itxt_ival va
    have ra : rd a (ival a) := ⟨va, rfl⟩
    have rb : rd b (ival b) := ⟨vb, rfl⟩
    have rc : rd c (ival c) := ⟨vc, rfl⟩
    generalize ival a = x at *
    generalize ival b = y at *
    generalize ival c = z at *
    have hPP : P * 3 ≤ P * P := Nat.mul_le_mul_left P hP1
    have hPPP : P * P * 3 ≤ P * P * P := Nat.mul_le_mul_left (P * P) hP1
    have pxy : (x * y).natAbs ≤ P * P := abs_mul_le (by omega) (by omega)
    have pyz : (y * z).natAbs ≤ P * P := abs_mul_le (by omega) (by omega)
    have pxz : (x * z).natAbs ≤ P * P := abs_mul_le (by omega) (by omega)
    have pxyz : (x * y * z).natAbs ≤ P * P * P := abs_mul_le pxy (by omega)
    have pd : (x * (y + z)).natAbs ≤ P * P + P * P := by rw [Int.mul_add]; omega
    have it := fun (z : Int) (h : z.natAbs ≤ 2 * (P * P * P)) => (show rd (itxt z) z from read_itxt (sm z h))
    have q1 := F23_rd ra rb rfl (sm _ (by omega))
    have q2 := F23_rd rb ra (Int.add_comm y x) (sm _ (by omega))
    have q3 := F25_rd ra rb rfl (sm _ (by omega))
    have q4 := F25_rd rb ra (Int.mul_comm y x) (sm _ (by omega))
    have q5 := F23_rd (it (x + y) (by omega)) rc rfl (sm _ (by omega))
    have q6 := F23_rd rb rc rfl (sm _ (by omega))
    have q7 := F23_rd ra (it (y + z) (by omega)) (Int.add_assoc x y z).symm (sm _ (by omega))
    have q8 := F25_rd (it (x * y) (by omega)) rc rfl (sm _ (by omega))
    have q9 := F25_rd rb rc rfl (sm _ (by omega))
    have q10 := F25_rd ra (it (y * z) (by omega)) (Int.mul_assoc x y z).symm (sm _ (by omega))
    have q11 := F25_rd ra (it (y + z) (by omega)) rfl (sm _ (by omega))
    have q12 := F25_rd ra rc rfl (sm _ (by omega))
    have q13 := F23_rd (it (x * y) (by omega)) (it (x * z) (by omega)) (Int.mul_add x y z).symm (sm _ (by omega))
    have e26 := F26_eq b
    rw [with2_rd (t := [48]) (y := 0) rb ⟨rfl, rfl⟩ (sm _ (by omega))] at e26
    have q14 := F22_27_eq a b
    rw [opS_rd ra rb (sm _ (by omega))] at q14
    have q15 := F23_rd ra (it (-y) (by omega)) (show x + -y = x - y by omega) (sm _ (by omega))
    have q16 := F23_rd (t := [48]) (y := 0) ra ⟨rfl, rfl⟩ (Int.add_zero x) (sm _ (by omega))
    have q17 := F25_rd (t := [49]) (y := 1) ra ⟨rfl, rfl⟩ (Int.mul_one x) (sm _ (by omega))
    rw [ia] at q16 q17
    simp only [vmr, vmw, vmp, vza, ↓reduceIte, Nat.reduceBEq, Nat.reduceLT, Nat.reduceAdd, Nat.reduceEqDiff, reduceCtorEq, vmt, vzb, vzc, vlen, vleaf, velems, oks, vst, vmd, ty, Nat.reduceLeDiff, Nat.reduceMul, Nat.reduceSub, vzr, m5, hr3, fits9, List.map_cons, List.map_nil, e21, e10, q1, q2, q3, q4, q5, q6, q7, q8, q9, q10, q11, q12, q13, q14, q15, q16, q17, e26, strOp, List.append_eq]
end Go.Vi
