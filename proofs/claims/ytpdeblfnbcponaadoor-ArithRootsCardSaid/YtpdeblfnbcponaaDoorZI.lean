/-
  Walk of chiasmuslaw08.ArithRoots.
-/
import Derived.Test.YtpdeblfnbcponaaDoorZH
set_option linter.unusedSimpArgs false
set_option linter.unusedVariables false
set_option maxRecDepth 100000
set_option maxHeartbeats 4000000
set_option exponentiation.threshold 256
namespace Go.Vi
open Go Go.Proofs

theorem ival_lt {s : List UInt8} (hv : validB s = true) : (ival s).natAbs < 10 ^ s.length := by
  have hd : (ival s).natAbs = dval (dropB s [45]) := by
    unfold ival
    split <;> omega
  rw [hd]
  have hdig : (dropB s [45]).all isDig = true := by
    unfold validB at hv
    rw [Bool.or_eq_true] at hv
    rcases hv with h | h
    · have : s = [48] := by simpa using h
      subst this
      rfl
    · unfold validT at h
      simp only [Bool.and_eq_true] at h
      exact h.2
  have h1 := dval_lt _ hdig
  have h2 := dropB_len s [45]
  exact Nat.lt_of_lt_of_le h1 (Nat.pow_le_pow_right (by omega) (by omega))
theorem root_pow {n y : Nat} (hn : 1 ≤ n) : rootN n (y ^ n) = y := by
  have h1 := (root_iff (x := y ^ n) hn y).1 (Nat.le_refl _)
  have h2 := mt (root_iff (x := y ^ n) hn (y + 1)).2 (by
    have := Nat.pow_lt_pow_left (Nat.lt_succ_self y) (show n ≠ 0 by omega)
    rw [Nat.succ_eq_add_one] at this
    omega)
  omega
theorem numL_fx {b n : Nat} : ∀ (k a : Nat), numL b (fx b k n).reverse a = a * b ^ k + n % b ^ k
  | 0, a => by simp [fx, numL, Nat.mod_one]
  | k + 1, a => by
    rw [fx_snoc, List.reverse_append]
    show numL b (fx b k n).reverse (a * b + Int.toNat ((n / b ^ k % b : Nat) : Int)) = _
    rw [numL_fx k, Int.toNat_natCast, mod_succ, Nat.add_mul, Nat.pow_succ, Nat.mul_comm (b ^ k) b, Nat.mul_assoc, Nat.mul_comm (b ^ k) (n / b ^ k % b)]
    omega
theorem numL_digH {b y : Nat} (hb : 2 ≤ b) : numL b (digH b y) 0 = y := by
  unfold digH
  split
  · rename_i h
    subst h
    show 0 * b + 0 = 0
    omega
  · unfold lm
    rw [numL_fx, Nat.zero_mul, Nat.zero_add]
    have := lm_lt hb y
    rw [lm_len] at this
    exact Nat.mod_eq_of_lt this
theorem digH_ok {b y : Nat} (hb : 2 ≤ b) (hy : y < 2 ^ 1999) : (digH b y).length ≤ 2000 ∧ (digH b y).any (badD b) = false := by
  unfold digH
  split
  · refine ⟨by simp, ?_⟩
    simp only [List.any_cons, List.any_nil, Bool.or_false]
    unfold badD
    rw [decide_eq_false_iff_not]
    omega
  · constructor
    · rw [List.length_reverse]
      have h1 : (2 : Nat) ^ 1999 ≤ b ^ 1999 := Nat.pow_le_pow_left hb 1999
      have := (lm_len_le hb y 1999).2 (by omega)
      omega
    · rw [List.any_reverse, List.any_eq_false]
      intro d hd
      have := fx_dig b (by omega) _ _ d hd
      unfold badD
      rw [Bool.not_eq_true, decide_eq_false_iff_not]
      omega
set_option exponentiation.threshold 500000 in
theorem pow30 {P z e : Nat} (hP : P = 10 ^ 30) (hz : z ≤ P) (he : e ≤ 16) : z ^ e < 10 ^ 500 := by
  have h1 := Nat.pow_le_pow_left hz e
  rw [hP, ← Nat.pow_mul] at h1
  have h2 : (10 : Nat) ^ (30 * e) ≤ 10 ^ 480 := Nat.pow_le_pow_right (by omega) (by omega)
  have h3 : (10 : Nat) ^ 480 < 10 ^ 500 := Nat.pow_lt_pow_right (by omega) (by omega)
  exact Nat.lt_of_le_of_lt (Nat.le_trans h1 h2) h3
set_option exponentiation.threshold 500000 in
theorem small_2 {y : Nat} {P : Nat} (hP : P = 10 ^ 30) (hy : y < P) : y < 2 ^ 1999 := by
  have h1 : (10 : Nat) ^ 30 ≤ (2 ^ 4) ^ 30 := Nat.pow_le_pow_left (by omega) 30
  rw [← Nat.pow_mul] at h1
  have h2 : (2 : Nat) ^ (4 * 30) ≤ 2 ^ 1999 := Nat.pow_le_pow_right (by omega) (by omega)
  omega
theorem F17_rd {s : List UInt8} {x : Int} {e : Nat} (hs : rd s x) (he : e < 9223372036854775808) (h : x.natAbs ^ e < 10 ^ 500) : F17 [.str s, I (e : Nat)] = some (.tup [.str (itxt (x ^ e)), I 0]) := by
  rw [F17_eq (by omega)]
  unfold powS
  rw [if_pos hs.1, if_neg (by omega), hs.2, show ((e : Int)).toNat = e from rfl, if_pos h]
theorem F19_rd {s : List UInt8} {y : Nat} {e : Nat} (hs : rd s (y : Int)) (he : 1 ≤ e ∧ e ≤ 1000) : F19 [.str s, I (e : Nat)] = some (.tup [.str (itxt ((rootN e y : Nat) : Int)), I 0]) := by
  rw [F19_eq]
  unfold rootS
  rw [if_pos hs.1, if_pos (by omega), hs.2, if_neg (by omega)]
  rfl
theorem F28_rd {s t : List UInt8} {x y : Int} (hs : rd s x) (ht : rd t y) : F28 [.str s, .str t] = some (.tup [I (cmpI x y), I 0]) := by
  rw [F28_eq]
  unfold cmpO
  rw [if_pos ⟨hs.1, ht.1⟩, hs.2, ht.2]
end Go.Vi
set_option maxRecDepth 100000
set_option maxHeartbeats 4000000
set_option exponentiation.threshold 256
namespace Go.Vi
open Go Go.Proofs

theorem bound_30 : ∃ P : Nat, 3 ≤ P ∧ P = 10 ^ 30 := ⟨10 ^ 30, by omega, rfl⟩
noncomputable abbrev T8 : List (FuncId × (List V → Option V)) := (30, F30) :: (10, F10) :: (17, F17) :: (11, F11) :: (35, F35) :: (19, F19) :: (24, F24) :: (28, F28) :: (36, F36) :: (37, F37) :: (39, F39) :: (38, F38) :: []
theorem hT8 : SoundHand Tryd.prog (hand T8) := sound_cons (hF_sound fun a _ => w30 a) <| sound_cons F10_sound <| sound_cons (hF_sound fun a h => w17 a.1 a.2 h) <| sound_cons (hF_sound fun a _ => w11 a.1 a.2) <| sound_cons (hF_sound fun a _ => w35 a) <|
  sound_cons (hF_sound fun a _ => w19 a.1 a.2) <| sound_cons (hF_sound fun a _ => w24 a.1 a.2) <| sound_cons (hF_sound fun a _ => w28 a.1 a.2) <| sound_cons (hF_sound fun a _ => w36 a.1 a.2) <| sound_cons (hF_sound fun a _ => w37 a.1 a.2) <| sound_cons (hF_sound fun a h => w39 a h) <| sound_cons (hF_sound fun a h => w38 a h) sound_nil
theorem w8 (a : List UInt8) (n m b : Nat) (k : Int) (hn : n < 256) (hm : m < 256) (hb : b < 65536) (hk : -9223372036854775808 ≤ k ∧ k ≤ 9223372036854775807) : SoundPure Tryd.prog 8 [.str a, .int .u8 n, .int .u8 m, .int .u16 b, I k] (.ret (.bool true)) := by
  refine s8 hT8 6 (by simp) rfl ?_
  have e30 := F30_eq a
  have e10 := F10_eq
  simp only [c8, Tryd.f8, gets]
  by_cases hl : a.length > 30
  · have q1 : ((a.length : Int) > 30) = True := eq_true (by omega)
    simp only [vmr, vmw, vmp, vza, ↓reduceIte, Nat.reduceBEq, Nat.reduceLT, Nat.reduceAdd, Nat.reduceEqDiff, reduceCtorEq, vmt, vzb, vzc, vlen, vleaf, velems, oks, vst, vmd, ty, Nat.reduceLeDiff, Nat.reduceMul, Nat.reduceSub, vzr, m8, q1, e10]
  · have q1 : ((a.length : Int) > 30) = False := eq_false (by omega)
    cases hv : validB a with
    | false =>
      rw [hv] at e30
      simp only [vmr, vmw, vmp, vza, ↓reduceIte, Nat.reduceBEq, Nat.reduceLT, Nat.reduceAdd, Nat.reduceEqDiff, reduceCtorEq, vmt, vzb, vzc, vlen, vleaf, velems, oks, vst, vmd, ty, Nat.reduceLeDiff, Nat.reduceMul, Nat.reduceSub, vzr, m8, q1, e30, e10]
    | true =>
      rw [hv] at e30
      obtain ⟨P, hP3, hP⟩ := bound_30
      have hx := ival_lt hv
      have hxP : (ival a).natAbs < P := by
        have : (10 : Nat) ^ a.length ≤ 10 ^ 30 := Nat.pow_le_pow_right (by omega) (by omega)
        omega
      have ra : rd a (ival a) := ⟨hv, rfl⟩
      have ia := itxt_ival hv
      clear hx
      generalize ival a = x at *
      have pw := fun {z e : Nat} => @pow30 P z e hP
      have sm2 := fun {z : Nat} => @small_2 z P hP
      clear hP
      -- the exponents
      have n8 : ((8 : Int) = 0) = False := by decide
      have t1 : Int.tmod (n : Int) 8 = ((n % 8 : Nat) : Int) := rfl
      have t2 : Int.tmod (m : Int) 8 = ((m % 8 : Nat) : Int) := rfl
      have w1 : IntKind.i64.wrap ((n % 8 : Nat) : Int) = ((n % 8 : Nat) : Int) := by rw [wrap_id] ; omega
      have w2 : IntKind.i64.wrap ((m % 8 : Nat) : Int) = ((m % 8 : Nat) : Int) := by rw [wrap_id] ; omega
      have hp : 1 ≤ 1 + n % 8 ∧ 1 + n % 8 ≤ 8 := by omega
      have hq : 1 ≤ 1 + m % 8 ∧ 1 + m % 8 ≤ 8 := by omega
      have w3 : IntKind.i64.wrap (1 + ((n % 8 : Nat) : Int)) = ((1 + n % 8 : Nat) : Int) := by rw [wrap_id] <;> omega
      have w4 : IntKind.i64.wrap (1 + ((m % 8 : Nat) : Int)) = ((1 + m % 8 : Nat) : Int) := by rw [wrap_id] <;> omega
      generalize hp' : 1 + n % 8 = p at *
      generalize hq' : 1 + m % 8 = q at *
      have w5 : IntKind.i64.wrap ((p : Int) + (q : Int)) = ((p + q : Nat) : Int) := by rw [wrap_id] <;> omega
      have n9 : ((999 : Int) = 0) = False := by decide
      have t3 : Int.tmod (b : Int) 999 = ((b % 999 : Nat) : Int) := rfl
      have w6 : IntKind.i64.wrap ((b % 999 : Nat) : Int) = ((b % 999 : Nat) : Int) := by rw [wrap_id] ; omega
      have hB : 2 ≤ 2 + b % 999 ∧ 2 + b % 999 ≤ 1000 := by omega
      have w7 : IntKind.i64.wrap (2 + ((b % 999 : Nat) : Int)) = ((2 + b % 999 : Nat) : Int) := by rw [wrap_id] <;> omega
      generalize 2 + b % 999 = B at *
      -- powers
      have px : x.natAbs ^ p < 10 ^ 500 := pw (by omega) (by omega)
      have qx : x.natAbs ^ q < 10 ^ 500 := pw (by omega) (by omega)
      have pqx : x.natAbs ^ (p + q) < 10 ^ 500 := pw (by omega) (by omega)
      have e17a := F17_rd ra (e := p) (by omega) px
      have e17b := F17_rd ra (e := q) (by omega) qx
      have e17c := F17_rd ra (e := p + q) (by omega) pqx
      have rdi := fun {z : Int} (h : small z) => (show rd (itxt z) z from read_itxt h)
      have spx : small (x ^ p) := by show Int.natAbs _ < _; rw [Int.natAbs_pow]; exact px
      have sqx : small (x ^ q) := by show Int.natAbs _ < _; rw [Int.natAbs_pow]; exact qx
      have spqx : small (x ^ p * x ^ q) := by show Int.natAbs _ < _; rw [← Int.pow_add, Int.natAbs_pow]; exact pqx
      have e11 := F11_eq (itxt (x ^ p)) (itxt (x ^ q))
      rw [with2_rd (rdi spx) (rdi sqx) spqx, ← Int.pow_add] at e11
      -- the absolute value
      have e35 := F35_eq a
      rw [← ia, drop_itxt, ia] at e35
      obtain ⟨y, hy⟩ : ∃ y, x.natAbs = y := ⟨_, rfl⟩
      rw [hy] at e35 px hxP
      have hyp : ∀ {z e : Nat}, z ≤ P → e ≤ 16 → small ((z ^ e : Nat) : Int) := fun h1 h2 => by show Int.natAbs _ < _; rw [Int.natAbs_natCast]; exact pw h1 h2
      have hy1 : small ((y : Nat) : Int) := by have := hyp (z := y) (e := 1) (by omega) (by omega); rwa [Nat.pow_one] at this
      have ry := rdi hy1
      have e17d := F17_rd ry (e := p) (by omega) (by rw [Int.natAbs_natCast]; exact px)
      rw [← Int.natCast_pow] at e17d
      have e19a := F19_rd (rdi (hyp (z := y) (e := p) (by omega) (by omega))) (e := p) (by omega)
      rw [root_pow (by omega)] at e19a
      have e19b := F19_rd ry (e := p) (by omega)
      have hRy : rootN p y ≤ y := root_le
      have hR1 := (root_iff (n := p) (x := y) (by omega) (rootN p y)).2 (Nat.le_refl _)
      have hR2 := mt (root_iff (n := p) (x := y) (by omega) (rootN p y + 1)).1 (by omega)
      generalize rootN p y = R at *
      have hRs : small ((R : Nat) : Int) := Nat.lt_of_le_of_lt hRy hy1
      have e24 := F24_eq (itxt ((R : Nat) : Int)) [49]
      have hRs1 : small ((R + 1 : Nat) : Int) := by have := hyp (z := R + 1) (e := 1) (by omega) (by omega); rwa [Nat.pow_one] at this
      rw [with2_rd (t := [49]) (y := 1) (rdi hRs) ⟨rfl, rfl⟩ hRs1] at e24
      rw [show ((R : Nat) : Int) + 1 = ((R + 1 : Nat) : Int) from rfl] at e24
      have e17e := F17_rd (rdi hRs) (e := p) (by omega) (by rw [Int.natAbs_natCast]; exact pw (by omega) (by omega))
      have e17f := F17_rd (rdi hRs1) (e := p) (by omega) (by rw [Int.natAbs_natCast]; exact pw (by omega) (by omega))
      rw [← Int.natCast_pow] at e17e e17f
      have e28a := F28_rd (rdi (hyp (z := R) (e := p) (by omega) (by omega))) ry
      have e28b := F28_rd (rdi (hyp (z := R + 1) (e := p) (by omega) (by omega))) ry
      have c1 : (cmpI ((R ^ p : Nat) : Int) (y : Int) > 0) = False := eq_false (by unfold cmpI; split <;> (try split) <;> omega)
      have c2 : (cmpI (((R + 1) ^ p : Nat) : Int) (y : Int) ≤ 0) = False := eq_false (by unfold cmpI; rw [if_neg (by omega), if_neg (by omega)]; decide)
      -- digits
      have e36 := F36_eq a B
      unfold digsS at e36
      rw [if_pos hv, if_pos (by omega), ra.2, show ((B : Int)).toNat = B from rfl, hy] at e36
      have hdg := digH_ok (b := B) (y := y) (by omega) (sm2 (by omega))
      have hnl := numL_digH (b := B) (y := y) (by omega)
      have e37 := F37_eq (digH B y) B
      unfold numS at e37
      rw [if_pos (by omega), if_pos hdg.1, if_neg (by rw [hdg.2]; decide), show ((B : Int)).toNat = B from rfl, hnl, if_pos (show y < 10 ^ 500 from hy1)] at e37
      -- ints
      have e39 := F39_eq hk
      obtain ⟨hf, hi⟩ := fit_itxt hk
      have e38 := F38_eq hf
      rw [hi] at e38
      generalize digH B y = dl at *
      have kk : (k == k) = true := beq_self_eq_true _
      have s1 : ∀ s : List UInt8, (s != s) = false := fun s => bne_self_eq_false _
      have s2 : ∀ s : List UInt8, (s == s) = true := fun s => beq_self_eq_true _
      simp only [vmr, vmw, vmp, vza, ↓reduceIte, Nat.reduceBEq, Nat.reduceLT, Nat.reduceAdd, Nat.reduceEqDiff, reduceCtorEq, vmt, vzb, vzc, vlen, vleaf, velems, oks, vst, vmd, ty, Nat.reduceLeDiff, Nat.reduceMul, Nat.reduceSub, vzr, m8, q1, e30, e10, n8, t1, t2, w1, w2, w3, w4, w5, n9, t3, w6, w7, e17a, e17b, e17c, e11, e35, e17d, e19a, e19b, e24, e17e, e17f, e28a, e28b, c1, c2, e36, e37, e39, e38, kk, s1, s2, strOp, Int.reduceBNe, Int.reduceBEq, allflatI, pureLI, shI, import_I, refsI]
end Go.Vi
