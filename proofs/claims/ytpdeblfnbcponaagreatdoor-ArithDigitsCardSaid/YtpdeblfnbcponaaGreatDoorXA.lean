/-
  Numbers as rows of digits: the plain laws of layer 8.
-/
import Derived.Test.YtpdeblfnbcponaaGreatDoorVC
import Derived.Test.YtpdeblfnbcponaaGreatDoorT
import Derived.Tactics
import Derived.Tactics2
import Derived.Defers
import Derived.Recover
import Derived.Laws.Pointers
import Derived.TacticsInMore
import Derived.RecoverIn
set_option linter.unusedSimpArgs false
set_option linter.unusedVariables false
namespace Go.Vi

/-- So many digits of a number, the lowest first. -/
def fx (B : Nat) : Nat → Nat → List Int
  | 0, _ => []
  | k + 1, n => ((n % B : Nat) : Int) :: fx B k (n / B)
/-- The digits of a number, without zeros at the end. -/
def nlen (B : Nat) : Nat → Nat → Nat
  | 0, _ => 0
  | f + 1, n => if n = 0 then 0 else nlen B f (n / B) + 1
def lm (B n : Nat) : List Int := fx B (nlen B n n) n
theorem fx_len (B : Nat) : ∀ k n, (fx B k n).length = k
  | 0, _ => rfl
  | k + 1, n => by simp [fx, fx_len B k]
theorem fx_get (B : Nat) : ∀ (k n i : Nat), i < k → (fx B k n)[i]? = some ((n / B ^ i % B : Nat) : Int)
  | 0, _, _, h => by omega
  | k + 1, n, 0, _ => by simp [fx]
  | k + 1, n, i + 1, h => by
    simp only [fx, List.getElem?_cons_succ]
    rw [fx_get B k (n / B) i (by omega), Nat.div_div_eq_div_mul, Nat.pow_succ, Nat.mul_comm]
theorem fx_getD (B k n i : Nat) (h : n < B ^ k) : (fx B k n).getD i 0 = ((n / B ^ i % B : Nat) : Int) := by
  by_cases hi : i < k
  · simp [List.getD, fx_get B k n i hi]
  · have : (fx B k n)[i]? = none := List.getElem?_eq_none (by rw [fx_len]; omega)
    simp only [List.getD, this, Option.getD_none]
    by_cases hB : B = 0
    · subst hB
      by_cases hk : k = 0
      · subst hk
        have : n = 0 := by simpa using h
        subst this
        simp
      · rw [Nat.zero_pow (by omega)] at h; omega
    · have h1 : B ^ k ≤ B ^ i := Nat.pow_le_pow_right (by omega) (by omega)
      rw [Nat.div_eq_of_lt (by omega)]
      simp
theorem fx_snoc (B : Nat) : ∀ k n, fx B (k + 1) n = fx B k n ++ [((n / B ^ k % B : Nat) : Int)]
  | 0, n => by simp [fx]
  | k + 1, n => by
    have h := fx_snoc B k (n / B)
    rw [Nat.div_div_eq_div_mul, Nat.mul_comm, ← Nat.pow_succ] at h
    show ((n % B : Nat) : Int) :: fx B (k + 1) (n / B) = ((n % B : Nat) : Int) :: fx B k (n / B) ++ _
    rw [h]
    rfl
theorem nlen_le {B : Nat} (hB : 2 ≤ B) : ∀ (f n k : Nat), n ≤ f → (nlen B f n ≤ k ↔ n < B ^ k)
  | 0, n, k, h => by
    have : n = 0 := by omega
    subst this
    simp [nlen]
    exact Nat.pow_pos (by omega)
  | f + 1, n, k, h => by
    simp only [nlen]
    by_cases h0 : n = 0
    · subst h0; simp; exact Nat.pow_pos (by omega)
    · rw [if_neg h0]
      have hd : n / B ≤ f := by
        have : n / B < n := Nat.div_lt_self (by omega) (by omega)
        omega
      cases k with
      | zero => simp; omega
      | succ k =>
        rw [Nat.succ_le_succ_iff, nlen_le hB f (n / B) k hd, Nat.pow_succ, Nat.div_lt_iff_lt_mul (by omega)]
theorem lm_len (B n : Nat) : (lm B n).length = nlen B n n := by unfold lm; rw [fx_len]
theorem lm_len_le {B : Nat} (hB : 2 ≤ B) (n k : Nat) : (lm B n).length ≤ k ↔ n < B ^ k := by rw [lm_len]; exact nlen_le hB n n k (Nat.le_refl _)
theorem lm_lt {B : Nat} (hB : 2 ≤ B) (n : Nat) : n < B ^ (lm B n).length := (lm_len_le hB n _).1 (Nat.le_refl _)
theorem lm_getD {B : Nat} (hB : 2 ≤ B) (n i : Nat) : (lm B n).getD i 0 = ((n / B ^ i % B : Nat) : Int) := by
  have h := lm_lt hB n
  rw [lm_len] at h
  unfold lm
  exact fx_getD B _ n i h
theorem lm_get {B : Nat} (hB : 2 ≤ B) (n i : Nat) (h : i < (lm B n).length) : (lm B n)[i]? = some ((n / B ^ i % B : Nat) : Int) := by
  rw [lm_len] at h
  unfold lm
  exact fx_get B _ n i h
theorem lm_zero (B : Nat) : lm B 0 = [] := rfl
theorem lm_nil {B : Nat} (hB : 2 ≤ B) (n : Nat) : (lm B n).length = 0 ↔ n = 0 := by
  have := lm_len_le hB n 0
  simp at this
  constructor
  · intro h; exact this.1 (by simpa using h)
  · intro h; subst h; rfl
/-- Zeros at the end are left out. -/
def trimL : List Int → List Int
  | [] => []
  | x :: r => match trimL r with
    | [] => if x = 0 then [] else [x]
    | y :: q => x :: y :: q
theorem trimL_append (l : List Int) (x : Int) : trimL (l ++ [x]) = if x = 0 then trimL l else l ++ [x] := by
  induction l with
  | nil => simp [trimL]
  | cons y l ih =>
    simp only [List.cons_append, trimL, ih]
    by_cases h : x = 0
    · simp only [h, if_true]
    · simp only [h, if_false]
      cases l <;> rfl
theorem trimL_fx {B : Nat} (hB : 2 ≤ B) (n : Nat) : ∀ k, n < B ^ k → trimL (fx B k n) = lm B n
  | 0, h => by
    have : n = 0 := by simpa using h
    subst this
    rfl
  | k + 1, h => by
    rw [fx_snoc, trimL_append]
    by_cases hk : n < B ^ k
    · rw [Nat.div_eq_of_lt hk]
      simp only [Nat.zero_mod, Int.ofNat_zero, if_true]
      exact trimL_fx hB n k hk
    · have hlen : (lm B n).length = k + 1 := by
        have h1 := (lm_len_le hB n (k + 1)).2 h
        have h2 : ¬ (lm B n).length ≤ k := fun h => hk ((lm_len_le hB n k).1 h)
        omega
      have hp : 0 < B ^ k := Nat.pow_pos (by omega)
      have hd : n / B ^ k % B ≠ 0 := by
        have h1 : 0 < n / B ^ k := Nat.div_pos (by omega) hp
        have h2 : n / B ^ k < B := by rw [Nat.div_lt_iff_lt_mul hp, Nat.mul_comm, ← Nat.pow_succ]; exact h
        rw [Nat.mod_eq_of_lt h2]; omega
      rw [if_neg (by omega), ← fx_snoc]
      unfold lm
      rw [← lm_len, hlen]
theorem fx_zero (B : Nat) : ∀ k, fx B k 0 = List.replicate k 0
  | 0 => rfl
  | k + 1 => by simp [fx, fx_zero B k, List.replicate_succ]
/-- One digit more or less. -/
theorem fx_set {B : Nat} (hB : 2 ≤ B) : ∀ (k n i d m : Nat), i < k → d < B → m + (n / B ^ i % B) * B ^ i = n + d * B ^ i → (fx B k n).set i (d : Int) = fx B k m
  | 0, n, i, d, m, h, _, _ => by omega
  | k + 1, n, 0, d, m, h, hd, hm => by
    simp only [Nat.pow_zero, Nat.div_one, Nat.mul_one] at hm
    have h1 : n = B * (n / B) + n % B := (Nat.div_add_mod n B).symm
    have h2 : m = B * (n / B) + d := by omega
    have h3 : m % B = d := by rw [h2, Nat.mul_add_mod, Nat.mod_eq_of_lt hd]
    have h4 : m / B = n / B := by rw [h2, Nat.mul_add_div (by omega), Nat.div_eq_of_lt hd, Nat.add_zero]
    simp only [fx, List.set_cons_zero, h3, h4]
  | k + 1, n, i + 1, d, m, h, hd, hm => by
    have h5 : n / B ^ (i + 1) = n / B / B ^ i := by rw [Nat.div_div_eq_div_mul, Nat.pow_succ, Nat.mul_comm]
    rw [h5, Nat.pow_succ] at hm
    have e1 : (n / B / B ^ i % B) * (B ^ i * B) = B * ((n / B / B ^ i % B) * B ^ i) := by rw [Nat.mul_comm (B ^ i) B, Nat.mul_left_comm]
    have e2 : d * (B ^ i * B) = B * (d * B ^ i) := by rw [Nat.mul_comm (B ^ i) B, Nat.mul_left_comm]
    rw [e1, e2] at hm
    have h3 : m % B = n % B := by
      have := congrArg (· % B) hm
      simpa [Nat.add_mul_mod_self_left] using this
    have h4 : m / B + (n / B / B ^ i % B) * B ^ i = n / B + d * B ^ i := by
      have := congrArg (· / B) hm
      simpa [Nat.add_mul_div_left _ _ (show 0 < B by omega)] using this
    simp only [fx, List.set_cons_succ, h3]
    rw [fx_set hB k (n / B) i d (m / B) (by omega) hd h4]
end Go.Vi
namespace Go.Vi

theorem pow_pos' {B : Nat} (hB : 2 ≤ B) (i : Nat) : 0 < B ^ i := Nat.pow_pos (by omega)
theorem split_at (B n i : Nat) : n = n % B ^ i + B ^ i * (n / B ^ i) := by have := Nat.div_add_mod n (B ^ i); omega
theorem mod_succ (B n i : Nat) : n % B ^ (i + 1) = n % B ^ i + B ^ i * (n / B ^ i % B) := Nat.mod_pow_succ
theorem div_succ (B n i : Nat) : n / B ^ (i + 1) = n / B ^ i / B := by rw [Nat.div_div_eq_div_mul, Nat.pow_succ]
theorem add_digit {B : Nat} (hB : 2 ≤ B) (n m i : Nat) : ((n % B ^ i + m % B ^ i) / B ^ i + n / B ^ i % B + m / B ^ i % B) % B = (n + m) / B ^ i % B ∧
    ((n % B ^ i + m % B ^ i) / B ^ i + n / B ^ i % B + m / B ^ i % B) / B = (n % B ^ (i + 1) + m % B ^ (i + 1)) / B ^ (i + 1) := by
  have hP := pow_pos' hB i
  constructor
  · have e : (n + m) / B ^ i = (n % B ^ i + m % B ^ i) / B ^ i + (n / B ^ i + m / B ^ i) := by
      conv => lhs; rw [split_at B n i, split_at B m i]
      rw [show n % B ^ i + B ^ i * (n / B ^ i) + (m % B ^ i + B ^ i * (m / B ^ i)) = (n % B ^ i + m % B ^ i) + B ^ i * (n / B ^ i + m / B ^ i) by rw [Nat.mul_add]; omega, Nat.add_mul_div_left _ _ hP]
    rw [e]
    generalize (n % B ^ i + m % B ^ i) / B ^ i = c
    generalize n / B ^ i = a
    generalize m / B ^ i = b
    rw [Nat.add_mod (c + a % B), Nat.add_mod c (a % B), Nat.mod_mod, Nat.mod_mod, ← Nat.add_assoc, Nat.add_mod (c + a), Nat.add_mod c a]
  · rw [mod_succ, mod_succ, div_succ]
    rw [show n % B ^ i + B ^ i * (n / B ^ i % B) + (m % B ^ i + B ^ i * (m / B ^ i % B)) = (n % B ^ i + m % B ^ i) + B ^ i * (n / B ^ i % B + m / B ^ i % B) by rw [Nat.mul_add]; omega, Nat.add_mul_div_left _ _ hP, Nat.add_assoc]
theorem add_carry {B : Nat} (hB : 2 ≤ B) (n m i : Nat) : (n % B ^ i + m % B ^ i) / B ^ i ≤ 1 := by
  have hP := pow_pos' hB i
  have h1 := Nat.mod_lt n hP
  have h2 := Nat.mod_lt m hP
  have : (n % B ^ i + m % B ^ i) / B ^ i < 2 := by rw [Nat.div_lt_iff_lt_mul hP]; omega
  omega
theorem add_end {B : Nat} (hB : 2 ≤ B) {n m i : Nat} (hn : n < B ^ i) (hm : m < B ^ i) (h : (n % B ^ i + m % B ^ i) / B ^ i = 0) : n + m < B ^ i := by
  rw [Nat.mod_eq_of_lt hn, Nat.mod_eq_of_lt hm] at h
  have hP := pow_pos' hB i
  rcases Nat.lt_or_ge (n + m) (B ^ i) with h1 | h1
  · exact h1
  · have := Nat.div_pos h1 hP; omega
/-- The borrow of a difference. -/
def bor (B n m i : Nat) : Nat := if n % B ^ i < m % B ^ i then 1 else 0
theorem sub_digit {B : Nat} (hB : 2 ≤ B) {n m : Nat} (h : m ≤ n) (i : Nat) :
    (((n / B ^ i % B : Nat) : Int) - ((m / B ^ i % B : Nat) : Int) - (bor B n m i : Nat) < 0 → (((n / B ^ i % B : Nat) : Int) - ((m / B ^ i % B : Nat) : Int) - (bor B n m i : Nat) + (B : Nat) = (((n - m) / B ^ i % B : Nat) : Int)) ∧ bor B n m (i + 1) = 1) ∧
    (¬ ((n / B ^ i % B : Nat) : Int) - ((m / B ^ i % B : Nat) : Int) - (bor B n m i : Nat) < 0 → (((n / B ^ i % B : Nat) : Int) - ((m / B ^ i % B : Nat) : Int) - (bor B n m i : Nat) = (((n - m) / B ^ i % B : Nat) : Int)) ∧ bor B n m (i + 1) = 0) := by
  have hP := pow_pos' hB i
  have hn := split_at B n i
  have hm := split_at B m i
  have r1 := Nat.mod_lt n hP
  have r2 := Nat.mod_lt m hP
  have ha : n / B ^ i = B * (n / B ^ i / B) + n / B ^ i % B := (Nat.div_add_mod _ B).symm
  have hb : m / B ^ i = B * (m / B ^ i / B) + m / B ^ i % B := (Nat.div_add_mod _ B).symm
  have a1 := Nat.mod_lt (n / B ^ i) (show 0 < B by omega)
  have b1 := Nat.mod_lt (m / B ^ i) (show 0 < B by omega)
  have hs1 := mod_succ B n i
  have hs2 := mod_succ B m i
  have hbs : bor B n m (i + 1) = if n / B ^ i % B < m / B ^ i % B + bor B n m i then 1 else 0 := by
    unfold bor
    rw [hs1, hs2]
    generalize n / B ^ i % B = a at *
    generalize m / B ^ i % B = b at *
    generalize n % B ^ i = r at *
    generalize m % B ^ i = s at *
    generalize B ^ i = P at *
    by_cases e : a = b
    · subst e
      by_cases hrs : r < s
      · rw [if_pos (by omega), if_pos (by rw [if_pos hrs]; omega)]
      · rw [if_neg (by omega), if_neg (by rw [if_neg hrs]; omega)]
    · rcases Nat.lt_or_gt_of_ne e with e | e
      · have : P * (a + 1) ≤ P * b := Nat.mul_le_mul_left P e
        rw [Nat.mul_add, Nat.mul_one] at this
        rw [if_pos (by omega), if_pos (by omega)]
      · have : P * (b + 1) ≤ P * a := Nat.mul_le_mul_left P e
        rw [Nat.mul_add, Nat.mul_one] at this
        rw [if_neg (by omega), if_neg (by split <;> omega)]
  -- the quotient of the difference
  have hq : (n - m) / B ^ i + m / B ^ i + bor B n m i = n / B ^ i := by
    unfold bor
    generalize n / B ^ i = N at *
    generalize m / B ^ i = M at *
    generalize hr : n % B ^ i = r at *
    generalize hs : m % B ^ i = s at *
    generalize B ^ i = P at *
    by_cases hrs : r < s
    · have hNM : M + 1 ≤ N := by
        rcases Nat.lt_or_ge M N with h1 | h1
        · exact h1
        · have : P * N ≤ P * M := Nat.mul_le_mul_left P h1
          omega
      obtain ⟨D, rfl⟩ : ∃ D, N = M + 1 + D := ⟨N - (M + 1), by omega⟩
      have e : n - m = (P + r - s) + P * D := by
        have : P * (M + 1 + D) = P * M + P + P * D := by rw [Nat.mul_add, Nat.mul_add, Nat.mul_one]
        omega
      rw [if_pos hrs, e, Nat.add_mul_div_left _ _ hP, Nat.div_eq_of_lt (by omega)]
      omega
    · have hNM : M ≤ N := by
        rcases Nat.lt_or_ge N M with h1 | h1
        · have : P * (N + 1) ≤ P * M := Nat.mul_le_mul_left P h1
          rw [Nat.mul_add, Nat.mul_one] at this
          omega
        · exact h1
      obtain ⟨D, rfl⟩ : ∃ D, N = M + D := ⟨N - M, by omega⟩
      have e : n - m = (r - s) + P * D := by
        have : P * (M + D) = P * M + P * D := Nat.mul_add ..
        omega
      rw [if_neg hrs, e, Nat.add_mul_div_left _ _ hP, Nat.div_eq_of_lt (by omega)]
      omega
  rw [hbs]
  have hbor : bor B n m i ≤ 1 := by unfold bor; split <;> omega
  generalize bor B n m i = β at *
  generalize (n - m) / B ^ i = D at *
  generalize n / B ^ i = N at *
  generalize m / B ^ i = M at *
  have hD : D = B * (D / B) + D % B := (Nat.div_add_mod _ B).symm
  have d1 := Nat.mod_lt D (show 0 < B by omega)
  generalize N % B = a at *
  generalize M % B = b at *
  generalize D % B = d at *
  generalize N / B = N' at *
  generalize M / B = M' at *
  generalize D / B = D' at *
  -- B * D' + d + (B * M' + b) + β = B * N' + a
  have key : B * D' + d + (B * M' + b) + β = B * N' + a := by omega
  have c1 : B * (D' + M') = B * D' + B * M' := Nat.mul_add ..
  have hcmp : D' + M' = N' ∨ D' + M' + 1 = N' := by
    rcases Nat.lt_or_ge N' (D' + M') with h1 | h1
    · have : B * (N' + 1) ≤ B * (D' + M') := Nat.mul_le_mul_left B h1
      rw [Nat.mul_add, Nat.mul_one] at this
      omega
    · rcases Nat.lt_or_ge (D' + M' + 1) N' with h2 | h2
      · have : B * (D' + M' + 1 + 1) ≤ B * N' := Nat.mul_le_mul_left B h2
        rw [Nat.mul_add, Nat.mul_add, Nat.mul_one] at this
        omega
      · omega
  rcases hcmp with e | e
  · subst e
    refine ⟨fun hlt => ?_, fun hge => ⟨by omega, by rw [if_neg (by omega)]⟩⟩
    omega
  · subst e
    have c2 : B * (D' + M' + 1) = B * D' + B * M' + B := by rw [Nat.mul_add, Nat.mul_add, Nat.mul_one]
    refine ⟨fun hlt => ⟨by omega, by rw [if_pos (by omega)]⟩, fun hge => ?_⟩
    omega
theorem bor_zero (B n m : Nat) : bor B n m 0 = 0 := by simp [bor, Nat.mod_one]
/-- A digit of a quotient by a small number, from the highest on. -/
theorem quo_digit {B : Nat} (hB : 2 ≤ B) {by' : Nat} (hb : 0 < by') (n i : Nat) :
    ((n / B ^ (i + 1)) % by' * B + n / B ^ i % B) / by' < B ∧ ((n / B ^ (i + 1)) % by' * B + n / B ^ i % B) % by' = n / B ^ i % by' ∧ n / B ^ i / by' = n / B ^ (i + 1) / by' * B + ((n / B ^ (i + 1)) % by' * B + n / B ^ i % B) / by' := by
  rw [div_succ]
  generalize n / B ^ i = N
  have hN : N = B * (N / B) + N % B := (Nat.div_add_mod _ B).symm
  have a1 := Nat.mod_lt N (show 0 < B by omega)
  generalize N / B = M at *
  generalize N % B = a at *
  have hM : M = by' * (M / by') + M % by' := (Nat.div_add_mod _ by').symm
  have m1 := Nat.mod_lt M hb
  generalize M / by' = q at *
  generalize M % by' = r at *
  have e : N = (r * B + a) + by' * (q * B) := by
    rw [hN, hM, Nat.mul_add, Nat.mul_comm B r, ← Nat.mul_assoc by', Nat.mul_comm (by' * q) B]
    omega
  refine ⟨?_, ?_, ?_⟩
  · rw [Nat.div_lt_iff_lt_mul hb]
    have : (r + 1) * B ≤ by' * B := Nat.mul_le_mul_right B m1
    rw [Nat.add_mul, Nat.one_mul] at this
    rw [Nat.mul_comm B by']
    omega
  · rw [e, Nat.add_mul_mod_self_left]
  · rw [e, Nat.add_mul_div_left _ _ hb, Nat.add_comm]
end Go.Vi
set_option maxRecDepth 100000
namespace Go.Vi
open Go Go.Proofs

theorem caught_idle (p : Addr) (w : World) : CallsDIn (Fi none) 0 Tryz.prog 20 #[.pointer (some p)] .returning w fun e u' w' => (∃ v, e = .returned v) ∧ u' = .returning ∧ w' = w := by
  refine callsDIn_of_wpSIn Tryz.func20 rfl trivial fun c₀ cs hu => ?_
  apply wpSIn_seq
  apply wpSIn_region
  simp [wpOpsSIn, go_sem, recoverD, hu, Tryz.ntmps20, Exit.thenS, Fi]
  apply wpSIn_seq
  apply wpSIn_region
  simp [wpOpsSIn, go_sem, recoverD, hu, Exit.thenS, Array.replicate]
  refine wpSIn_cond (t := false) (by simp [Act.eval, Array.replicate]) ?_
  simp only [Bool.false_eq_true, if_false]
  refine wpSIn_of_wpIn rfl (wpIn_skip ?_)
  cases c₀
  simp_all [bodyPostS, results, Tryz.results20]
theorem assert96 (v : Value) (w : World) : (Instr.typeAssert (.iface 79 v) 20 79 true).run Tryz.prog w = .ok (.tuple #[v, .bool true]) w := by
  obtain ⟨fs, h⟩ : ∃ fs, Tryz.prog.underlying 79 = some (.struct fs) := ⟨_, Tryz.underlying79⟩
  simp only [Instr.typeAssert, Sem.run_bind, run_underlying h, Result.andThen_ok]
  rfl
theorem caught_falls (b o : Nat) (c : Int) (w : World) (w2 : World) (h : (Instr.storeAt 25 (.pointer (some ⟨b, o, none⟩)) (.int .i64 c)).run Tryz.prog (w.alloc (.cells #[.int .i64 c] 79)) = .ok () w2) :
    CallsDIn (Fi none) 0 Tryz.prog 20 #[.pointer (some ⟨b, o, none⟩)] (.panicking [{ v := .iface 79 (.agg #[.int .i64 c]), recovered := false }]) w fun e u' w' => (∃ v, e = .returned v) ∧ u' = .panicking [{ v := .iface 79 (.agg #[.int .i64 c]), recovered := true }] ∧ w' = w2 := by
  refine callsDIn_of_wpSIn Tryz.func20 rfl trivial fun c₀ cs hu => ?_
  apply wpSIn_seq
  apply wpSIn_region
  simp [wpOpsSIn, go_sem, recoverD, hu, Tryz.ntmps20, Exit.thenS, Fi]
  apply wpSIn_seq
  apply wpSIn_region
  simp [wpOpsSIn, go_sem, recoverD, hu, Exit.thenS, Array.replicate]
  refine wpSIn_cond (t := true) (by simp [Act.eval, Array.replicate]) ?_
  simp only [if_true]
  apply wpSIn_seq
  apply wpSIn_region
  simp [wpOpsSIn, go_sem, recoverD, hu, Exit.thenS, Array.replicate, assert96]
  apply wpSIn_seq
  apply wpSIn_seq
  apply wpSIn_region
  simp [wpOpsSIn, go_sem, recoverD, hu, Exit.thenS, Array.replicate]
  refine wpSIn_cond (t := false) (by simp [Act.eval, Array.replicate]) ?_
  simp only [Bool.false_eq_true, if_false]
  refine wpSIn_of_wpIn rfl (wpIn_skip ?_)
  show Code.wpSIn _ _ _ _ _ _ _ _
  apply wpSIn_region
  simp [wpOpsSIn, go_sem, recoverD, hu, Exit.thenS, Array.replicate]
  simp [go_sem] at h
  rw [h]
  cases c₀
  simp_all [bodyPostS, results, Tryz.results20, Result.andThen]
theorem caught49 : Caught Tryz.prog 20 25 79 := ⟨caught_idle, fun b o c w => ⟨_, fun w2 h => caught_falls b o c w w2 h⟩⟩
end Go.Vi
namespace Go.Vi
open Go Go.Proofs

theorem drop_cons {α : Type} {l r : List α} {x : α} {i : Nat} (h : l.drop i = x :: r) : l[i]? = some x ∧ l.drop (i + 1) = r ∧ i < l.length := by
  have hi : i < l.length := by
    rcases Nat.lt_or_ge i l.length with h1 | h1
    · exact h1
    · rw [List.drop_eq_nil_of_le h1] at h; cases h
  rw [List.drop_eq_getElem_cons hi] at h
  injection h with h1 h2
  exact ⟨by rw [List.getElem?_eq_getElem hi, h1], h2, hi⟩
theorem drop_nil' {α : Type} {l : List α} {i : Nat} (h : l.drop i = []) : l.length ≤ i := List.drop_eq_nil_iff.1 h
theorem wsucc {i n : Nat} (h : i < n) (hn : n ≤ 1000000) : IntKind.i64.wrap ((i:Int) + 1) = ((i + 1 : Nat) : Int) := by rw [wrap_id] <;> omega
theorem ilt {i n : Nat} (h : i < n) : ((i:Int) < (n:Int)) = True := by simp; omega
theorem inlt {i n : Nat} (h : n ≤ i) : ((i:Int) < (n:Int)) = False := by simp; omega
theorem I_inj {a b : Int} (h : I a = I b) : a = b := by injection h
theorem mapI_inj : ∀ {a b : List Int}, a.map I = b.map I → a = b
  | [], [], _ => rfl
  | [], _ :: _, h => by cases h
  | _ :: _, [], h => by cases h
  | x :: r, y :: q, h => by
    simp only [List.map_cons] at h
    injection h with h1 h2
    rw [I_inj h1, mapI_inj h2]
theorem Is_inj {a b : List Int} (h : Is a = Is b) : a = b := by injection h with h; exact mapI_inj h
theorem cans_I : ∀ l : List Int, cans (l.map I) = l.map I
  | [] => rfl
  | x :: r => by simp only [List.map_cons, cans, can, cans_I r]
theorem take_len {α β : Type} (f : α → β) (l : List α) : (l.map f).take l.length = l.map f := by
  rw [← List.length_map (f := f), List.take_length]
theorem getI {l : List Int} {i : Nat} (h : i < l.length) : l[i]? = some (l.getD i 0) := by simp [List.getD, h]
theorem setI (l : List Int) (i : Nat) (x : Int) : (l.map I).set i (I x) = (l.set i x).map I := by simp
theorem shI : ∀ l : List Int, sharesL (l.map I) = false
  | [] => rfl
  | x :: r => by simp only [List.map_cons, sharesL, shares, shI r, Bool.or_false]
theorem take_of {n : Nat} (l : List Int) (h : l.length = n) : List.take n (l.map I) = l.map I := by
  subst h; exact take_len I l
def idxF {α : Type} (p : α → Bool) : List α → Nat → Int
  | [], _ => -1
  | x :: r, i => if p x then (i : Int) else idxF p r (i + 1)
theorem idx_any' {α : Type} (p : α → Bool) : ∀ (l : List α) (i : Nat), decide (idxF p l i ≥ 0) = l.any p
  | [], i => rfl
  | x :: r, i => by
    by_cases hp : p x = true
    · have e : idxF p (x :: r) i = (i : Int) := by simp only [idxF, if_pos hp]
      rw [e, List.any_cons, hp]; simp
    · have hp' : p x = false := by simpa using hp
      have e : idxF p (x :: r) i = idxF p r (i + 1) := by simp only [idxF, if_neg hp]
      rw [e, List.any_cons, hp', Bool.false_or]; exact idx_any' p r (i + 1)
theorem idx_any {α : Type} (p : α → Bool) (l : List α) : decide (idxF p l 0 ≥ 0) = l.any p := idx_any' p l 0
theorem canI (n : Int) : can (I n) = I n := rfl
theorem canIs (l : List Int) : can (Is l) = Is l := by simp only [can, cans_I]
theorem two_inj {α β : Type} {e : α → V} {f : β → V} (he : ∀ a b, e a = e b → a = b) (hf : ∀ a b, f a = f b → a = b) : ∀ a b : α × β, [e a.1, f a.2] = [e b.1, f b.2] → a = b := fun a b h => by
  injection h with h1 h2; injection h2 with h2; exact Prod.ext (he _ _ h1) (hf _ _ h2)
theorem one_inj' {α : Type} {e : α → V} (he : ∀ a b, e a = e b → a = b) : ∀ a b : α, [e a] = [e b] → a = b := fun a b h => he a b (by injection h)
theorem pureLI (l : List Int) : pureRL (l.map I) = true := by
  induction l with
  | nil => rfl
  | cons x r ih => simp only [List.map_cons, pureRL, pureR, ih, Bool.and_self]
theorem onone {α β : Type} (f : α → β) : Option.map f none = none := rfl
theorem refsI : ∀ xs : List Int, refsL (xs.map I) = []
  | [] => rfl
  | x :: r => by simp only [List.map_cons, refsL, refs, refsI r, List.append_nil]
theorem import_I {E : Env} {d : Nat} : ∀ (l : List Int) (j : Nat) (s : St), importL E d j (l.map I) s = (l.map I, s)
  | [], _, _ => rfl
  | x :: r, j, s => by simp only [List.map_cons, importL, import1, import_I r]
theorem allflatI (l : List Int) : (l.map I).all flatR = true := by simp [flatR]
/-! ### Tables of answers and panics -/
def tabT : List (FuncId × (List V → Option COut)) → FuncId → Option (List V → Option COut)
  | [], _ => none
  | (q, F) :: r, g => if g = q then some F else tabT r g
theorem tabT_nil {g} : tabT [] g = none := rfl
theorem tabT_cons {q F r g} : tabT ((q, F) :: r) g = if g = q then some F else tabT r g := rfl
theorem tabs_nil {P : Program} : SoundTab P (tabT []) := fun g F args v h => by cases h
theorem tabs_cons {P : Program} {q : FuncId} {F : List V → Option COut} {r} (h : ∀ args v, F args = some v → SoundPure P q args v) (hr : SoundTab P (tabT r)) : SoundTab P (tabT ((q, F) :: r)) := by
  intro g F' args v hg hv
  simp only [tabT] at hg
  split at hg
  · injection hg with hg
    subst hg
    rename_i e
    subst e
    exact h args v hv
  · exact hr g F' args v hg hv
def CT (E : Env) (d : Nat) (all : List V) (s : St) : Option COut → Option Res
  | some (.ret v) => CR E d all s (some v)
  | some (.pan v) => if (pureR v && !shares v) = true then some (.pan v s) else none
  | none => none
theorem CT_ret {E d all s v} : CT E d all s (some (.ret v)) = CR E d all s (some v) := rfl
theorem CT_pan {E d all s v} : CT E d all s (some (.pan v)) = if (pureR v && !shares v) = true then some (.pan v s) else none := rfl
theorem callV_t {T : FuncId → Option (List V → Option COut)} {base : CallFn} {E : Env} {H : FuncId → Option (List V → Option V)} {d : Nat} {g : FuncId} {first caps args : List V} {s : St} (hg : E.ok.contains g = true) (hi : E.imp = []) (hC : H g = none) (hT : (T g).isSome = true) (hp : (frzs E s (first ++ args ++ caps)).isSome = true) (hq : pureRL ((frzs E s (first ++ args ++ caps)).getD []) = true) :
    callV (withT T base) E H d (.fn (.func g) first caps) args s = CT E d (first ++ args ++ caps) s (((T g).getD fun _ => none) ((frzs E s (first ++ args ++ caps)).getD [])) := by
  obtain ⟨F, hF⟩ := Option.isSome_iff_exists.1 hT
  obtain ⟨p, hP⟩ := Option.isSome_iff_exists.1 hp
  rw [hP] at hq
  unfold callV
  simp only [hg, if_true, hi, List.contains_nil, Bool.false_eq_true, if_false, hC, hP, hF, withT, Option.getD_some]
  simp only [Option.getD_some] at hq
  rw [if_pos ⟨trivial, trivial, hq⟩]
  cases hFp : F p with
  | none => rfl
  | some o =>
    cases o with
    | ret v => simp only [Option.map_some, CT, CR, CD]
    | pan v => simp only [Option.map_some, CT]
/-- Machines with tables. -/
theorem vmt : (type_of% @tm_E) ∧ (type_of% @tm_C) ∧ (type_of% @tm_fuel) ∧ (type_of% @tm_call) ∧ (type_of% @callV_t) ∧ (type_of% @CT_ret) ∧ (type_of% @CT_pan) ∧ (type_of% @tabT_cons) ∧ (type_of% @tabT_nil) :=
  ⟨@tm_E, @tm_C, @tm_fuel, @tm_call, @callV_t, @CT_ret, @CT_pan, @tabT_cons, @tabT_nil⟩
open Classical in
/-- A function's outcomes: at arguments of one form, under a condition. -/
noncomputable def hO {α : Type} (enc : α → List V) (ok : α → Prop) (out : α → COut) : List V → Option COut :=
  fun args => if h : ∃ a, cans args = enc a ∧ ok a then some (out h.choose) else none
theorem hO_eq {α : Type} {enc : α → List V} {ok : α → Prop} {out : α → COut} {args : List V} {a : α} (hi : ∀ a b, enc a = enc b → a = b) (h : cans args = enc a) (hk : ok a) : hO enc ok out args = some (out a) := by
  have hx : ∃ a, cans args = enc a ∧ ok a := ⟨a, h, hk⟩
  unfold hO
  rw [dif_pos hx]
  congr 2
  exact (hi _ _ (h.symm.trans hx.choose_spec.1)).symm
theorem hO_sound {P : Program} {g : FuncId} {α : Type} {enc : α → List V} {ok : α → Prop} {out : α → COut} (h : ∀ a, ok a → SoundPure P g (enc a) (out a)) : ∀ args v, hO enc ok out args = some v → SoundPure P g args v := by
  intro args v hv
  unfold hO at hv
  split at hv
  · rename_i hx
    injection hv with hv
    subst hv
    have := h _ hx.choose_spec.2
    rw [← hx.choose_spec.1] at this
    exact sound_can this
  · cases hv
theorem Str_inj {a b : List UInt8} (h : V.str a = V.str b) : a = b := by injection h
theorem canStr (s : List UInt8) : can (.str s) = .str s := rfl
abbrev U8s (l : List UInt8) : V := .lst (l.map fun u => V.int .u8 u.toNat)
end Go.Vi
set_option maxRecDepth 100000
set_option maxHeartbeats 1000000
namespace Go.Vi
open Go Go.Proofs

theorem room3 {n : Nat} (h : n ≤ 10000000) : roomOk Tryz.prog 3 n = true := by
  simp [roomOk, ty, cellsV, leafV]; omega
theorem fitsI (n : Int) : fitsE Tryz.prog 3 (I n) = true := by simp [fitsE, ty, leafV]
theorem allfitsI (l : List Int) : (l.map I).all (fitsE Tryz.prog 3) = true := by simp [fitsI]
/-! ### trim -/
theorem l63 {H n k out} : ∀ (m : Nat) (l : List Int) n' s, l.length = m → m ≤ 1000000 → m < n' → tget s.τ 0 = Is l →
    (∀ s', tget s'.τ 0 = Is (trimL l) → Fin (M63 H n) [.tmp 2] (X (M63 H n) (.exit 0) k s') = out) →
    Fin (M63 H n) [.tmp 2] (L (M63 H n) (sub [1, 0, 0, 0] c63) n' k s) = out
  | m, l, n' + 1, s, hm, hb, hn, h0, hx => by
    rcases List.eq_nil_or_concat l with rfl | ⟨q, x, rfl⟩
    · rw [L_succ]
      have hc : ((0 : Int) > 0) = False := by decide
      simp only [vmr, vmw, vmp, vza, ↓reduceIte, Nat.reduceBEq, Nat.reduceLT, Nat.reduceAdd, Nat.reduceEqDiff, reduceCtorEq, vmt, vzb, vzc, vlen, vleaf, velems, oks, vst, vmd, ty, Nat.reduceLeDiff, Nat.reduceMul, Nat.reduceSub, c63, Tryz.f35, m63, h0, hc]
      refine hx _ ?_
      simp only [vmr, vmw, vmp, vza, ↓reduceIte, Nat.reduceBEq, Nat.reduceLT, Nat.reduceAdd, Nat.reduceEqDiff, reduceCtorEq, vmt, vzb, vzc, vlen, vleaf, velems, oks, vst, vmd, ty, Nat.reduceLeDiff, Nat.reduceMul, Nat.reduceSub, m63, h0, trimL]
    · rw [List.concat_eq_append] at hm h0 hx
      have hl : ((q ++ [x]).map I).length = q.length + 1 := by simp
      have hg : ((q ++ [x]).map I)[q.length]? = some (I x) := by simp
      have ht : ((q ++ [x]).map I).take q.length = q.map I := by simp
      have hc : (((q.length + 1 : Nat) : Int) > 0) = True := eq_true (by omega)
      have hq1 : q.length + 1 = m := by simpa using hm
      have hw : IntKind.i64.wrap (((q.length + 1 : Nat) : Int) - 1) = ((q.length : Nat) : Int) := by rw [wrap_id] <;> omega
      have hle : (q.length ≤ q.length + 1) = True := eq_true (by omega)
      have ih := fun s => @l63 H n k out q.length q n' s rfl (by omega) (by omega)
      replace h0 : tget s.τ 0 = .lst ((q ++ [x]).map I) := h0
      generalize hv : (q ++ [x]).map I = vl at h0 hl hg ht
      simp only [sub, c63, Tryz.f35, gets] at ih
      rw [L_succ]
      by_cases hx0 : x = 0
      · subst hx0
        rw [trimL_append, if_pos rfl] at hx
        have z : ((0:Int) == 0) = true := rfl
        simp only [vmr, vmw, vmp, vza, ↓reduceIte, Nat.reduceBEq, Nat.reduceLT, Nat.reduceAdd, Nat.reduceEqDiff, reduceCtorEq, vmt, vzb, vzc, vlen, vleaf, velems, oks, vst, vmd, ty, Nat.reduceLeDiff, Nat.reduceMul, Nat.reduceSub, c63, Tryz.f35, m63, h0, hl, hg, ht, hc, hw, z, hle, sliceA, sliceV, boundOf, onone, firstFits, Nat.sub_zero]
        refine ih _ ?_ hx
        simp only [vmr, vmw, vmp, vza, ↓reduceIte, Nat.reduceBEq, Nat.reduceLT, Nat.reduceAdd, Nat.reduceEqDiff, reduceCtorEq, vmt, vzb, vzc, vlen, vleaf, velems, oks, vst, vmd, ty, Nat.reduceLeDiff, Nat.reduceMul, Nat.reduceSub, m63]
      · rw [trimL_append, if_neg hx0] at hx
        have z : (x == 0) = false := by simpa using hx0
        simp only [vmr, vmw, vmp, vza, ↓reduceIte, Nat.reduceBEq, Nat.reduceLT, Nat.reduceAdd, Nat.reduceEqDiff, reduceCtorEq, vmt, vzb, vzc, vlen, vleaf, velems, oks, vst, vmd, ty, Nat.reduceLeDiff, Nat.reduceMul, Nat.reduceSub, c63, Tryz.f35, m63, h0, hl, hg, ht, hc, hw, z]
        refine hx _ ?_
        simp only [vmr, vmw, vmp, vza, ↓reduceIte, Nat.reduceBEq, Nat.reduceLT, Nat.reduceAdd, Nat.reduceEqDiff, reduceCtorEq, vmt, vzb, vzc, vlen, vleaf, velems, oks, vst, vmd, ty, Nat.reduceLeDiff, Nat.reduceMul, Nat.reduceSub, m63, h0]
        exact congrArg V.lst hv.symm
theorem w63 (l : List Int) (hb : l.length ≤ 1000000) : SoundPure Tryz.prog 35 [Is l] (.ret (Is (trimL l))) := by
  refine s63 sound_nil (l.length + 1) (by simp) (by simp only [pureR, pureLI]) ?_
  have a1 := fun k out => @l63 (hand []) (l.length + 1) k out l.length l (l.length + 1)
  simp only [sub, c63, Tryz.f35, gets] at a1 ⊢
  simp only [vmr, vmw, vmp, vza, ↓reduceIte, Nat.reduceBEq, Nat.reduceLT, Nat.reduceAdd, Nat.reduceEqDiff, reduceCtorEq, vmt, vzb, vzc, vlen, vleaf, velems, oks, vst, vmd, ty, Nat.reduceLeDiff, Nat.reduceMul, Nat.reduceSub, m63]
  refine a1 _ _ _ trivial hb (by omega) ?_ (fun s' h0 => ?_)
  case refine_2 => simp only [vmr, vmw, vmp, vza, ↓reduceIte, Nat.reduceBEq, Nat.reduceLT, Nat.reduceAdd, Nat.reduceEqDiff, reduceCtorEq, vmt, vzb, vzc, vlen, vleaf, velems, oks, vst, vmd, ty, Nat.reduceLeDiff, Nat.reduceMul, Nat.reduceSub, vzr, m63, h0, allflatI]
  simp only [vmr, vmw, vmp, vza, ↓reduceIte, Nat.reduceBEq, Nat.reduceLT, Nat.reduceAdd, Nat.reduceEqDiff, reduceCtorEq, vmt, vzb, vzc, vlen, vleaf, velems, oks, vst, vmd, ty, Nat.reduceLeDiff, Nat.reduceMul, Nat.reduceSub, m63]
noncomputable def F63 : List V → Option V := hF (α := List Int) (fun a => [Is a]) (fun a => a.length ≤ 1000000) (fun a => Is (trimL a))
theorem F63_eq {l : List Int} (hb : l.length ≤ 1000000) : F63 [Is l] = some (Is (trimL l)) := hF_eq (a := l) (one_inj' fun _ _ => Is_inj) (by simp only [cans, canIs]) hb
/-! ### at -/
theorem w84 (l : List Int) (i : Nat) : SoundPure Tryz.prog 54 [Is l, I i] (.ret (I (l.getD i 0))) := by
  refine s84 sound_nil 1 (by simp) rfl ?_
  simp only [c84, Tryz.f54, gets]
  by_cases h : i < l.length
  · have hc := ilt h
    have hg := getI h
    simp only [vmr, vmw, vmp, vza, ↓reduceIte, Nat.reduceBEq, Nat.reduceLT, Nat.reduceAdd, Nat.reduceEqDiff, reduceCtorEq, vmt, vzb, vzc, vlen, vleaf, velems, oks, vst, vmd, ty, Nat.reduceLeDiff, Nat.reduceMul, Nat.reduceSub, vzr, m84, hc, hg]
  · have hc := inlt (n := l.length) (i := i) (by omega)
    have hg : l.getD i 0 = 0 := by simp [List.getD, List.getElem?_eq_none (show l.length ≤ i by omega)]
    simp only [vmr, vmw, vmp, vza, ↓reduceIte, Nat.reduceBEq, Nat.reduceLT, Nat.reduceAdd, Nat.reduceEqDiff, reduceCtorEq, vmt, vzb, vzc, vlen, vleaf, velems, oks, vst, vmd, ty, Nat.reduceLeDiff, Nat.reduceMul, Nat.reduceSub, vzr, m84, hc, hg]
noncomputable def F84 : List V → Option V := hF (α := List Int × Nat) (fun a => [Is a.1, I (a.2 : Nat)]) (fun a => True) (fun a => I (a.1.getD a.2 0))
theorem natI_inj {a b : Nat} (h : I (a : Nat) = I (b : Nat)) : a = b := by have := I_inj h; omega
theorem F84_eq (l : List Int) (i : Nat) : F84 [Is l, I (i : Nat)] = some (I (l.getD i 0)) := hF_eq (a := (l, i)) (two_inj (fun _ _ => Is_inj) (fun _ _ => natI_inj)) (by simp only [cans, canIs, canI]) trivial

/-! ### sign -/
def sgn (n : Int) : Int := if n < 0 then -1 else if n = 0 then 0 else 1
theorem w88 (n : Int) : SoundPure Tryz.prog 78 [I n] (.ret (I (sgn n))) := by
  refine s88 sound_nil 1 (by simp) rfl ?_
  simp only [c88, Tryz.f78, gets]
  simp only [vmr, vmw, vmp, vza, ↓reduceIte, Nat.reduceBEq, Nat.reduceLT, Nat.reduceAdd, Nat.reduceEqDiff, reduceCtorEq, vmt, vzb, vzc, vlen, vleaf, velems, oks, vst, vmd, ty, Nat.reduceLeDiff, Nat.reduceMul, Nat.reduceSub, vzr, m88, maxL, minL]
  congr 3
  unfold sgn
  repeat' split
  all_goals omega

/-! ### ask -/
abbrev fault (e : Int) : V := .iface 79 (.agg [I e])
theorem w51 (b : Bool) (e : Int) : SoundPure Tryz.prog 22 [.bool b, I e] (if b = true then .ret (.tup []) else .pan (fault e)) := by
  cases b
  · refine s51 sound_nil 1 (by simp) rfl ?_
    simp only [c51, Tryz.f22, gets]
    simp only [vmr, vmw, vmp, vza, ↓reduceIte, Nat.reduceBEq, Nat.reduceLT, Nat.reduceAdd, Nat.reduceEqDiff, reduceCtorEq, vmt, vzb, vzc, vlen, vleaf, velems, oks, vst, vmd, ty, Nat.reduceLeDiff, Nat.reduceMul, Nat.reduceSub, vzr, m51]
  · refine s51 sound_nil 1 (by simp) rfl ?_
    simp only [c51, Tryz.f22, gets]
    simp only [vmr, vmw, vmp, vza, ↓reduceIte, Nat.reduceBEq, Nat.reduceLT, Nat.reduceAdd, Nat.reduceEqDiff, reduceCtorEq, vmt, vzb, vzc, vlen, vleaf, velems, oks, vst, vmd, ty, Nat.reduceLeDiff, Nat.reduceMul, Nat.reduceSub, vzr, m51]

/-! ### signed -/
abbrev Z (b : Bool) (l : List Int) : V := .agg [.bool b, Is l]
theorem w53 (l : List Int) (b : Bool) : SoundPure Tryz.prog 45 [Is l, .bool b] (.ret (Z (b && decide (0 < l.length)) l)) := by
  refine s53 sound_nil 1 (by simp) (by simp only [pureR, pureRL, pureLI, Bool.and_self]) ?_
  simp only [c53, Tryz.f45, gets]
  cases b
  · simp only [vmr, vmw, vmp, vza, ↓reduceIte, Nat.reduceBEq, Nat.reduceLT, Nat.reduceAdd, Nat.reduceEqDiff, reduceCtorEq, vmt, vzb, vzc, vlen, vleaf, velems, oks, vst, vmd, ty, Nat.reduceLeDiff, Nat.reduceMul, Nat.reduceSub, vzr, m53]
  · simp only [vmr, vmw, vmp, vza, ↓reduceIte, Nat.reduceBEq, Nat.reduceLT, Nat.reduceAdd, Nat.reduceEqDiff, reduceCtorEq, vmt, vzb, vzc, vlen, vleaf, velems, oks, vst, vmd, ty, Nat.reduceLeDiff, Nat.reduceMul, Nat.reduceSub, vzr, m53]
    by_cases h : 0 < l.length <;> simp [Z, h] <;> omega
theorem sgnI {a b : Nat} : sgn ((a : Int) - (b : Int)) = if a < b then -1 else if a = b then 0 else 1 := by
  unfold sgn
  repeat' split
  all_goals omega
/-! ### Clone -/
theorem eql61 (ao : Option Addr) (cap : Nat) (w : World) : (binOp .eql 43 (.slice ao 0 cap) (.slice none 0 0)).run Tryz.prog w = .ok (.bool ao.isNone) w := by
  cases ao <;> rfl
theorem app61 (a : Addr) (ao : Option Addr) (cap : Nat) (w : World) : (Builtin.append_ #[43, 43] 43 #[.slice (some a) 0 0, .slice ao 0 cap]).run Tryz.prog w = .ok (.slice (some a) 0 0) w := by
  cases ao <;> rfl
theorem w62n (ao : Option Addr) (cap : Nat) (w : World) : Calls Tryz.prog 60 #[.slice ao 0 cap] w fun e w' => (∃ ao', e = .returned (.slice ao' 0 0)) ∧ (w' = w ∨ ∃ o, w' = w.alloc o) := by
  have h1 := eql61 ao cap
  have h2 := fun a => app61 a ao cap
  rcases ao with _ | a
  all_goals
    go_enter Tryz.func60, Tryz.ntmps60
    go_wp2
  · go_ret
    exact ⟨⟨_, rfl⟩, .inl rfl⟩
  · go_ret
    exact ⟨⟨_, rfl⟩, .inr ⟨_, rfl⟩⟩
theorem w62 (l : List Int) (hb : l.length ≤ 1000000) : SoundPure Tryz.prog 60 [Is l] (.ret (Is l)) := by
  rcases l with _ | ⟨x, l⟩
  · intro w A cs hJ hA hp
    simp only [PCs, PC, List.map_nil, List.length_nil] at hp
    obtain ⟨c, d, e, ⟨ao, cap, rfl, _, hcap, _⟩, rfl⟩ := hp
    obtain rfl : cs = #[.slice ao 0 cap] := by cases cs; simp_all
    refine (w62n ao cap w).mono ?_
    rintro e w' ⟨⟨ao', rfl⟩, hw⟩
    have t : Tr w A noB 0 noH w' A noB 0 noH ∧ w.heap.size ≤ w'.heap.size := by
      rcases hw with rfl | ⟨o, rfl⟩
      · exact ⟨Tr.refl .., Nat.le_refl _⟩
      · exact ⟨((HR.empty hJ hA).push pushed_alloc).2, by have := (pushed_alloc (w := w) (o := o)).size; omega⟩
    refine ⟨A, t.1, fun b hb => Nat.lt_of_lt_of_le (hA b hb) t.2, _, [], rfl, ?_, fun i hi => (by cases hi), List.Pairwise.nil⟩
    simp only [RC, IC, PC, List.map_nil, List.length_nil]
    exact ⟨trivial, ao', 0, rfl, Nat.le_refl _, by omega, fun h => absurd rfl h⟩
  · have key : SoundPure Tryz.prog 60 [Is (x :: l)] (.ret (.own 1 ((x :: l).map I))) := by
      refine s62 sound_nil 1 (by simp) rfl ?_
      simp only [c62, Tryz.f60, gets]
      simp only [List.length_cons] at hb
      have hr := @room3 (l.length + 1) (by omega)
      have hr0 := @room3 0 (by omega)
      simp only [vmr, vmw, vmp, vza, ↓reduceIte, Nat.reduceBEq, Nat.reduceLT, Nat.reduceAdd, Nat.reduceEqDiff, reduceCtorEq, vmt, vzb, vzc, vlen, vleaf, velems, oks, vst, vmd, ty, Nat.reduceLeDiff, Nat.reduceMul, Nat.reduceSub, vzr, m62, hr, hr0, List.map_cons, allfitsI, fitsI, take_len]
    have := sound_imm key rfl
    simp only [imm, can, cans_I] at this
    exact this
/-! ### compare -/
def cmpL : Nat → List Int → List Int → Int
  | 0, _, _ => 0
  | i + 1, a, b => if a.getD i 0 = b.getD i 0 then cmpL i a b else sgn (a.getD i 0 - b.getD i 0)
def cmpF (a b : List Int) : Int := if a.length = b.length then cmpL a.length a b else sgn ((a.length : Int) - b.length)
noncomputable def F88 : List V → Option V := hF (α := Int) (fun a => [I a]) (fun a => True) (fun a => I (sgn a))
theorem F88_eq (n : Int) : F88 [I n] = some (I (sgn n)) := hF_eq (a := n) (one_inj' fun _ _ => I_inj) (by simp only [cans, canI]) trivial
noncomputable def F62 : List V → Option V := hF (α := List Int) (fun a => [Is a]) (fun a => a.length ≤ 1000000) (fun a => Is a)
theorem F62_eq {l : List Int} (hb : l.length ≤ 1000000) : F62 [Is l] = some (Is l) := hF_eq (a := l) (one_inj' fun _ _ => Is_inj) (by simp only [cans, canIs]) hb
theorem bool_inj {a b : Bool} (h : V.bool a = V.bool b) : a = b := by injection h
theorem canBool (b : Bool) : can (.bool b) = .bool b := rfl
noncomputable def F53 : List V → Option V := hF (α := List Int × Bool) (fun a => [Is a.1, .bool a.2]) (fun a => True) (fun a => Z (a.2 && decide (0 < a.1.length)) a.1)
theorem F53_eq (l : List Int) (b : Bool) : F53 [Is l, .bool b] = some (Z (b && decide (0 < l.length)) l) := hF_eq (a := (l, b)) (two_inj (fun _ _ => Is_inj) (fun _ _ => bool_inj)) (by simp only [cans, canIs, canBool]) trivial
noncomputable def F51 : List V → Option COut := hO (α := Bool × Int) (fun a => [.bool a.1, I a.2]) (fun a => True) (fun a => if a.1 = true then .ret (.tup []) else .pan (fault a.2))
theorem F51_eq (b : Bool) (e : Int) : F51 [.bool b, I e] = some (if b = true then .ret (.tup []) else .pan (fault e)) := hO_eq (a := (b, e)) (two_inj (fun _ _ => bool_inj) (fun _ _ => I_inj)) (by simp only [cans, canBool, canI]) trivial
noncomputable abbrev T61 : List (FuncId × (List V → Option V)) := (78, F88) :: []
theorem hT61 : SoundHand Tryz.prog (hand T61) := sound_cons (hF_sound fun a _ => w88 a) sound_nil
theorem l61 {n k out} (a b : List Int) (hl : a.length = b.length) (hb : a.length ≤ 1000000) (ha : ∀ x ∈ a, 0 ≤ x ∧ x ≤ 10000) (hbb : ∀ x ∈ b, 0 ≤ x ∧ x ≤ 10000) : ∀ i n' s, i ≤ a.length → i < n' → tget s.τ 0 = Is a → tget s.τ 1 = Is b → tget s.τ 5 = I ((i : Int) - 1) →
    (cmpL i a b = 0 → ∀ s', Fin (M61 (hand T61) n) [.tmp 4] (X (M61 (hand T61) n) (.exit 0) k s') = some (.ret (I 0))) → out = some (.ret (I (cmpL i a b))) →
    Fin (M61 (hand T61) n) [.tmp 4] (L (M61 (hand T61) n) (sub [1, 1, 0, 1, 0, 0] c61) n' k s) = out
  | 0, n' + 1, s, hi, hn, h0, h1, h5, hx, ho => by
    have e5 : (((0 : Nat) : Int) - 1) = -1 := rfl
    rw [e5] at h5
    have hc : ((-1 : Int) ≥ 0) = False := by decide
    have h := hx rfl
    rw [L_succ, ho]
    simp only [vmr, vmw, vmp, vza, ↓reduceIte, Nat.reduceBEq, Nat.reduceLT, Nat.reduceAdd, Nat.reduceEqDiff, reduceCtorEq, vmt, vzb, vzc, vlen, vleaf, velems, oks, vst, vmd, ty, Nat.reduceLeDiff, Nat.reduceMul, Nat.reduceSub, c61, Tryz.f59, m61, h5, hc, h, cmpL]
  | i + 1, n' + 1, s, hi, hn, h0, h1, h5, hx, ho => by
    have e5 : (((i + 1 : Nat) : Int) - 1) = (i : Int) := by omega
    rw [e5] at h5
    have hga := getI (l := a) (i := i) (by omega)
    have hgb := getI (l := b) (i := i) (by omega)
    have hw : IntKind.i64.wrap ((i : Int) - 1) = (i : Int) - 1 := by rw [wrap_id] <;> omega
    have hs : calm (M61 (hand T61) n).E (opsAt (sub [1, 1, 0, 1, 0, 0, 1, 0, 0, 0] c61)) = true := by kernel_rfl
    have hs2 : calm (M61 (hand T61) n).E (opsAt (sub [1, 1, 0, 1, 0, 0, 1, 0, 0, 1, 0, 0] c61)) = true := by kernel_rfl
    have ih := fun s => @l61 n k out a b hl hb ha hbb i n' s (by omega) (by omega)
    simp only [sub, c61, Tryz.f59, gets, opsAt] at hs hs2 ih
    simp only [cmpL] at hx ho
    rw [L_succ]
    by_cases q : a.getD i 0 = b.getD i 0
    · rw [if_pos q] at hx ho
      have q' : (a.getD i 0 != b.getD i 0) = false := by rw [q]; exact bne_self_eq_false _
      simp only [vmr, vmw, vmp, vza, ↓reduceIte, Nat.reduceBEq, Nat.reduceLT, Nat.reduceAdd, Nat.reduceEqDiff, reduceCtorEq, vmt, vzb, vzc, vlen, vleaf, velems, oks, vst, vmd, ty, Nat.reduceLeDiff, Nat.reduceMul, Nat.reduceSub, c61, Tryz.f59, m61, h0, h1, h5, hga, hgb, hw, hs, q']
      refine ih _ ?_ ?_ ?_ hx ho
      all_goals simp only [vmr, vmw, vmp, vza, ↓reduceIte, Nat.reduceBEq, Nat.reduceLT, Nat.reduceAdd, Nat.reduceEqDiff, reduceCtorEq, vmt, vzb, vzc, vlen, vleaf, velems, oks, vst, vmd, ty, Nat.reduceLeDiff, Nat.reduceMul, Nat.reduceSub, m61, h0, h1]
    · rw [if_neg q] at ho
      have q' : (a.getD i 0 != b.getD i 0) = true := bne_iff_ne.2 q
      have b1 := ha _ (List.mem_of_getElem? hga)
      have b2 := hbb _ (List.mem_of_getElem? hgb)
      have hw2 : IntKind.i64.wrap (a.getD i 0 - b.getD i 0) = a.getD i 0 - b.getD i 0 := by rw [wrap_id] <;> omega
      rw [ho]
      simp only [vmr, vmw, vmp, vza, ↓reduceIte, Nat.reduceBEq, Nat.reduceLT, Nat.reduceAdd, Nat.reduceEqDiff, reduceCtorEq, vmt, vzb, vzc, vlen, vleaf, velems, oks, vst, vmd, ty, Nat.reduceLeDiff, Nat.reduceMul, Nat.reduceSub, vzr, c61, Tryz.f59, m61, h0, h1, h5, hga, hgb, hw, hs, hs2, q', hw2, F88_eq]
theorem w61 (a b : List Int) (hb : a.length ≤ 1000000) (hb2 : b.length ≤ 1000000) (ha : ∀ x ∈ a, 0 ≤ x ∧ x ≤ 10000) (hbb : ∀ x ∈ b, 0 ≤ x ∧ x ≤ 10000) : SoundPure Tryz.prog 59 [Is a, Is b] (.ret (I (cmpF a b))) := by
  refine s61 hT61 (a.length + 1) (by simp) rfl ?_
  unfold cmpF
  by_cases hl : a.length = b.length
  · have q : ((a.length : Int) != (b.length : Int)) = false := by simp [hl]
    have hw : IntKind.i64.wrap ((a.length : Int) - 1) = (a.length : Int) - 1 := by rw [wrap_id] <;> omega
    rw [if_pos hl]
    have a1 := fun k out => @l61 (a.length + 1) k out a b hl hb ha hbb a.length (a.length + 1)
    simp only [sub, c61, Tryz.f59, gets] at a1 ⊢
    simp only [vmr, vmw, vmp, vza, ↓reduceIte, Nat.reduceBEq, Nat.reduceLT, Nat.reduceAdd, Nat.reduceEqDiff, reduceCtorEq, vmt, vzb, vzc, vlen, vleaf, velems, oks, vst, vmd, ty, Nat.reduceLeDiff, Nat.reduceMul, Nat.reduceSub, m61, q, hw]
    refine a1 _ _ _ (by omega) (by omega) ?_ ?_ ?_ ?_ rfl
    case refine_4 => intro h s'; simp only [vmr, vmw, vmp, vza, ↓reduceIte, Nat.reduceBEq, Nat.reduceLT, Nat.reduceAdd, Nat.reduceEqDiff, reduceCtorEq, vmt, vzb, vzc, vlen, vleaf, velems, oks, vst, vmd, ty, Nat.reduceLeDiff, Nat.reduceMul, Nat.reduceSub, vzr, m61]
    all_goals simp only [vmr, vmw, vmp, vza, ↓reduceIte, Nat.reduceBEq, Nat.reduceLT, Nat.reduceAdd, Nat.reduceEqDiff, reduceCtorEq, vmt, vzb, vzc, vlen, vleaf, velems, oks, vst, vmd, ty, Nat.reduceLeDiff, Nat.reduceMul, Nat.reduceSub, m61]
  · have q : ((a.length : Int) != (b.length : Int)) = true := by simp; omega
    have hw : IntKind.i64.wrap ((a.length : Int) - (b.length : Int)) = (a.length : Int) - (b.length : Int) := by rw [wrap_id] <;> omega
    rw [if_neg hl]
    simp only [c61, Tryz.f59, gets]
    simp only [vmr, vmw, vmp, vza, ↓reduceIte, Nat.reduceBEq, Nat.reduceLT, Nat.reduceAdd, Nat.reduceEqDiff, reduceCtorEq, vmt, vzb, vzc, vlen, vleaf, velems, oks, vst, vmd, ty, Nat.reduceLeDiff, Nat.reduceMul, Nat.reduceSub, vzr, m61, q, hw, F88_eq]
end Go.Vi
