/-
  Plain law: the text of an integer reads back as the integer.
-/
import Derived.Test.YtpdeblfnbcponaaDoorYF
set_option linter.unusedSimpArgs false
set_option linter.unusedVariables false
set_option maxRecDepth 100000
set_option maxHeartbeats 1000000
namespace Go.Vi
open Go Go.Proofs

abbrev dgt (d : Int) : UInt8 := UInt8.ofNat (48 + d.toNat)
theorem dgt_nat {d : Int} (h : 0 ≤ d ∧ d < 10) : (dgt d).toNat = 48 + d.toNat := by
  show (UInt8.ofNat (48 + d.toNat)).toNat = _
  rw [UInt8.toNat_ofNat']
  omega
theorem dg_dgt {d : Int} (h : 0 ≤ d ∧ d < 10) : ((dg (dgt d) : Nat) : Int) = d := by
  unfold dg
  rw [dgt_nat h]
  omega
theorem dig_dgt {d : Int} (h : 0 ≤ d ∧ d < 10) : isDig (dgt d) = true := by
  have := dgt_nat h
  simp only [isDig, Bool.and_eq_true, decide_eq_true_eq]
  omega
theorem dval_rev : ∀ l : List Int, (∀ x ∈ l, 0 ≤ x ∧ x < 10) → ((dval ((l.map dgt).reverse) : Nat) : Int) = valB 10 l
  | [], _ => rfl
  | x :: r, h => by
    have hx := h x (by simp)
    have ih := dval_rev r fun y hy => h y (List.mem_cons_of_mem _ hy)
    rw [List.map_cons, List.reverse_cons, dval_append, dval_one]
    have := dg_dgt hx
    simp only [List.length_cons, List.length_nil, valB]
    rw [← ih]
    omega
theorem txt_pos {n : Nat} (h : n ≠ 0) : txt n = ((lm 10 n).map dgt).reverse := by
  unfold txt
  rw [if_neg h]
theorem dval_txt (n : Nat) : dval (txt n) = n := by
  by_cases h : n = 0
  · subst h; rfl
  · rw [txt_pos h]
    have := dval_rev (lm 10 n) (fx_dig 10 (by omega) _ _)
    rw [valB_lm b10] at this
    omega
theorem dig_txt (n : Nat) : (txt n).all isDig = true := by
  by_cases h : n = 0
  · subst h; rfl
  · rw [txt_pos h, List.all_eq_true]
    intro u hu
    simp only [List.mem_reverse, List.mem_map] at hu
    obtain ⟨d, hd, rfl⟩ := hu
    exact dig_dgt (fx_dig 10 (by omega) _ _ d hd)
theorem head_txt {n : Nat} (h : n ≠ 0) : (txt n).head? ≠ some 48 := by
  rw [txt_pos h, List.head?_reverse]
  intro e
  have hl : 0 < (lm 10 n).length := by have := mt (lm_nil b10 n).1 h; omega
  rw [List.getLast?_eq_getElem?, List.getElem?_map, List.length_map, lm_get b10 n _ (by omega)] at e
  simp only [Option.map_some, Option.some.injEq] at e
  have hd : (0 : Int) ≤ ((n / 10 ^ ((lm 10 n).length - 1) % 10 : Nat) : Int) ∧ ((n / 10 ^ ((lm 10 n).length - 1) % 10 : Nat) : Int) < 10 := by
    have := Nat.mod_lt (n / 10 ^ ((lm 10 n).length - 1)) (show 0 < 10 by omega)
    omega
  have h2 := dgt_nat hd
  rw [e] at h2
  have h3 : n / 10 ^ ((lm 10 n).length - 1) % 10 = 0 := by
    have : (48 : UInt8).toNat = 48 := rfl
    omega
  have h4 := lm_lt b10 n
  have h5 : ¬ n < 10 ^ ((lm 10 n).length - 1) := fun h => by have := (lm_len_le b10 n _).2 h; omega
  have hP : 0 < 10 ^ ((lm 10 n).length - 1) := Nat.pow_pos (by omega)
  have h6 : n / 10 ^ ((lm 10 n).length - 1) < 10 := by
    rw [Nat.div_lt_iff_lt_mul hP, Nat.mul_comm, ← Nat.pow_succ, show ((lm 10 n).length - 1).succ = (lm 10 n).length by omega]
    exact h4
  have h7 := Nat.div_pos (show 10 ^ ((lm 10 n).length - 1) ≤ n by omega) hP
  omega
set_option exponentiation.threshold 500000 in
theorem validT_txt {n : Nat} (h : n ≠ 0) (hs : n < 10 ^ 500) : validT (txt n) = true := by
  have h1 := of_decide_eq_true ((fitB_iff n).2 hs)
  have h2 : txt n ≠ [] := by
    intro e
    have := txt_len n
    rw [e, if_neg h] at this
    have h3 := mt (lm_nil b10 n).1 h
    rw [List.length_nil] at this
    omega
  unfold validT
  rw [dig_txt, decide_eq_false (by omega)]
  have h3 := head_txt h
  simp [h2, h3]
set_option exponentiation.threshold 500000 in
/-- The text of an integer of at most 500 digits is accepted, and reads as it. -/
theorem read_itxt {z : Int} (hs : small z) : validB (itxt z) = true ∧ ival (itxt z) = z := by
  by_cases h0 : z = 0
  · subst h0
    exact ⟨rfl, rfl⟩
  · have hn : z.natAbs ≠ 0 := by omega
    have hv := validT_txt hn hs
    have hd := dval_txt z.natAbs
    by_cases hz : z < 0
    · have e : itxt z = 45 :: txt z.natAbs := by unfold itxt; rw [if_pos hz]
      have hp : preB (45 :: txt z.natAbs) [45] = true := by simp [preB]
      have hdr : dropB (45 :: txt z.natAbs) [45] = txt z.natAbs := by unfold dropB; rw [if_pos hp]; rfl
      rw [e]
      refine ⟨?_, ?_⟩
      · unfold validB
        rw [hdr, hv, Bool.or_true]
      · unfold ival
        rw [hdr, hp, if_pos rfl, hd]
        omega
    · have e : itxt z = txt z.natAbs := by unfold itxt; rw [if_neg hz]
      obtain ⟨u, r, hur⟩ : ∃ u r, txt z.natAbs = u :: r := by
        cases ht : txt z.natAbs with
        | nil => rw [ht] at hv; exact absurd hv (by decide)
        | cons u r => exact ⟨u, r, rfl⟩
      have hu : isDig u = true := by
        have := dig_txt z.natAbs
        rw [hur] at this
        simp at this
        exact this.1
      have hu45 : u ≠ 45 := by rintro rfl; exact absurd hu (by decide)
      have hp : preB (txt z.natAbs) [45] = false := by rw [hur]; simp [preB, hu45]
      have hdr : dropB (txt z.natAbs) [45] = txt z.natAbs := by unfold dropB; rw [hp]; rfl
      rw [e]
      refine ⟨?_, ?_⟩
      · unfold validB
        rw [hdr, hv, Bool.or_true]
      · unfold ival
        rw [hdr, hp, if_neg (by decide), hd]
        omega
end Go.Vi
set_option maxRecDepth 100000
set_option maxHeartbeats 1000000
namespace Go.Vi
open Go Go.Proofs

theorem dgt_dg {u : UInt8} (h : isDig u = true) : dgt ((dg u : Nat) : Int) = u := by
  simp only [isDig, Bool.and_eq_true, decide_eq_true_eq] at h
  have hd : (0 : Int) ≤ ((dg u : Nat) : Int) ∧ ((dg u : Nat) : Int) < 10 := by unfold dg; omega
  apply UInt8.toNat_inj.1
  rw [dgt_nat hd]
  unfold dg
  omega
theorem txt_dval {t : List UInt8} (hd : t.all isDig = true) (hne : t ≠ []) (h0 : (t.head? == some 48) = false) : txt (dval t) = t := by
  have hpos := dval_pos t hd hne h0
  have hlt := dval_lt t hd
  have hge : 10 ^ (t.length - 1) ≤ dval t := by
    obtain ⟨u, r, rfl⟩ : ∃ u r, t = u :: r := by cases t with | nil => exact absurd rfl hne | cons u r => exact ⟨u, r, rfl⟩
    have e := dval_append [u] r
    rw [List.singleton_append, dval_one] at e
    rw [e]
    have hu : isDig u = true := by simp at hd; exact hd.1
    simp only [isDig, Bool.and_eq_true, decide_eq_true_eq] at hu
    have h48 : u.toNat ≠ 48 := fun e => by
      have : u = 48 := UInt8.toNat_inj.1 (by simpa using e)
      subst this
      simp at h0
    have h1 : 1 ≤ dg u := by unfold dg; omega
    have := Nat.mul_le_mul_right (10 ^ r.length) h1
    simp only [List.length_cons, Nat.add_sub_cancel]
    omega
  rw [txt_pos (by omega), ← lm_of b10 hlt hge]
  apply List.ext_getElem?
  intro i
  by_cases hi : i < t.length
  · have hu : t[i]? = some t[i] := List.getElem?_eq_getElem hi
    rw [List.getElem?_reverse (by simp [fx_len]; exact hi), List.length_map, fx_len, List.getElem?_map, fx_get 10 _ _ _ (by omega), dval_digit hd (t.length - 1 - i) (by omega) (u := t[i]) (by rw [show t.length - 1 - (t.length - 1 - i) = i by omega]; exact hu), hu]
    simp only [Option.map_some]
    rw [dgt_dg (List.all_eq_true.1 hd _ (List.mem_of_getElem? hu))]
  · rw [List.getElem?_eq_none (by simp [fx_len]; omega), List.getElem?_eq_none (by omega)]
theorem itxt_ival {a : List UInt8} (h : validB a = true) : itxt (ival a) = a := by
  unfold validB at h
  rw [Bool.or_eq_true] at h
  rcases h with h | h
  · have : a = [48] := by simpa using h
    subst this
    rfl
  · unfold validT at h
    simp only [Bool.and_eq_true, Bool.not_eq_true', decide_eq_false_iff_not, beq_eq_false_iff_ne, ne_eq] at h
    have hh : ((dropB a [45]).head? == some 48) = false := by simpa using h.1.2
    have ht := txt_dval h.2 h.1.1.1 hh
    have hp := dval_pos _ h.2 h.1.1.1 hh
    unfold ival
    cases hb : preB a [45] with
    | true =>
      have e : a = 45 :: dropB a [45] := by
        have hd : dropB a [45] = a.drop 1 := by unfold dropB; rw [if_pos hb]; rfl
        rw [hd]
        cases a with
        | nil => exact absurd hb (by decide)
        | cons u r =>
          simp [preB] at hb
          rw [hb]
          rfl
      rw [if_pos rfl]
      unfold itxt
      rw [if_pos (by omega), Int.natAbs_neg, Int.natAbs_natCast, ht]
      exact e.symm
    | false =>
      have e : dropB a [45] = a := by unfold dropB; rw [hb]; rfl
      rw [if_neg (by decide)]
      unfold itxt
      rw [if_neg (by omega), Int.natAbs_natCast, ht, e]
end Go.Vi
set_option maxRecDepth 100000
set_option maxHeartbeats 1000000
namespace Go.Vi
open Go Go.Proofs

theorem outS_small {z : Int} (h : small z) : outS z = .tup [.str (itxt z), I 0] := by
  unfold outS
  rw [(fitB_iff _).2 h]
  rfl
end Go.Vi
