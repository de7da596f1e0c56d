/-
  Plain law: the text of an integer reads back as the integer.
-/
import Derived.Test.YtpdeblfnbcponaaGreatDoorYF
set_option linter.unusedSimpArgs false
set_option linter.unusedVariables false
set_option maxRecDepth 100000
set_option maxHeartbeats 1000000
namespace Go.Vi
open Go Go.Proofs

abbrev dgt (d : Int) : UInt8 := UInt8.ofNat (48 + d.toNat)
theorem dgt_nat {d : Int} (h : 0 ≤ d ∧ d < 10) : (dgt d).toNat = 48 + d.toNat := by
  show (UInt8.ofNat (48 + d.toNat)).toNat = _
  rw [UInt8.toNat_ofNat']
  omega
theorem dg_dgt {d : Int} (h : 0 ≤ d ∧ d < 10) : ((dg (dgt d) : Nat) : Int) = d := by
  unfold dg
  rw [dgt_nat h]
  omega
theorem dig_dgt {d : Int} (h : 0 ≤ d ∧ d < 10) : isDig (dgt d) = true := by
  have := dgt_nat h
  simp only [isDig, Bool.and_eq_true, decide_eq_true_eq]
  omega
theorem txt_pos {n : Nat} (h : n ≠ 0) : txt n = ((lm 10 n).map dgt).reverse := by
  unfold txt
  rw [if_neg h]
end Go.Vi
set_option maxRecDepth 100000
set_option maxHeartbeats 1000000
namespace Go.Vi
open Go Go.Proofs

theorem dgt_dg {u : UInt8} (h : isDig u = true) : dgt ((dg u : Nat) : Int) = u := by
  simp only [isDig, Bool.and_eq_true, decide_eq_true_eq] at h
  have hd : (0 : Int) ≤ ((dg u : Nat) : Int) ∧ ((dg u : Nat) : Int) < 10 := by unfold dg; omega
  apply UInt8.toNat_inj.1
  rw [dgt_nat hd]
  unfold dg
  omega
theorem txt_dval {t : List UInt8} (hd : t.all isDig = true) (hne : t ≠ []) (h0 : (t.head? == some 48) = false) : txt (dval t) = t := by
  have hpos := dval_pos t hd hne h0
  have hlt := dval_lt t hd
  have hge : 10 ^ (t.length - 1) ≤ dval t := by
    obtain ⟨u, r, rfl⟩ : ∃ u r, t = u :: r := by cases t with | nil => exact absurd rfl hne | cons u r => exact ⟨u, r, rfl⟩
    have e := dval_append [u] r
    rw [List.singleton_append, dval_one] at e
    rw [e]
    have hu : isDig u = true := by simp at hd; exact hd.1
    simp only [isDig, Bool.and_eq_true, decide_eq_true_eq] at hu
    have h48 : u.toNat ≠ 48 := fun e => by
      have : u = 48 := UInt8.toNat_inj.1 (by simpa using e)
      subst this
      simp at h0
    have h1 : 1 ≤ dg u := by unfold dg; omega
    have := Nat.mul_le_mul_right (10 ^ r.length) h1
    simp only [List.length_cons, Nat.add_sub_cancel]
    omega
  rw [txt_pos (by omega), ← lm_of b10 hlt hge]
  apply List.ext_getElem?
  intro i
  by_cases hi : i < t.length
  · have hu : t[i]? = some t[i] := List.getElem?_eq_getElem hi
    rw [List.getElem?_reverse (by simp [fx_len]; exact hi), List.length_map, fx_len, List.getElem?_map, fx_get 10 _ _ _ (by omega), dval_digit hd (t.length - 1 - i) (by omega) (u := t[i]) (by rw [show t.length - 1 - (t.length - 1 - i) = i by omega]; exact hu), hu]
    simp only [Option.map_some]
    rw [dgt_dg (List.all_eq_true.1 hd _ (List.mem_of_getElem? hu))]
  · rw [List.getElem?_eq_none (by simp [fx_len]; omega), List.getElem?_eq_none (by omega)]
theorem itxt_ival {a : List UInt8} (h : validB a = true) : itxt (ival a) = a := by
  unfold validB at h
  rw [Bool.or_eq_true] at h
  rcases h with h | h
  · have : a = [48] := by simpa using h
    subst this
    rfl
  · unfold validT at h
    simp only [Bool.and_eq_true, Bool.not_eq_true', decide_eq_false_iff_not, beq_eq_false_iff_ne, ne_eq] at h
    have hh : ((dropB a [45]).head? == some 48) = false := by simpa using h.1.2
    have ht := txt_dval h.2 h.1.1.1 hh
    have hp := dval_pos _ h.2 h.1.1.1 hh
    unfold ival
    cases hb : preB a [45] with
    | true =>
      have e : a = 45 :: dropB a [45] := by
        have hd : dropB a [45] = a.drop 1 := by unfold dropB; rw [if_pos hb]; rfl
        rw [hd]
        cases a with
        | nil => exact absurd hb (by decide)
        | cons u r =>
          simp [preB] at hb
          rw [hb]
          rfl
      rw [if_pos rfl]
      unfold itxt
      rw [if_pos (by omega), Int.natAbs_neg, Int.natAbs_natCast, ht]
      exact e.symm
    | false =>
      have e : dropB a [45] = a := by unfold dropB; rw [hb]; rfl
      rw [if_neg (by decide)]
      unfold itxt
      rw [if_neg (by omega), Int.natAbs_natCast, ht, e]
end Go.Vi
set_option maxRecDepth 100000
set_option maxHeartbeats 1000000
namespace Go.Vi
open Go Go.Proofs

end Go.Vi
