/-
  Walks of package chiasmusref34: bad, IsBad, Start.
-/
import Derived.Test.YtkpcgnjjkaamgaaWC
set_option linter.unusedSimpArgs false
set_option linter.unusedVariables false
set_option maxRecDepth 100000
set_option maxHeartbeats 4000000
namespace Go.Vi
open Go Go.Proofs

end Go.Vi
set_option maxRecDepth 100000
set_option maxHeartbeats 4000000
namespace Go.Vi
open Go Go.Proofs

end Go.Vi
set_option maxRecDepth 100000
set_option maxHeartbeats 4000000
namespace Go.Vi
open Go Go.Proofs

def afterClr (t : Int) (p : List Int × Int) : List Int := if 0 ≤ t then p.1.set t.toNat (w64 (p.1.getD t.toNat 0 + p.2)) else p.1
def rstepF (rule : Rule) (st : List Int) : Option (List Int) :=
  if covF st rule.take 0 = true then some (addF (afterClr rule.into (clrF rule.into (subF st rule.take 0) 0 rule.clear)) rule.give 0) else none
theorem useF_eq (rule : Rule) (st : List Int) : useF rule st = match rstepF rule st with
    | none => (none, 0)
    | some o => if maxF (o.headD 0) o.tail > 1000000 then (none, 7) else (some o, 0) := by
  unfold useF rstepF afterClr
  split <;> rfl
end Go.Vi
set_option maxRecDepth 100000
set_option maxHeartbeats 4000000
namespace Go.Vi
open Go Go.Proofs

def bnd (B : Int) (l : List Int) : Prop := ∀ x ∈ l, 0 ≤ x ∧ x ≤ B
theorem w64_id {n : Int} (h : -9223372036854775808 ≤ n ∧ n < 9223372036854775808) : w64 n = n := wrap_id h
theorem bnd_set {B : Int} {l : List Int} {i : Nat} {x : Int} (h : bnd B l) (hx : 0 ≤ x ∧ x ≤ B) : bnd B (l.set i x) := fun y hy => by
  rcases List.mem_or_eq_of_mem_set hy with h1 | h1
  · exact h y h1
  · rw [h1]; exact hx
theorem bnd_get {B : Int} {l : List Int} {i : Nat} (h : bnd B l) (hB : 0 ≤ B) : 0 ≤ l.getD i 0 ∧ l.getD i 0 ≤ B := by
  rw [List.getD_eq_getElem?_getD]
  cases hg : l[i]? with
  | none => exact ⟨Int.le_refl _, hB⟩
  | some x => exact h x (mem_of hg)
theorem bnd_mono {B C : Int} {l : List Int} (h : bnd B l) (hBC : B ≤ C) : bnd C l := fun x hx => by have := h x hx; omega
theorem subF_bnd {B : Int} (hB : 0 ≤ B ∧ B ≤ 1000000000000) (st : List Int) : ∀ (r o : List Int) (i : Nat), (∀ j, i ≤ j → o.getD j 0 = st.getD j 0) → bnd B o → (∀ x ∈ r, 0 ≤ x) → covF st r i = true → bnd B (subF o r i)
  | [], o, i, _, h, _, _ => h
  | x :: r, o, i, he, h, hr, hc => by
    simp only [covF] at hc
    split at hc
    · cases hc
    · rename_i hge
      have hx := hr x (by simp)
      have hb := bnd_get (i := i) h hB.1
      have e := he i (Nat.le_refl _)
      simp only [subF]
      rw [w64_id (by omega)]
      refine subF_bnd hB st r _ (i + 1) (fun j hj => ?_) (bnd_set h (by omega)) (fun y hy => hr y (by simp [hy])) hc
      rw [← he j (by omega)]
      simp only [List.getD_eq_getElem?_getD, List.getElem?_set_ne (show i ≠ j by omega)]
theorem clrF_bnd {B : Int} (hB : 0 ≤ B ∧ B ≤ 1000000000) (t : Int) : ∀ (r o : List Int) (rest : Int), bnd B o → 0 ≤ rest → rest + B * r.length ≤ 1000000000000000 → bnd B (clrF t o rest r).1 ∧ 0 ≤ (clrF t o rest r).2 ∧ (clrF t o rest r).2 ≤ rest + B * r.length
  | [], o, rest, h, h0, _ => ⟨h, h0, by simp [clrF]⟩
  | c :: r, o, rest, h, h0, h1 => by
    simp only [clrF]
    have hm : B * ((c :: r).length : Int) = B * r.length + B := by simp only [List.length_cons]; rw [Int.natCast_add]; simp [Int.mul_add]
    have hnn : 0 ≤ B * (r.length : Int) := Int.mul_nonneg hB.1 (by omega)
    rw [hm] at h1 ⊢
    split
    · obtain ⟨g1, g2, g3⟩ := clrF_bnd hB t r o rest h h0 (by omega)
      exact ⟨g1, g2, by omega⟩
    · have hb := bnd_get (i := c.toNat) h hB.1
      rw [w64_id (by omega)]
      obtain ⟨g1, g2, g3⟩ := clrF_bnd hB t r (o.set c.toNat 0) (rest + o.getD c.toNat 0) (bnd_set h ⟨Int.le_refl _, hB.1⟩) (by omega) (by omega)
      exact ⟨g1, g2, by omega⟩
theorem addF_bnd : ∀ (r o : List Int) (i : Nat) (B : Int), 0 ≤ B → B + 6 * r.length ≤ 1000000000000000 → bnd B o → (∀ x ∈ r, 0 ≤ x ∧ x ≤ 6) → bnd (B + 6 * r.length) (addF o r i)
  | [], o, i, B, hB, _, h, _ => by simpa [addF] using h
  | x :: r, o, i, B, hB, hl, h, hr => by
    have hx := hr x (by simp)
    have hb := bnd_get (i := i) h hB
    have hm : (6 : Int) * ((x :: r).length : Int) = 6 * r.length + 6 := by simp only [List.length_cons]; omega
    rw [hm] at hl ⊢
    simp only [addF]
    rw [w64_id (by omega)]
    have := addF_bnd r (o.set i (o.getD i 0 + x)) (i + 1) (B + 6) (by omega) (by omega) (bnd_set (bnd_mono h (by omega)) (by omega)) (fun y hy => hr y (by simp [hy]))
    exact bnd_mono this (by omega)
theorem within_bnd {l : List Int} {n m : Int} (h : withinF l n m = true) : bnd m l := fun x hx => by
  unfold withinF at h
  simp only [Bool.and_eq_true, Bool.not_eq_true', List.any_eq_false] at h
  have := h.2 x hx
  simp only [outB, Bool.or_eq_true, decide_eq_true_eq, not_or] at this
  omega
theorem maxF_gt (c : Int) : ∀ (l : List Int) (m : Int), maxF m l > c ↔ m > c ∨ ∃ x ∈ l, x > c
  | [], m => by simp [maxF]
  | x :: r, m => by
    simp only [maxF]
    rw [maxF_gt c r]
    simp only [List.mem_cons, exists_eq_or_imp]
    split
    · constructor
      · rintro (h | h)
        · exact .inr (.inl h)
        · exact .inr (.inr h)
      · rintro (h | h | h)
        · exact .inl (by omega)
        · exact .inl h
        · exact .inr h
    · constructor
      · rintro (h | h)
        · exact .inl h
        · exact .inr (.inr h)
      · rintro (h | h | h)
        · exact .inl h
        · exact .inl (by omega)
        · exact .inr h
theorem within_max {B : Int} {l : List Int} (h : bnd B l) (hne : l ≠ []) : withinF l l.length 1000000 = !decide (maxF (l.headD 0) l.tail > 1000000) := by
  unfold withinF
  simp only [beq_self_eq_true, Bool.true_and]
  congr 1
  cases l with
  | nil => exact absurd rfl hne
  | cons x r =>
    rw [Bool.eq_iff_iff]
    simp only [List.any_eq_true, decide_eq_true_eq, List.headD_cons, List.tail_cons, maxF_gt, outB, Bool.or_eq_true, List.mem_cons]
    constructor
    · rintro ⟨y, hy, h1 | h1⟩
      · have := h y (by simpa using hy); omega
      · rcases hy with rfl | hy
        · exact .inl h1
        · exact .inr ⟨y, hy, h1⟩
    · rintro (h1 | ⟨y, hy, h1⟩)
      · exact ⟨x, .inl rfl, .inr h1⟩
      · exact ⟨y, .inr hy, .inr h1⟩
theorem rstep_len {r : Rule} {st o : List Int} (h : rstepF r st = some o) : o.length = st.length := by
  unfold rstepF at h
  split at h
  · injection h with h
    rw [← h, addF_len]
    unfold afterClr
    split
    · rw [List.length_set, clrF_len, subF_len]
    · rw [clrF_len, subF_len]
  · cases h
theorem rstep_bnd {r : Rule} {st o : List Int} {n : Int} (hr : r.ok) (hri : rightF r n = true) (hst : bnd 1000000 st) (h : rstepF r st = some o) : ∃ B, bnd B o := by
  unfold rightF at hri
  simp only [Bool.and_eq_true] at hri
  have ht := within_bnd hri.1.1.1
  have hg := within_bnd hri.1.1.2
  obtain ⟨b1, b2, b3⟩ := hr
  unfold rstepF at h
  split at h
  · rename_i hc
    injection h with h
    subst h
    have h1 := subF_bnd (B := 1000000) (by omega) st r.take st 0 (fun _ _ => rfl) hst (fun x hx => (ht x hx).1) hc
    obtain ⟨h2, h3, h4⟩ := clrF_bnd (B := 1000000) (by omega) r.into r.clear _ 0 h1 (Int.le_refl _) (by omega)
    refine ⟨_, addF_bnd r.give _ 0 2000000000 (by omega) (by omega) ?_ hg⟩
    unfold afterClr
    split
    · have := bnd_get (i := r.into.toNat) h2 (by omega)
      rw [w64_id (by omega)]
      exact bnd_set (bnd_mono h2 (by omega)) (by omega)
    · exact bnd_mono h2 (by omega)
  · cases h
end Go.Vi
