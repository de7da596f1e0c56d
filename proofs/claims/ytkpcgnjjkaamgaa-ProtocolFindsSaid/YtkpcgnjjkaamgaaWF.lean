/-
  Walks of package chiasmusref34: same, Search.
-/
import Derived.Test.YtkpcgnjjkaamgaaWE
set_option linter.unusedSimpArgs false
set_option linter.unusedVariables false
set_option maxRecDepth 100000
set_option maxHeartbeats 800000
namespace Go.Vi
open Go Go.Proofs

/-! ### same -/
/-! ### Search: what it computes -/
structure Met where
  state : List Int
  rules : List Int
def rv : List Int → V
  | [] => .nilS
  | x :: r => .lst ((x :: r).map I)
abbrev Met.v (m : Met) : V := .agg [Is m.state, rv m.rules]
theorem leaf_rv (l : List Int) : leafV (rv l) = true := by cases l <;> rfl
theorem can_rv (l : List Int) : can (rv l) = Is l := by cases l with
  | nil => rfl
  | cons x r => simp only [rv, can, cans_I]
def innerF (p : Prot) (m : Met) : List Rule → Nat → List Met → Option (List Met)
  | [], _, l => some l
  | r :: rs, k, l => match rstepF r m.state with
    | none => innerF p m rs (k + 1) l
    | some o => if withinF o p.begin.length 1000000 = false then none
      else if (l.any fun q => decide (q.state = o)) = true then innerF p m rs (k + 1) l
      else if l.length = 5000 then none
      else innerF p m rs (k + 1) (l ++ [⟨o, m.rules ++ [(k : Int)]⟩])
def outerF (p : Prot) (most : Int) : Nat → Nat → List Met → Option (List Int × Bool × Int)
  | 0, _, _ => none
  | n + 1, i, l => match l[i]? with
    | none => some ([], false, 0)
    | some m => if badF p m.state = true then some (m.rules, true, 0)
      else if (m.rules.length : Int) = most then outerF p most n (i + 1) l
      else match innerF p m p.rules 0 l with
        | none => some ([], false, 7)
        | some l' => outerF p most n (i + 1) l'
theorem innerF_len {p : Prot} {m : Met} : ∀ (rs : List Rule) (k : Nat) (l l' : List Met), innerF p m rs k l = some l' → l.length ≤ 5000 → l.length ≤ l'.length ∧ l'.length ≤ 5000
  | [], k, l, l', h, hl => by simp only [innerF, Option.some.injEq] at h; subst h; exact ⟨Nat.le_refl _, hl⟩
  | r :: rs, k, l, l', h, hl => by
    simp only [innerF] at h
    split at h
    · exact innerF_len rs _ l l' h hl
    · split at h
      · cases h
      · split at h
        · exact innerF_len rs _ l l' h hl
        · split at h
          · cases h
          · have := innerF_len rs _ _ l' h (by simp; omega)
            simp at this
            omega
theorem outerF_total {p : Prot} {most : Int} : ∀ (n i : Nat) (l : List Met), l.length ≤ 5000 → i ≤ l.length → 5000 < i + n → ∃ r, outerF p most n i l = some r
  | 0, i, l, hl, hi, h => by omega
  | n + 1, i, l, hl, hi, h => by
    simp only [outerF]
    split
    · exact ⟨_, rfl⟩
    · rename_i m hm
      have hlt : i < l.length := (List.getElem?_eq_some_iff.1 hm).1
      split
      · exact ⟨_, rfl⟩
      · split
        · exact outerF_total n (i + 1) l hl (by omega) (by omega)
        · split
          · exact ⟨_, rfl⟩
          · rename_i l' hl'
            have := innerF_len _ _ _ _ hl' hl
            exact outerF_total n (i + 1) l' this.2 (by omega) (by omega)

def WFl (p : Prot) (l : List Met) : Prop := ∀ m ∈ l, withinF m.state p.begin.length 1000000 = true
end Go.Vi
set_option maxRecDepth 100000
set_option maxHeartbeats 4000000
namespace Go.Vi
open Go Go.Proofs

theorem innerF_rules {p : Prot} {m : Met} {most : Int} (hm : (m.rules.length : Int) < most) : ∀ (rs : List Rule) (k : Nat) (l l' : List Met), innerF p m rs k l = some l' → (∀ x ∈ l, (x.rules.length : Int) ≤ most) → ∀ x ∈ l', (x.rules.length : Int) ≤ most
  | [], k, l, l', h, hl => by simp only [innerF, Option.some.injEq] at h; subst h; exact hl
  | r :: rs, k, l, l', h, hl => by
    simp only [innerF] at h
    split at h
    · exact innerF_rules hm rs _ l l' h hl
    · split at h
      · cases h
      · split at h
        · exact innerF_rules hm rs _ l l' h hl
        · split at h
          · cases h
          · refine innerF_rules hm rs _ _ l' h fun x hx => ?_
            rcases List.mem_append.1 hx with hx | hx
            · exact hl x hx
            · simp only [List.mem_singleton] at hx; subst hx
              simp only [List.length_append, List.length_cons, List.length_nil]; omega
abbrev srV (x : List Int × Bool × Int) : V := .tup [rv x.1, .bool x.2.1, I x.2.2]
end Go.Vi
set_option maxRecDepth 100000
set_option maxHeartbeats 1000000
namespace Go.Vi
open Go Go.Proofs

def searchF (p : Prot) (more most : Int) : List Int × Bool × Int :=
  if checkF p ≠ 0 then ([], false, checkF p)
  else if more < 0 ∨ more > 1000 then ([], false, 4)
  else if most < 0 ∨ most > 12 then ([], false, 4)
  else (outerF p most 5002 0 [⟨startF p more, []⟩]).getD ([], false, 0)
theorem within_of {l : List Int} {n m : Int} (h : (l.length : Int) = n) (hb : bnd m l) : withinF l n m = true := by
  unfold withinF
  simp only [h, beq_self_eq_true, Bool.true_and, Bool.not_eq_true', List.any_eq_false]
  intro x hx
  have := hb x hx
  simp only [outB, Bool.or_eq_true, decide_eq_true_eq, not_or]
  omega
theorem start_within {p : Prot} {more : Int} (hck : checkF p = 0) (hm : 0 ≤ more ∧ more ≤ 1000) : withinF (startF p more) p.begin.length 1000000 = true := by
  obtain ⟨_, _, _, _, hb, _, _, _, _⟩ := checkF_facts hck
  refine within_of (by simp [startF]) ?_
  have h1 := within_bnd hb
  have h2 := bnd_get (i := p.free.toNat) h1 (by omega)
  unfold startF
  rw [w64_id (by omega)]
  exact bnd_set (bnd_mono h1 (by omega)) (by omega)
theorem n00 : ((0:Int) != 0) = false := by decide
end Go.Vi
