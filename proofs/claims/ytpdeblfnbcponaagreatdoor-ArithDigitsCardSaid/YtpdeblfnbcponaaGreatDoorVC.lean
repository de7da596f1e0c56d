/-
  THE VALUE-LEVEL INTERPRETER 'Vi', part 23: regions whose order is drawn.
-/
import Derived.Test.YtpdeblfnbcponaaGreatDoorVB
import Derived.KernelRfl
import Derived.OpenShut
import Derived.ReadAgain
import Derived.JoinedOf
import Derived.JoinedAt
import Derived.RowKit3
import Derived.ChangeSame
import Derived.RecoverIn
set_option linter.unusedSimpArgs false
set_option linter.unusedVariables false
namespace Go.Vi
open Go

/-! ### Who waits for whom -/
def ClosedL (ops : Array Oper) (listed : Array Bool) : Prop := ∀ j oj, ops[j]? = some oj → listed.getD j false = true → ∀ e ∈ oj.after, Region.binds .any e = true → listed.getD e.on false = true
def TabOk (ops : Array Oper) (listed : Array Bool) (T : List (List Nat)) : Prop := ∀ i o, ops[i]? = some o → (∀ e ∈ o.after, Region.binds .any e = true → listed.getD e.on false = true) → ∀ j ∈ T.getD i [], listed.getD j false = true
theorem addAll_mem {x : Nat} : ∀ {l acc : List Nat}, x ∈ addAll acc l → x ∈ acc ∨ x ∈ l
  | [], acc, h => .inl h
  | y :: r, acc, h => by
    unfold addAll at h
    rcases addAll_mem h with h1 | h1
    · split at h1
      · exact .inl h1
      · rcases List.mem_cons.1 h1 with e | e
        · subst e; exact .inr (by simp)
        · exact .inl e
    · exact .inr (by simp [h1])
theorem ancOf_mem {T : List (List Nat)} {x : Nat} : ∀ {es : List Edge} {acc : List Nat}, x ∈ ancOf T es acc → x ∈ acc ∨ ∃ e ∈ es, Region.binds .any e = true ∧ (x = e.on ∨ x ∈ T.getD e.on [])
  | [], acc, h => .inl h
  | e :: r, acc, h => by
    unfold ancOf at h
    rcases ancOf_mem h with h1 | ⟨e', he', h1⟩
    · split at h1
      · rename_i hb
        rcases addAll_mem h1 with h2 | h2
        · exact .inl h2
        · exact .inr ⟨e, by simp, hb, by simpa using h2⟩
      · exact .inl h1
    · exact .inr ⟨e', by simp [he'], h1⟩
theorem ancTab_ok {ops : Array Oper} {listed : Array Bool} (hc : ClosedL ops listed) : ∀ (l : List Oper) (T : List (List Nat)), (∀ j, l[j]? = ops[T.length + j]?) → TabOk ops listed T → TabOk ops listed (ancTab l T)
  | [], T, _, h => h
  | o :: r, T, hl, h => by
    unfold ancTab
    refine ancTab_ok hc r _ (fun j => by have := hl (j + 1); simpa [Nat.add_assoc, Nat.add_comm 1 j] using this) ?_
    intro i oi hi he j hj
    by_cases h1 : i < T.length
    · refine h i oi hi he j ?_
      rw [List.getD_eq_getElem?_getD, List.getElem?_append_left h1, ← List.getD_eq_getElem?_getD] at hj
      exact hj
    · rw [List.getD_eq_getElem?_getD, List.getElem?_append_right (by omega)] at hj
      by_cases h2 : i = T.length
      · subst h2
        have e0 : ops[T.length]? = some o := by have := hl 0; simpa using this.symm
        rw [e0] at hi
        injection hi with hi
        subst hi
        simp only [Nat.sub_self, List.getElem?_cons_zero, Option.getD_some] at hj
        rcases ancOf_mem hj with hj | ⟨e, hem, hb, hj⟩
        · cases hj
        · have hle := he e (by simpa using hem) hb
          rcases hj with rfl | hj
          · exact hle
          · cases hoe : ops[e.on]? with
            | none =>
              exfalso
              have hlt : ¬ e.on < T.length := fun hlt => by
                have hsz : ops.size ≤ e.on := by simpa using hoe
                have : T.length < ops.size := by
                  rcases Nat.lt_or_ge T.length ops.size with h | h
                  · exact h
                  · rw [Array.getElem?_eq_none h] at e0; cases e0
                omega
              rw [List.getD_eq_getElem?_getD, List.getElem?_eq_none (by omega)] at hj
              cases hj
            | some oe => exact h e.on oe hoe (hc e.on oe hoe hle) j hj
      · rw [List.getElem?_eq_none (by simp; omega)] at hj
        cases hj
theorem ancTab_lt {ops : Array Oper} : ∀ (l : List Oper) (T : List (List Nat)), (∀ j, l[j]? = ops[T.length + j]?) → (∀ j o, ops[j]? = some o → ∀ e ∈ o.after, Region.binds .any e = true → e.on < j) →
    (∀ i, ∀ j ∈ T.getD i [], j < i) → ∀ i, ∀ j ∈ (ancTab l T).getD i [], j < i
  | [], T, _, _, h => h
  | o :: r, T, hl, hlt, h => by
    unfold ancTab
    refine ancTab_lt r _ (fun j => by have := hl (j + 1); simpa [Nat.add_assoc, Nat.add_comm 1 j] using this) hlt ?_
    intro i j hj
    by_cases h1 : i < T.length
    · refine h i j ?_
      rw [List.getD_eq_getElem?_getD, List.getElem?_append_left h1, ← List.getD_eq_getElem?_getD] at hj
      exact hj
    · rw [List.getD_eq_getElem?_getD, List.getElem?_append_right (by omega)] at hj
      by_cases h2 : i = T.length
      · subst h2
        have e0 : ops[T.length]? = some o := by have := hl 0; simpa using this.symm
        simp only [Nat.sub_self, List.getElem?_cons_zero, Option.getD_some] at hj
        rcases ancOf_mem hj with hj | ⟨e, hem, hb, hj⟩
        · cases hj
        · have := hlt _ o e0 e (by simpa using hem) hb
          rcases hj with rfl | hj
          · exact this
          · exact Nat.lt_trans (h e.on j hj) this
      · rw [List.getElem?_eq_none (by simp; omega)] at hj
        cases hj

/-! ### The rest of memory -/
theorem HR.frame {w A β c F U cU w' A' β'} (hF : HR w A β c F) (hs : ∀ k p, U k = some p → F k = some p) (hc : c ≤ cU) (t : Tr w A β cU U w' A' β' cU U) (h' : HR w' A' β' cU U) :
    Tr w A β c F w' A' β' c F ∧ HR w' A' β' c F := by
  have hlt : ∀ k v o, F k = some (v, o) → v < c := fun k v o hk => by
    obtain ⟨i, e, _⟩ := hF.obj k v o hk
    refine Nat.lt_of_not_le fun hle => ?_
    rw [hF.fresh k v hle] at e
    cases e
  have hβ : ∀ k v o, F k = some (v, o) → β' k v = β k v := fun k v o hk => t.beta k v (Nat.lt_of_lt_of_le (hlt k v o hk) hc)
  have hMt : ∀ b, Mt F β' b → Mt F β b := fun b ⟨k, v, o, i, h1, h2, h3⟩ => ⟨k, v, o, i, h1, by rw [← hβ k v o h1]; exact h2, h3⟩
  have hUF : ∀ b, Mt U β b → Mt F β b := fun b hm => hm.mono hs
  refine ⟨⟨t.size, t.os, t.tape, t.output, fun b hb hm => t.old b hb (fun h => hm (hUF b h)), fun k v hv => t.beta k v (by omega), Nat.le_refl _, t.imm, fun b hb => ?_, fun b hb => .inl (hMt b hb)⟩, ⟨fun k v o hk => ?_, fun k k' v v' o o' i i' b h1 h2 h3 h4 => ?_, fun b hb => ?_, fun k v hv => ?_, h'.laid⟩⟩
  · rcases t.newA b hb with h1 | h1 | h1
    · exact .inl h1
    · exact .inr (.inl (hUF b h1))
    · exact .inr (.inr h1)
  · cases hU : U k with
    | some p =>
      have := hs k p hU
      rw [hk] at this
      injection this with this
      subst this
      exact h'.obj k v o hU
    | none =>
      obtain ⟨i, e, ho⟩ := hF.obj k v o hk
      have hnU : ∀ b, i.b = some b → ¬ Mt U β b := fun b hb ⟨q, v', o', j, g1, g2, g3⟩ => by
        have := hF.sep q k v' v o' o j i b (hs q _ g1) hk g2 e g3 hb
        subst this
        rw [hU] at g1
        cases g1
      refine ⟨i, by rw [hβ k v o hk]; exact e, ho.mono t.imm (fun b hb => sameC (t.old b (hF.imm b hb).1 (fun h => (hF.imm b hb).2 (hUF b h)))) (fun q u j hj => ?_) (fun b hb => t.old b (hF.lt ⟨k, v, o, i, hk, e, hb⟩) (hnU b hb))⟩
      rw [t.beta q u]
      · exact hj
      · refine Nat.lt_of_not_le fun hle => ?_
        rw [hF.fresh q u (by omega)] at hj
        cases hj
  · rw [hβ k v o h1] at h3
    rw [hβ k' v' o' h2] at h4
    exact hF.sep k k' v v' o o' i i' b h1 h2 h3 h4
  · refine ⟨(h'.imm b hb).1, fun hm => ?_⟩
    have hm1 := hMt b hm
    rcases t.newA b hb with h1 | h1 | h1
    · exact (hF.imm b h1).2 hm1
    · refine (h'.imm b hb).2 ?_
      obtain ⟨k, v, o, i, g1, g2, g3⟩ := h1
      exact ⟨k, v, o, i, g1, by rw [hβ k v o (hs k _ g1)]; exact g2, g3⟩
    · have := hF.lt hm1; omega
  · by_cases hv' : v < cU
    · rw [t.beta k v hv']; exact hF.fresh k v hv
    · exact h'.fresh k v (by omega)
theorem HR.under {w A β c F U cU} (hF : HR w A β c F) (hs : ∀ k p, U k = some p → F k = some p) (hc : c ≤ cU) : HR w A β cU U := by
  have h := hF.forget hs (fun _ h => h) (fun b hb => ⟨(hF.imm b hb).1, fun hm => (hF.imm b hb).2 (hm.mono hs)⟩)
  exact ⟨h.obj, h.sep, h.imm, fun k v hv => h.fresh k v (by omega), h.laid⟩

/-! ### What an operation touches -/
theorem settleL_none {E : Env} {lvl slot : Nat} : ∀ (j : Nat) (vs : List V) (s : St), refsL vs = [] → settleL E lvl slot j vs s = (vs, s)
  | j, [], s, _ => rfl
  | j, v :: r, s, h => by
    simp only [refsL, List.append_eq_nil_iff] at h
    have h1 : settle1 E ⟨lvl, slot, j + 1⟩ v s = (v, s) := by
      cases v <;> simp_all [settle1, refs]
    simp only [settleL, h1, settleL_none (j + 1) r s h.2]
theorem put_other {E : Env} {s : St} {k q : Key} {ver : Nat} {o : Obj} (h : q ≠ k) : (s.put E k ver o).heap E q = s.heap E q := by
  by_cases hk : k.lvl ≤ E.lvl
  · rw [heap_put hk]; simp [h]
  · have e : s.put E k ver o = { s with O := fun q => if q = k then some (ver, o) else s.O q } := by
      unfold St.put
      rw [if_neg (by omega)]
    rw [e]
    unfold St.heap heapOf
    dsimp only
    rw [if_neg h]
theorem refs_leaf (v : Value) : refs (ofLeaf v) = [] := by
  unfold ofLeaf
  split <;> rfl
theorem refs_zero (v : Value) : refsL (cellsV (ofValue v)) = [] := by
  have hl : ∀ l : List Value, refsL (l.map ofLeaf) = [] := fun l => by
    induction l with
    | nil => rfl
    | cons x r ih => simp [refsL, refs_leaf, ih]
  have one : ∀ u : V, refs u = [] → refsL (cellsV u) = [] := fun u hu => by
    cases u <;> simp_all [cellsV, refsL, refs]
  unfold ofValue
  split
  · exact hl _
  · exact one _ (refs_leaf _)
theorem touch_sound {E : Env} {call : CallFn} {Cx : FuncId → Option (List V → Option V)} {o : Oper} {s s1 : St} {v : V} {X : List Key} (h : aop call E Cx (o.dst.getD E.n) o.op s = some (.val v s1)) (ht : touchOk E o s X = true) :
    ∀ k, k ∉ X → s1.heap E k = s.heap E k := by
  intro k hk
  have mk : ∀ {es sz}, X.contains (⟨E.lvl, o.dst.getD E.n, 0⟩ : Key) = true → (newArr E (o.dst.getD E.n) sz es s).2.heap E k = s.heap E k := fun {es sz} hX => by
    show (s.put E ⟨E.lvl, o.dst.getD E.n, 0⟩ s.c (.arr sz es)).heap E k = _
    refine put_other ?_
    rintro rfl
    exact hk (by simpa using hX)
  have mv : ∀ {cs}, X.contains (⟨E.lvl, o.dst.getD E.n, 0⟩ : Key) = true → refsL cs = [] → (newVarV E (o.dst.getD E.n) cs s).2.heap E k = s.heap E k := fun {cs} hX hr => by
    unfold newVarV
    rw [settleL_none 0 cs s hr]
    show (s.put E ⟨E.lvl, o.dst.getD E.n, 0⟩ s.c (.var cs)).heap E k = _
    refine put_other ?_
    rintro rfl
    exact hk (by simpa using hX)
  generalize hop : o.op = op at h
  unfold touchOk at ht
  rw [hop] at ht
  split at ht
  · rename_i t p x
    simp only [Bool.and_eq_true, List.isEmpty_iff] at ht
    obtain ⟨ht1, ht2⟩ := ht
    simp only [aop, Option.map_eq_some_iff] at h
    obtain ⟨s', hs', hv⟩ := h
    injection hv with _ hv
    subst hv
    split at ht1
    · rename_i kk ver i off hp
      rw [hp] at hs'
      unfold storeAt at hs'
      split at hs'
      case isFalse => cases hs'
      dsimp only at hs'
      have hkk : k ≠ kk := by rintro rfl; exact hk (by simpa using ht1)
      split at hs'
      · rw [settleL_none _ _ _ ht2] at hs'
        dsimp only at hs'
        split at hs'
        · split at hs'
          · injection hs' with hs'
            subst hs'
            exact put_other hkk
          · cases hs'
        · cases hs'
      · split at hs'
        · rw [ht2] at hs'
          simp only [St.dels] at hs'
          split at hs'
          · split at hs'
            · simp only [Option.map_eq_some_iff] at hs'
              obtain ⟨e', _, hs'⟩ := hs'
              subst hs'
              exact put_other hkk
            · cases hs'
          · cases hs'
        · cases hs'
      · cases hs'
    · cases ht1
  · rename_i x
    simp only [aop, Option.map_eq_some_iff] at h
    obtain ⟨q, hq, hv⟩ := h
    injection hv with hv1 hv
    subst hv
    unfold assignTo at hq
    split at ht
    · cases ht
    · cases ht
    · cases ht
    · rename_i hx
      rw [hx] at hq
      by_cases hf : E.frz.contains (o.dst.getD E.n) = true
      · rw [if_pos hf] at hq
        injection hq with hq
        subst hq
        rfl
      · rw [if_neg hf] at hq
        simp only [Bool.or_eq_true, Bool.not_eq_true'] at ht
        have hp := ht.resolve_left hf
        dsimp only at hq
        rw [if_neg (by rw [hp]; simp)] at hq
        injection hq with hq
        subst hq
        rfl
    · rename_i h1 h2 h4 h3
      split at hq
      · split at hq
        · rename_i hx; exact absurd hx (h1 _ _ _ _)
        · rename_i hx; exact absurd hx (h2 _)
        · injection hq with hq; subst hq; rfl
      · split at hq
        · rename_i hx; exact absurd hx (h1 _ _ _ _)
        · rename_i hx; exact absurd hx (h4 _ _)
        · rename_i hx; exact absurd hx (h2 _)
        · rename_i hx; exact absurd hx h3
        · injection hq with hq; subst hq; rfl
  · simp only [aop] at h
    split at h
    · rename_i z hz
      split at h
      · rename_i hl
        injection h with h
        injection h with _ h
        subst h
        obtain ⟨i, c, h1, h2, rfl⟩ := zeroT_some hz
        exact mv ht (refs_zero c)
      · cases h
    · cases h
  · rename_i t x
    simp only [Bool.and_eq_true, List.isEmpty_iff] at ht
    simp only [aop] at h
    split at h
    · injection h with h
      injection h with _ h
      subst h
      exact mv ht.1 ht.2
    · cases h
  · rename_i t n ps
    simp only [Bool.and_eq_true, List.isEmpty_iff] at ht
    simp only [aop] at h
    split at h
    · split at h
      · split at h
        · simp only [Option.map_eq_some_iff] at h
          obtain ⟨es, _, h⟩ := h
          injection h with _ h
          subst h
          rw [ht.2]
          exact mk ht.1
        · cases h
      · cases h
    · cases h
  · simp only [aop] at h
    split at h
    · split at h
      · split at h
        · injection h with h
          injection h with _ h
          subst h
          exact mk ht
        · cases h
      · cases h
    · cases h
  · cases ht
/-! ### The text's order -/
theorem ite_some {c : Prop} [Decidable c] {α : Type} {x : Option α} {y : α} (h : (if c then x else none) = some y) : c ∧ x = some y := by
  split at h
  · exact ⟨by assumption, h⟩
  · cases h
section
variable (call : CallFn) (E : Env) (Cx : FuncId → Option (List V → Option V)) (ops : Array Oper) (T : List (List Nat)) (acts : List Nat) (s0 : St)
structure DStep (i : Nat) (o : Oper) (s s' : St) : Prop where
  static : staticOk E ops T acts o i = true
  step : (wantedV ops (focus s (Oper.looksAt ops o)) o.guard = some false ∧ setD E o.dst (.tup []) s = some s') ∨
    (wantedV ops (focus s (Oper.looksAt ops o)) o.guard = some true ∧ acts.contains i = true ∧ ∃ v s1, aop call E Cx (o.dst.getD E.n) o.op (focus s (Oper.looksAt ops o)) = some (.val v s1) ∧ s.c ≤ s1.c ∧
      (watched ops T acts i = true → ∀ X, estAt E ops s0 i = some X → touchOk E o (focus s (Oper.looksAt ops o)) X = true) ∧ setD E o.dst v { s1 with τ := s.τ } = some s') ∨
    (wantedV ops (focus s (Oper.looksAt ops o)) o.guard = some true ∧ acts.contains i = false ∧ ∃ v, qop call E Cx (o.dst.getD E.n) o.op (qState E ops T acts s0 (focus s (Oper.looksAt ops o)) i) = some v ∧ setD E o.dst v s = some s')
theorem drawOps_chain : ∀ (l : List Oper) (i : Nat) (s s' : St), drawOps call E Cx ops T acts s0 l i s = some s' →
    ∃ σ : Nat → St, σ i = s ∧ σ (i + l.length) = s' ∧ s'.c ≤ s0.c + slack ∧ ∀ j o, l[j]? = some o → DStep call E Cx ops T acts s0 (i + j) o (σ (i + j)) (σ (i + j + 1))
  | [], i, s, s', h => by
    simp only [drawOps] at h
    split at h
    · rename_i hc
      injection h with h
      subst h
      exact ⟨fun _ => s, rfl, rfl, hc, fun j o hj => by cases hj⟩
    · cases h
  | o :: r, i, s, s', h => by
    simp only [drawOps] at h
    split at h
    case isFalse => cases h
    rename_i hst
    have key : ∀ s2, DStep call E Cx ops T acts s0 i o s s2 → drawOps call E Cx ops T acts s0 r (i + 1) s2 = some s' →
        ∃ σ : Nat → St, σ i = s ∧ σ (i + (o :: r).length) = s' ∧ s'.c ≤ s0.c + slack ∧ ∀ j o', (o :: r)[j]? = some o' → DStep call E Cx ops T acts s0 (i + j) o' (σ (i + j)) (σ (i + j + 1)) := fun s2 hd hr => by
      obtain ⟨σ, h1, h2, h3, h4⟩ := drawOps_chain r (i + 1) s2 s' hr
      refine ⟨fun m => if m = i then s else σ m, by simp, ?_, h3, fun j o' hj => ?_⟩
      · simp only [List.length_cons]
        rw [if_neg (by omega), show i + (r.length + 1) = i + 1 + r.length by omega]
        exact h2
      · cases j with
        | zero =>
          simp only [List.getElem?_cons_zero, Option.some.injEq] at hj
          subst hj
          simp only [Nat.add_zero, if_true]
          rw [if_neg (by omega), h1]
          exact hd
        | succ j =>
          simp only [List.getElem?_cons_succ] at hj
          have := h4 j o' hj
          dsimp only
          rw [if_neg (by omega), if_neg (by omega), show i + (j + 1) = i + 1 + j by omega]
          exact this
    split at h
    · cases h
    · rename_i hw
      cases hd : setD E o.dst (.tup []) s with
      | none => rw [hd] at h; cases h
      | some s2 =>
        rw [hd] at h
        exact key s2 ⟨hst, .inl ⟨hw, hd⟩⟩ h
    · rename_i hw
      split at h
      · rename_i ha
        split at h
        · rename_i v s1 hop
          obtain ⟨hc, h⟩ := ite_some h
          cases hd : setD E o.dst v { s1 with τ := s.τ } with
          | none => rw [hd] at h; cases h
          | some s2 =>
            rw [hd] at h
            simp only [Bool.and_eq_true, decide_eq_true_eq, Bool.or_eq_true, Bool.not_eq_true'] at hc
            refine key s2 ⟨hst, .inr (.inl ⟨hw, ha, v, s1, hop, hc.1, fun hwt X hX => ?_, hd⟩)⟩ h
            rcases hc.2 with h5 | h5
            · rw [hwt] at h5; cases h5
            · rw [hX] at h5; exact h5
        · cases h
      · rename_i ha
        split at h
        · rename_i v hq
          cases hd : setD E o.dst v s with
          | none => rw [hd] at h; cases h
          | some s2 =>
            rw [hd] at h
            exact key s2 ⟨hst, .inr (.inr ⟨hw, by simpa using ha, v, hq, hd⟩)⟩ h
        · cases h
end

theorem tget_fget (τ : List (Nat × V)) : ∀ (ts : List Nat) (t : Nat), tget (fget τ ts) t = if t ∈ ts then tget τ t else .junk
  | [], t => rfl
  | u :: r, t => by
    simp only [fget, tget, List.mem_cons]
    by_cases h : t = u
    · subst h; simp
    · rw [if_neg h, tget_fget τ r t]
      simp [h]
theorem setD_tau {E : Env} {dst : Option Tmp} {v : V} {s s' : St} (h : setD E dst v s = some s') : (∀ t, dst ≠ some t → tget s'.τ t = tget s.τ t) ∧ ∀ d, dst = some d → d < E.n ∧ tget s'.τ d = v := by
  unfold setD at h
  cases dst with
  | none => injection h with h; subst h; exact ⟨fun _ _ => rfl, fun d hd => by cases hd⟩
  | some d =>
    dsimp only at h
    split at h
    · rename_i hd
      injection h with h
      subst h
      refine ⟨fun t ht => ?_, fun d' hd' => ?_⟩
      · dsimp only
        rw [tget_tset, if_neg]
        rintro rfl
        exact ht rfl
      · injection hd' with hd'
        subst hd'
        exact ⟨hd, by dsimp only; rw [tget_tset, if_pos rfl]⟩
    · cases h

section
variable {call : CallFn} {E : Env} {Cx : FuncId → Option (List V → Option V)} {ops : Array Oper} {T : List (List Nat)} {acts : List Nat} {s0 : St} {i : Nat} {o : Oper} {s s' : St}
theorem focus_heap {ts} : (focus s ts).heap E = s.heap E := rfl
theorem DStep.still (d : DStep call E Cx ops T acts s0 i o s s') (h : acts.contains i = false) : s'.heap E = s.heap E ∧ s'.c = s.c := by
  rcases d.step with ⟨_, h1⟩ | ⟨_, h1, _⟩ | ⟨_, _, v, _, h1⟩
  · exact setD_heap h1
  · rw [h] at h1; cases h1
  · exact setD_heap h1
theorem DStep.cnt (d : DStep call E Cx ops T acts s0 i o s s') : s.c ≤ s'.c := by
  rcases d.step with ⟨_, h1⟩ | ⟨_, _, v, s1, _, hc, _, h1⟩ | ⟨_, _, v, _, h1⟩
  · rw [(setD_heap h1).2]; exact Nat.le_refl _
  · rw [(setD_heap h1).2]; exact hc
  · rw [(setD_heap h1).2]; exact Nat.le_refl _
theorem DStep.tau (d : DStep call E Cx ops T acts s0 i o s s') {t : Nat} (h : o.dst ≠ some t) : tget s'.τ t = tget s.τ t := by
  rcases d.step with ⟨_, h1⟩ | ⟨_, _, v, s1, _, hc, _, h1⟩ | ⟨_, _, v, _, h1⟩
  · exact (setD_tau h1).1 t h
  · exact (setD_tau h1).1 t h
  · exact (setD_tau h1).1 t h
theorem DStep.touch (d : DStep call E Cx ops T acts s0 i o s s') (hw : watched ops T acts i = true) {X} (hX : estAt E ops s0 i = some X) {k : Key} (hk : k ∉ X) : s'.heap E k = s.heap E k := by
  rcases d.step with ⟨_, h1⟩ | ⟨_, _, v, s1, hop, hc, ht, h1⟩ | ⟨_, _, v, _, h1⟩
  · rw [(setD_heap h1).1]
  · rw [(setD_heap h1).1]
    have := touch_sound hop (ht hw X hX) k hk
    exact this
  · rw [(setD_heap h1).1]

structure StaticOk (E : Env) (ops : Array Oper) (T : List (List Nat)) (acts : List Nat) (o : Oper) (i : Nat) : Prop where
  looks : ∀ t ∈ Oper.looksAt ops o, ∀ j, j < ops.size → someDst ops j = some t → j ∈ T.getD i [] ∨ i ∈ T.getD j []
  once : ∀ d, o.dst = some d → ∀ j, j < ops.size → j ≠ i → someDst ops j ≠ some d
  edges : ∀ e ∈ o.after, Region.binds .any e = true → e.on < i
  actors : acts.contains i = true → ∀ p, acts.contains p = true → p ≠ i → (p < i → p ∈ T.getD i []) ∧ (i < p → i ∈ T.getD p [])
theorem staticOk_spec (h : staticOk E ops T acts o i = true) : StaticOk E ops T acts o i := by
  unfold staticOk at h
  simp only [Bool.and_eq_true] at h
  obtain ⟨⟨⟨h1, h2⟩, h3⟩, h4⟩ := h
  refine ⟨fun t ht j hj hd => ?_, fun d hd j hj hne hc => ?_, fun e he hb => ?_, fun ha p hp hne => ?_⟩
  · have := List.all_eq_true.1 (List.all_eq_true.1 h1 t ht) j (List.mem_range.2 hj)
    rw [hd] at this
    simpa using this
  · rw [hd] at h2
    simp only [Option.isNone_some, Bool.false_or] at h2
    have := List.all_eq_true.1 h2 j (List.mem_range.2 hj)
    rw [hc] at this
    simp [hne] at this
  · have := List.all_eq_true.1 h3 e (by simpa using he)
    rw [hb] at this
    simpa using this
  · rw [ha] at h4
    simp only [Bool.not_true, Bool.false_or] at h4
    have := List.all_eq_true.1 h4 p (by simpa using hp)
    simp only [Bool.or_eq_true, beq_iff_eq, hne, false_or] at this
    refine ⟨fun hlt => ?_, fun hlt => ?_⟩
    · rw [if_pos hlt] at this; simpa using this
    · rw [if_neg (by omega)] at this; simpa using this
end
end Go.Vi
namespace Go.Vi
open Go

theorem qop_nodefer {call : CallFn} {E : Env} {Cx : FuncId → Option (List V → Option V)} {d : Nat} {op : Op} {s : St} {v : V} (h : qop call E Cx d op s = some v) : ∀ c, op ≠ .defer c := by
  rintro c rfl
  simp [qop, quietK] at h
theorem gatherK_mem {f : Nat → Option (List Key)} : ∀ {l : List Nat} {X : List Key}, gatherK f l = some X → ∀ p ∈ l, ∃ Y, f p = some Y ∧ ∀ k ∈ Y, k ∈ X
  | [], X, h, p, hp => by cases hp
  | q :: r, X, h, p, hp => by
    unfold gatherK at h
    split at h
    · rename_i a b ha hb
      injection h with h
      subst h
      rcases List.mem_cons.1 hp with e | e
      · subst e; exact ⟨a, ha, fun k hk => by simp [hk]⟩
      · obtain ⟨Y, h1, h2⟩ := gatherK_mem hb p e
        exact ⟨Y, h1, fun k hk => by simp [h2 k hk]⟩
    · cases h
theorem dels_sub {E : Env} : ∀ (X : List Key) (s : St) k p, (St.dels E X s).heap E k = some p → s.heap E k = some p ∧ k ∉ X
  | [], s, k, p, h => ⟨h, by simp⟩
  | q :: r, s, k, p, h => by
    obtain ⟨h1, h2⟩ := dels_sub r (s.del E q) k p h
    have h3 : s.heap E k = some p ∧ k ≠ q := by
      by_cases hq : q.lvl ≤ E.lvl
      · rw [heap_del hq] at h1
        dsimp only at h1
        split at h1
        · cases h1
        · rename_i hne; exact ⟨h1, hne⟩
      · have hl := heap_lvl h1
        have hne : k ≠ q := by rintro rfl; omega
        refine ⟨?_, hne⟩
        have e : s.del E q = { s with O := fun r => if r = q then none else s.O r } := by
          unfold St.del
          rw [if_neg (by omega)]
        rw [e] at h1
        unfold St.heap heapOf at h1 ⊢
        dsimp only at h1
        rw [if_neg hne] at h1
        exact h1
    exact ⟨h3.1, by simp [h3.2, h2]⟩

section
variable {call : CallFn} {E : Env} {Cx : FuncId → Option (List V → Option V)} {ops : Array Oper} {acts : List Nat} {s0 : St} {σ : Nat → St}

structure Chain (call : CallFn) (E : Env) (Cx : FuncId → Option (List V → Option V)) (ops : Array Oper) (acts : List Nat) (s0 : St) (σ : Nat → St) : Prop where
  start : σ 0 = s0
  step : ∀ j o, ops[j]? = some o → DStep call E Cx ops (ancTab ops.toList []) acts s0 j o (σ j) (σ (j + 1))
  fin : (σ ops.size).c ≤ s0.c + slack

theorem Chain.at_ (h : Chain call E Cx ops acts s0 σ) {j : Nat} (hj : j < ops.size) : ∃ o, ops[j]? = some o ∧ DStep call E Cx ops (ancTab ops.toList []) acts s0 j o (σ j) (σ (j + 1)) ∧ StaticOk E ops (ancTab ops.toList []) acts o j := by
  have e : ops[j]? = some ops[j] := Array.getElem?_eq_getElem hj
  exact ⟨_, e, h.step j _ e, staticOk_spec (h.step j _ e).static⟩
theorem Chain.mono (h : Chain call E Cx ops acts s0 σ) : ∀ {i j : Nat}, i ≤ j → j ≤ ops.size → (σ i).c ≤ (σ j).c := by
  intro i j hij
  induction hij with
  | refl => intro _; exact Nat.le_refl _
  | @step m hm ih =>
    intro hle
    obtain ⟨o, _, hd, _⟩ := h.at_ (j := m) (by omega)
    exact Nat.le_trans (ih (by omega)) hd.cnt
theorem Chain.same (h : Chain call E Cx ops acts s0 σ) : ∀ {i j : Nat}, i ≤ j → j ≤ ops.size → (∀ p, i ≤ p → p < j → acts.contains p = false) → (σ j).heap E = (σ i).heap E ∧ (σ j).c = (σ i).c := by
  intro i j hij
  induction hij with
  | refl => intro _ _; exact ⟨rfl, rfl⟩
  | @step m hm ih =>
    intro hle hp
    obtain ⟨o, _, hd, _⟩ := h.at_ (j := m) (by omega)
    obtain ⟨g1, g2⟩ := ih (by omega) (fun p h1 h2 => hp p h1 (by omega))
    obtain ⟨g3, g4⟩ := hd.still (hp m hm (by omega))
    exact ⟨g3.trans g1, g4.trans g2⟩
theorem Chain.thin (h : Chain call E Cx ops acts s0 σ) {k : Key} : ∀ {i j : Nat}, i ≤ j → j ≤ ops.size → (∀ p, i ≤ p → p < j → acts.contains p = true → watched ops (ancTab ops.toList []) acts p = true ∧ ∃ X, estAt E ops s0 p = some X ∧ k ∉ X) →
    (σ j).heap E k = (σ i).heap E k := by
  intro i j hij
  induction hij with
  | refl => intro _ _; rfl
  | @step m hm ih =>
    intro hle hp
    obtain ⟨o, _, hd, _⟩ := h.at_ (j := m) (by omega)
    have g1 := ih (by omega) (fun p h1 h2 => hp p h1 (by omega))
    cases ha : acts.contains m with
    | false => rw [(hd.still ha).1]; exact g1
    | true =>
      obtain ⟨hw, X, hX, hk⟩ := hp m hm (by omega) ha
      exact (hd.touch hw hX hk).trans g1
theorem Chain.tau (h : Chain call E Cx ops acts s0 σ) {t : Nat} : ∀ {i j : Nat}, i ≤ j → j ≤ ops.size → (∀ p, i ≤ p → p < j → someDst ops p ≠ some t) → tget (σ j).τ t = tget (σ i).τ t := by
  intro i j hij
  induction hij with
  | refl => intro _ _; rfl
  | @step m hm ih =>
    intro hle hp
    obtain ⟨o, ho, hd, _⟩ := h.at_ (j := m) (by omega)
    have g1 := ih (by omega) (fun p h1 h2 => hp p h1 (by omega))
    have := hp m hm (by omega)
    unfold someDst at this
    rw [ho] at this
    exact (hd.tau this).trans g1
theorem Chain.lt (h : Chain call E Cx ops acts s0 σ) : ∀ i, ∀ j ∈ (ancTab ops.toList []).getD i [], j < i :=
  ancTab_lt ops.toList [] (fun j => by simp) (fun j o ho e he hb => (staticOk_spec (h.step j o ho).static).edges e he hb) (fun i j hj => by simp at hj)
theorem Chain.tab {listed : Array Bool} (hc : ClosedL ops listed) : TabOk ops listed (ancTab ops.toList []) :=
  ancTab_ok hc ops.toList [] (fun j => by simp) (fun i o _ _ j hj => by simp at hj)

/-- What holds when some of the operations have come up. -/
structure DInv (E : Env) (ops : Array Oper) (acts : List Nat) (s0 : St) (σ : Nat → St) (w0 : World) (A0 : Nat → Prop) (β0 : Beta) (fuel : Nat) (listed : Array Bool) (a : Act) (w : World) (A : Nat → Prop) (β : Beta) (m : Nat) (un : List Nat) (a0 : Act) : Prop where
  size : listed.size = ops.size
  closed : ClosedL ops listed
  nodup : un.Nodup
  len : un.length ≤ fuel
  done : ∀ j, j < ops.size → j ∉ un → listed.getD j false = true
  mle : m ≤ ops.size
  upto : ∀ p, p < ops.size → acts.contains p = true → (listed.getD p false = true ↔ p < m)
  tr : Tr w0 A0 β0 s0.c (s0.heap E) w A β (σ m).c ((σ m).heap E)
  hr : HR w A β (σ m).c ((σ m).heap E)
  tmps : a.tmps.size = E.n
  defers : MarksOk w A a.defers
  same : a.defers = a0.defers
  val : ∀ t, (∀ j, j < ops.size → someDst ops j = some t → listed.getD j false = true) → IC w A β (tget (σ ops.size).τ t) (a.tmps.getD t undef)
  old : ∀ t, (∀ j, j < ops.size → someDst ops j = some t → listed.getD j false = false) → IC w A β (tget (σ 0).τ t) (a.tmps.getD t undef)

theorem getD_tf {l : Array Bool} {j : Nat} (hj : j < l.size) : l.getD j true = l.getD j false := by
  simp [hj]
theorem put_get {a : Act} {dst : Option Tmp} {c : Value} {t : Nat} (h : dst ≠ some t) : (a.put dst c).tmps.getD t undef = a.tmps.getD t undef := by
  cases dst with
  | none => rfl
  | some d =>
    simp only [Act.put]
    rw [Array.getD_eq_getD_getElem?, Array.getElem?_setIfInBounds_ne (by rintro rfl; exact h rfl), ← Array.getD_eq_getD_getElem?]
theorem put_self {a : Act} {d : Nat} {c : Value} (h : d < a.tmps.size) : (a.put (some d) c).tmps.getD d undef = c := by
  simp only [Act.put]
  rw [Array.getD_eq_getD_getElem?, Array.getElem?_setIfInBounds_self_of_lt h]
  rfl
theorem put_size {a : Act} {dst : Option Tmp} {c : Value} : (a.put dst c).tmps.size = a.tmps.size ∧ (a.put dst c).defers = a.defers := by
  cases dst <;> simp [Act.put]

theorem Chain.anyOrder (a0 : Act) (ro : Option Nat) (n : Nat) (hch : Chain call E Cx ops acts s0 σ) (hcall : SoundCall E.P call) (hhand : SoundHand E.P Cx) (hG : ∀ g ∈ E.ok, GoodF E.P g) {w0 : World} {A0 : Nat → Prop} {β0 : Beta} {Q : Exit → Act → World → Prop}
    (hQ : ∀ a' w' A' β', Tr w0 A0 β0 s0.c (s0.heap E) w' A' β' (σ ops.size).c ((σ ops.size).heap E) → SR E w' A' β' (σ ops.size) a' → a'.defers = a0.defers → Q .normal a' w') :
    ∀ (fuel : Nat) (listed : Array Bool) (a : Act) (w : World) (A : Nat → Prop) (β : Beta) (m : Nat) (un : List Nat), DInv E ops acts s0 σ w0 A0 β0 fuel listed a w A β m un a0 → wpAnyIn (Fi ro) n E.P .any ops Q fuel listed a w := by
  -- all have come up: the end
  have fin : ∀ fuel listed a w A β m un, DInv E ops acts s0 σ w0 A0 β0 fuel listed a w A β m un a0 → (∀ j, j < ops.size → listed.getD j false = true) → Q .normal a w := by
    intro fuel listed a w A β m un inv hall
    have hs := hch.same (i := m) (j := ops.size) inv.mle (Nat.le_refl _) (fun p h1 h2 => by
      cases hp : acts.contains p with
      | false => rfl
      | true => have := (inv.upto p h2 hp).1 (hall p h2); omega)
    refine hQ a w A β ?_ ⟨fun t => inv.val t (fun j hj _ => hall j hj), inv.tmps, ?_, inv.defers⟩ inv.same
    · rw [hs.1, hs.2]; exact inv.tr
    · rw [hs.1, hs.2]; exact inv.hr
  intro fuel
  induction fuel with
  | zero =>
    intro listed a w A β m un inv
    have hun : un = [] := List.eq_nil_of_length_eq_zero (by have := inv.len; omega)
    have hall : ∀ j, j < ops.size → listed.getD j false = true := fun j hj => inv.done j hj (by rw [hun]; simp)
    refine ⟨?_, fin _ _ _ _ _ _ _ _ inv hall⟩
    rw [List.eq_nil_iff_forall_not_mem]
    intro i hi
    obtain ⟨h1, o, ho, _⟩ := mem_ready.1 hi
    have hlt : i < ops.size := by
      rcases Nat.lt_or_ge i ops.size with h | h
      · exact h
      · rw [Array.getElem?_eq_none h] at ho; cases ho
    rw [getD_tf (by rw [inv.size]; exact hlt), hall i hlt] at h1
    cases h1
  | succ fuel ih =>
    intro listed a w A β m un inv
    refine ⟨fun hnil => fin _ _ _ _ _ _ _ _ inv ?_, fun i hi => ?_⟩
    · intro j
      induction j using Nat.strongRecOn with
      | _ j ihj =>
        intro hj
        cases hl : listed.getD j false with
        | true => rfl
        | false =>
          exfalso
          obtain ⟨o, ho, hd, hst⟩ := hch.at_ hj
          have : j ∈ Region.ready .any ops listed := mem_ready.2 ⟨by rw [getD_tf (by rw [inv.size]; exact hj)]; exact hl, o, ho, fun e he hb => ihj e.on (hst.edges e he hb) (Nat.lt_trans (hst.edges e he hb) hj)⟩
          rw [hnil] at this
          cases this
    -- one operation comes up
    obtain ⟨hun, o, ho, hafter⟩ := mem_ready.1 hi
    have hlt : i < ops.size := by
      rcases Nat.lt_or_ge i ops.size with h | h
      · exact h
      · rw [Array.getElem?_eq_none h] at ho; cases ho
    have hul : listed.getD i false = false := by rw [← getD_tf (by rw [inv.size]; exact hlt)]; exact hun
    have hd := hch.step i o ho
    have hst := staticOk_spec hd.static
    have tab := Chain.tab inv.closed
    have hanc : ∀ j ∈ (ancTab ops.toList []).getD i [], listed.getD j false = true := tab i o ho hafter
    have hdesc : ∀ p, p < ops.size → listed.getD p false = true → i ∉ (ancTab ops.toList []).getD p [] := fun p hp hlp hmem => by
      obtain ⟨op, hop, _, _⟩ := hch.at_ hp
      have := tab p op hop (fun e he hb => inv.closed p op hop hlp e he hb) i hmem
      rw [hul] at this
      cases this
    have hval : ∀ t ∈ Oper.looksAt ops o, IC w A β (tget (σ i).τ t) (a.tmps.getD t undef) := fun t ht => by
      by_cases hw : ∃ j, j < ops.size ∧ someDst ops j = some t
      · obtain ⟨j, hj, hdj⟩ := hw
        obtain ⟨oj, hoj, _, hsj⟩ := hch.at_ hj
        have hdj' : oj.dst = some t := by unfold someDst at hdj; rw [hoj] at hdj; exact hdj
        have uniq : ∀ p, p < ops.size → someDst ops p = some t → p = j := fun p hp hd => by
          refine Classical.byContradiction fun hne => ?_
          exact hsj.once t hdj' p hp hne hd
        rcases hst.looks t ht j hj hdj with hb | hb
        · have hji : j < i := hch.lt i j hb
          have h1 := inv.val t (fun p hp hdp => by rw [uniq p hp hdp]; exact hanc j hb)
          have e := hch.tau (t := t) (i := i) (j := ops.size) (by omega) (Nat.le_refl _) (fun p h1 h2 hdp => by have := uniq p h2 hdp; omega)
          rw [← e]
          exact h1
        · have hij : i < j := hch.lt j i hb
          have hjl : listed.getD j false = false := by
            cases hl : listed.getD j false with
            | false => rfl
            | true => exact absurd hb (hdesc j hj hl)
          have h1 := inv.old t (fun p hp hdp => by rw [uniq p hp hdp]; exact hjl)
          have e := hch.tau (t := t) (i := 0) (j := i) (Nat.zero_le _) (by omega) (fun p h1 h2 hdp => by have := uniq p (by omega) hdp; omega)
          rw [e]
          exact h1
      · have h1 := inv.val t (fun j hj hdj => absurd ⟨j, hj, hdj⟩ hw)
        have e := hch.tau (t := t) (i := i) (j := ops.size) (by omega) (Nat.le_refl _) (fun p h1 h2 hp => hw ⟨p, h2, hp⟩)
        rw [← e]
        exact h1
    have hfoc : ∀ t, IC w A β (tget (focus (σ i) (Oper.looksAt ops o)).τ t) (a.tmps.getD t undef) := fun t => by
      show IC w A β (tget (fget (σ i).τ (Oper.looksAt ops o)) t) _
      rw [tget_fget]
      split
      · exact hval t (by assumption)
      · exact IC_junk
    have hsr : ∀ u : St, u.τ = (focus (σ i) (Oper.looksAt ops o)).τ → HR w A β u.c (u.heap E) → SR E w A β u a := fun u hu hh => ⟨fun t => by rw [hu]; exact hfoc t, inv.tmps, hh, inv.defers⟩
    -- what holds behind it
    have next : ∀ (v : V) (cv : Value) (w' : World) (A' : Nat → Prop) (β' : Beta) (m' : Nat), Tr w A β (σ m).c ((σ m).heap E) w' A' β' (σ m').c ((σ m').heap E) → HR w' A' β' (σ m').c ((σ m').heap E) → IC w' A' β' v cv →
        (∀ d, o.dst = some d → d < E.n ∧ tget (σ (i + 1)).τ d = v) → m' ≤ ops.size → (∀ p, p < ops.size → acts.contains p = true → p ≠ i → (listed.getD p false = true ↔ p < m')) → (acts.contains i = true → i < m') →
        wpAnyIn (Fi ro) n E.P .any ops Q fuel (listed.setIfInBounds i true) (a.put o.dst cv) w' := by
      intro v cv w' A' β' m' t hr' hv hdst hm' hup hui
      have set_i : (listed.setIfInBounds i true).getD i false = true := by
        rw [Array.getD_eq_getD_getElem?, Array.getElem?_setIfInBounds_self_of_lt (by rw [inv.size]; exact hlt)]; rfl
      have set_ne : ∀ j, j ≠ i → (listed.setIfInBounds i true).getD j false = listed.getD j false := fun j hj => getD_set_ne false (Ne.symm hj)
      have hmem : i ∈ un := by
        by_cases h : i ∈ un
        · exact h
        · have := inv.done i hlt h; rw [hul] at this; cases this
      refine ih _ _ w' A' β' m' (un.erase i) ⟨by simp [inv.size], fun j oj hoj hlj e he hb => ?_, inv.nodup.erase i, ?_, fun j hj hju => ?_, hm', fun p hp hpa => ?_, inv.tr.trans t, hr', by rw [put_size.1]; exact inv.tmps, by rw [put_size.2]; exact inv.defers.mono t.imm (inv.hr.keep t), by rw [put_size.2]; exact inv.same, fun t' ht' => ?_, fun t' ht' => ?_⟩
      · by_cases hji : j = i
        · subst hji
          rw [ho] at hoj
          injection hoj with hoj
          subst hoj
          exact getD_set_true (hafter e he hb)
        · rw [set_ne j hji] at hlj
          exact getD_set_true (inv.closed j oj hoj hlj e he hb)
      · rw [List.length_erase_of_mem hmem]
        have := inv.len
        omega
      · by_cases hji : j = i
        · subst hji; exact set_i
        · rw [set_ne j hji]
          exact inv.done j hj (fun h => hju ((List.mem_erase_of_ne hji).2 h))
      · by_cases hpi : p = i
        · subst hpi; exact ⟨fun _ => hui hpa, fun _ => set_i⟩
        · rw [set_ne p hpi]; exact hup p hp hpa hpi
      · by_cases hdt : o.dst = some t'
        · obtain ⟨hn, he⟩ := hdst t' hdt
          have e := hch.tau (t := t') (i := i + 1) (j := ops.size) (by omega) (Nat.le_refl _) (fun p h1 h2 => hst.once t' hdt p h2 (by omega))
          rw [e, he, hdt, put_self (by rw [inv.tmps]; exact hn)]
          exact hv
        · rw [put_get hdt]
          refine inv.hr.carry t (inv.val t' (fun j hj hdj => ?_))
          have hji : j ≠ i := by
            rintro rfl
            unfold someDst at hdj
            rw [ho] at hdj
            exact hdt hdj
          have := ht' j hj hdj
          rwa [set_ne j hji] at this
      · have hdt : o.dst ≠ some t' := fun hdt => by
          have := ht' i hlt (by unfold someDst; rw [ho]; exact hdt)
          rw [set_i] at this; cases this
        rw [put_get hdt]
        refine inv.hr.carry t (inv.old t' (fun j hj hdj => ?_))
        have hji : j ≠ i := by
          rintro rfl
          unfold someDst at hdj
          rw [ho] at hdj
          exact hdt hdj
        have := ht' j hj hdj
        rwa [set_ne j hji] at this
    have upto_ne : ∀ p, p < ops.size → acts.contains p = true → p ≠ i → (listed.getD p false = true ↔ p < m) := fun p hp hpa _ => inv.upto p hp hpa
    -- an operation that does not move the heap's number
    have quietM : acts.contains i = false → ∀ (v : V) (cv : Value) (w' : World) (A' : Nat → Prop) (β' : Beta), Tr w A β (σ m).c ((σ m).heap E) w' A' β' (σ m).c ((σ m).heap E) → HR w' A' β' (σ m).c ((σ m).heap E) → IC w' A' β' v cv →
        (∀ d, o.dst = some d → d < E.n ∧ tget (σ (i + 1)).τ d = v) → wpAnyIn (Fi ro) n E.P .any ops Q fuel (listed.setIfInBounds i true) (a.put o.dst cv) w' := fun hna v cv w' A' β' t hr' hv hdst =>
      next v cv w' A' β' m t hr' hv hdst inv.mle upto_ne (fun h => by rw [hna] at h; cases h)
    -- an actor: the heap is the text order's
    have actorM : acts.contains i = true → m ≤ i ∧ (σ i).heap E = (σ m).heap E ∧ (σ i).c = (σ m).c ∧ (∀ p, p < ops.size → acts.contains p = true → p ≠ i → (listed.getD p false = true ↔ p < i + 1)) := fun hact => by
      have hmi : m ≤ i := by
        refine Nat.le_of_not_lt fun h => ?_
        have := (inv.upto i hlt hact).2 h
        rw [hul] at this
        cases this
      have before : ∀ p, p < ops.size → acts.contains p = true → p < i → listed.getD p false = true := fun p hp hpa hpi => hanc p ((hst.actors hact p hpa (by omega)).1 hpi)
      have hs := hch.same (i := m) (j := i) hmi (by omega) (fun p h1 h2 => by
        cases hp : acts.contains p with
        | false => rfl
        | true => have := (inv.upto p (by omega) hp).1 (before p (by omega) hp h2); omega)
      refine ⟨hmi, hs.1, hs.2, fun p hp hpa hpi => ⟨fun hl => ?_, fun hl => before p hp hpa (by omega)⟩⟩
      refine Nat.lt_of_not_le fun hle => ?_
      exact hdesc p hp hl ((hst.actors hact p hpa hpi).2 (by omega))
    unfold wpOpIn
    rw [ho]
    dsimp only
    rcases hd.step with ⟨hw, hset⟩ | ⟨hw, hact, v, s1, hop, hc, _, hset⟩ | ⟨hw, hact, v, hq, hset⟩
    · rw [wanted_sound hfoc hw, if_neg (by simp)]
      refine ⟨fun _ _ => trivial, ?_⟩
      have hh := setD_heap hset
      have huv : IC w A β (.tup []) undef := by simp [IC, ICs, undef]
      cases hact : acts.contains i with
      | false => exact quietM hact _ undef w A β (Tr.refl ..) inv.hr huv (setD_tau hset).2
      | true =>
        obtain ⟨h1, h2, h3, h4⟩ := actorM hact
        refine next _ undef w A β (i + 1) ?_ ?_ huv (setD_tau hset).2 (by omega) h4 (fun _ => by omega)
        · rw [hh.1, hh.2, h2, h3]; exact Tr.refl ..
        · rw [hh.1, hh.2, h2, h3]; exact inv.hr
    · rw [wanted_sound hfoc hw, if_pos rfl]
      obtain ⟨h1, h2, h3, h4⟩ := actorM hact
      have hh := setD_heap hset
      refine oper_in ro n (aop_nodefer hop) (aop_sound (hsr (focus (σ i) (Oper.looksAt ops o)) rfl (by rw [focus_heap, h2]; show HR w A β (σ i).c _; rw [h3]; exact inv.hr)) hcall hhand hG hop ⟨?_, ?_⟩)
      · rintro v' s1' cv w' A' β' heq st hv
        injection heq with e1 e2
        subst e1; subst e2
        have hheap : (σ (i + 1)).heap E = s1.heap E := hh.1
        have hcc : (σ (i + 1)).c = s1.c := hh.2
        have t1 := st.1
        rw [focus_heap, h2] at t1
        have t2 : Tr w A β (σ m).c ((σ m).heap E) w' A' β' s1.c (s1.heap E) := by rw [← h3]; exact t1
        exact next v cv w' A' β' (i + 1) (by rw [hheap, hcc]; exact t2) (by rw [hheap, hcc]; exact st.2.1) hv (setD_tau hset).2 (by omega) h4 (fun _ => by omega)
      · rintro v' s1' cv w' A' β' heq; cases heq
    · rw [wanted_sound hfoc hw, if_pos rfl]
      -- the state that the operation is looked at in lies under the real one
      have hq0 := hq
      have hunder : (∀ k p, (qState E ops (ancTab ops.toList []) acts s0 (focus (σ i) (Oper.looksAt ops o)) i).heap E k = some p → (σ m).heap E k = some p) ∧ (qState E ops (ancTab ops.toList []) acts s0 (focus (σ i) (Oper.looksAt ops o)) i).τ = (focus (σ i) (Oper.looksAt ops o)).τ ∧ (σ m).c ≤ (qState E ops (ancTab ops.toList []) acts s0 (focus (σ i) (Oper.looksAt ops o)) i).c := by
        have hcm : (σ m).c ≤ (σ i).c + slack := by
          have h1 := hch.mono (i := m) (j := ops.size) inv.mle (Nat.le_refl _)
          have h2 := hch.mono (i := 0) (j := i) (Nat.zero_le _) (by omega)
          rw [hch.start] at h2
          have := hch.fin
          omega
        unfold qState
        split
        · rename_i X hX
          have hg := gatherK_mem hX
          have hdk : ∀ ks (u : St), (St.dels E ks u).τ = u.τ := fun ks => by
            induction ks with
            | nil => intro u; rfl
            | cons k r ihk => intro u; unfold St.dels; rw [ihk]; exact del_lc.1
          refine ⟨fun k p hk => ?_, hdk X _, hcm⟩
          obtain ⟨k1, k2⟩ := dels_sub X (focus (σ i) (Oper.looksAt ops o)) k p hk
          rw [focus_heap] at k1
          have hap : ∀ p, p < ops.size → acts.contains p = true → p ∉ (ancTab ops.toList []).getD i [] → i ∉ (ancTab ops.toList []).getD p [] → watched ops (ancTab ops.toList []) acts p = true ∧ ∃ X, estAt E ops s0 p = some X ∧ k ∉ X := fun p hp hpa h1 h2 => by
            have hai : apartI (ancTab ops.toList []) i p = true := by
              unfold apartI
              simp only [Bool.and_eq_true, Bool.not_eq_true', List.contains_eq_mem, decide_eq_false_iff_not]
              exact ⟨h1, h2⟩
            refine ⟨?_, ?_⟩
            · unfold watched
              rw [List.any_eq_true]
              exact ⟨i, List.mem_range.2 hlt, by rw [hact, hai]; rfl⟩
            · obtain ⟨Y, hY, hYX⟩ := hg p (List.mem_filter.2 ⟨by simpa using hpa, hai⟩)
              exact ⟨Y, hY, fun hkY => k2 (hYX k hkY)⟩
          have hmle := inv.mle
          rcases Nat.le_total m i with hmi | him
          · have := hch.thin (k := k) hmi (by omega) (fun p h1 h2 hpa => by
              have hnl : listed.getD p false = false := by
                cases e : listed.getD p false with
                | false => rfl
                | true => have := (inv.upto p (by omega) hpa).1 e; omega
              refine hap p (by omega) hpa (fun hm => ?_) (fun hm => ?_)
              · have := hanc p hm; rw [hnl] at this; cases this
              · have := hch.lt p i hm; omega)
            rw [← this]
            exact k1
          · have := hch.thin (k := k) him inv.mle (fun p h1 h2 hpa => by
              have hl : listed.getD p false = true := (inv.upto p (by omega) hpa).2 h2
              refine hap p (by omega) hpa (fun hm => ?_) (fun hm => hdesc p (by omega) hl hm)
              have := hch.lt i p hm; omega)
            rw [this]
            exact k1
        · refine ⟨fun k p hk => ?_, rfl, hcm⟩
          exfalso
          unfold St.heap heapOf at hk
          dsimp only at hk
          split at hk
          · simp [lget] at hk
          · split at hk <;> cases hk
      generalize qState E ops (ancTab ops.toList []) acts s0 (focus (σ i) (Oper.looksAt ops o)) i = u at hq hunder
      obtain ⟨g1, g2, g3⟩ := hunder
      refine oper_in ro n (qop_nodefer hq) (qop_sound (hsr u g2 (inv.hr.under g1 g3)) hcall hhand hG hq (fun cv w' A' β' st hv => ?_))
      obtain ⟨f1, f2⟩ := inv.hr.frame g1 g3 st.1 st.2.1
      exact quietM hact v cv w' A' β' f1 f2 hv (setD_tau hset).2

theorem rep_false (m j : Nat) : (Array.replicate m false).getD j false = false := by
  rcases Nat.lt_or_ge j m with h | h
  · simp [h]
  · simp [h]
theorem drawR_sound (ro : Option Nat) (n : Nat) (hm : E.P.follows .mixedOrders = true) (hcall : SoundCall E.P call) (hhand : SoundHand E.P Cx) (hG : ∀ g ∈ E.ok, GoodF E.P g) {id : Nat} {s s' : St} (h : drawR call E Cx ops s = some s') :
    Runs E s .norm s' (fun Q a w => (Code.region id ops true).wpIn (Fi ro) n E.P Q a w) := by
  intro w A β a hs Q hQ
  obtain ⟨σ, h1, h2, h3, h4⟩ := drawOps_chain call E Cx ops _ _ s ops.toList 0 s s' h
  have hn : 0 + ops.toList.length = ops.size := by simp
  rw [hn] at h2
  have hch : Chain call E Cx ops (actorsOf E ops.toList 0) s σ := ⟨h1, fun j o hj => by have := h4 j o (by simpa using hj); simpa using this, by rw [h2]; exact h3⟩
  refine wpIn_region_any hm ?_
  have hsame : ∀ v c, IC w A β v c → IC { w with drawn := w.drawn + 1 } A β v c := fun v c hv => IC.mono (w := w) (w' := { w with drawn := w.drawn + 1 }) (fun _ h => h) (fun _ _ => rfl) (fun _ _ _ h => h) v c hv
  have hOC : ∀ i o, OC w A β i o → OC { w with drawn := w.drawn + 1 } A β i o := fun i o ho => OC.mono (w := w) (w' := { w with drawn := w.drawn + 1 }) (fun _ h => h) (fun _ _ => rfl) (fun _ _ _ h => h) (fun _ _ => rfl) ho
  refine hch.anyOrder a ro n hcall hhand hG (w0 := w) (A0 := A) (β0 := β) (Q := Q) (fun a' w' A' β' t hs' hd => ?_) ops.size _ a _ A β 0 (List.range ops.size) ⟨by simp, fun j oj _ hl => ?_, List.nodup_range, by simp, fun j hj hju => absurd (List.mem_range.2 hj) hju, Nat.zero_le _, fun p hp _ => ⟨fun hl => ?_, fun h => by omega⟩, ?_, ?_, hs.size, hs.defers.mono (fun _ h => h) (fun _ _ => rfl), rfl, fun t ht => ?_, fun t _ => ?_⟩
  · rw [h2] at t hs'
    exact hQ a' w' A' β' ⟨t, [], by rw [hd]; rfl, fun _ h => by cases h⟩ hs'
  · rw [rep_false] at hl; cases hl
  · rw [rep_false] at hl; cases hl
  · rw [h1]
    exact ⟨Nat.le_refl _, rfl, rfl, rfl, fun _ _ _ => rfl, fun _ _ _ => rfl, Nat.le_refl _, fun _ h => h, fun _ h => .inl h, fun _ h => .inl h⟩
  · rw [h1]
    exact ⟨fun k v o hk => let ⟨i, e, ho⟩ := hs.heap.obj k v o hk; ⟨i, e, hOC i o ho⟩, hs.heap.sep, hs.heap.imm, hs.heap.fresh, hs.heap.laid.step (fun _ _ => rfl) (fun _ h => h)⟩
  · have e := hch.tau (t := t) (i := 0) (j := ops.size) (Nat.zero_le _) (Nat.le_refl _) (fun p _ hp hd => by
      have := ht p hp hd
      rw [rep_false] at this; cases this)
    rw [e, h1]
    exact hsame _ _ (hs.tmp t)
  · rw [h1]
    exact hsame _ _ (hs.tmp t)
end
end Go.Vi
namespace Go.Vi
open Go

/-- A loop, from its body's begin. -/
def LoopAt (ro : Option Nat) (n : Nat) (P : Program) (c : Code) (Q : Exit → Act → World → Prop) (a : Act) (w : World) : Prop :=
  ∀ (b : Frame) (k : List Item) (cs : List Frame), b.roundOf = ro → ∃ e a' w', Q e a' w' ∧ ArrivesIn (Machine.fenced P (Fi ro)) P (lone (b.atR a (.code c :: .inLoop c :: k)) cs w) b k cs e a' w'
theorem LoopAt.wp {ro n P c Q a w} (h : LoopAt ro n P c Q a w) : (Code.loop c).wpIn (Fi ro) n P Q a w := fun b k cs hro _ _ =>
  let ⟨e, a', w', q, r⟩ := h b k cs hro
  ⟨e, a', w', q, .of_steps (.one (Fi.fenced _) stepR_loop) r⟩
theorem LoopAt.round {ro n P c Q a w} (h : c.wpIn (Fi ro) n P (Exit.then (LoopAt ro n P c Q) Q) a w) : LoopAt ro n P c Q a w := by
  intro b k cs hro
  obtain ⟨e, a₁, w₁, hq, harr⟩ := h b (.inLoop c :: k) cs hro trivial Fi.room
  cases e with
  | normal =>
    obtain ⟨e₂, a₂, w₂, hq₂, harr₂⟩ := hq b k cs hro
    exact ⟨e₂, a₂, w₂, hq₂, .of_steps (StepsIn.trans harr (.one (Fi.fenced _) stepR_inLoop)) harr₂⟩
  | exit id => exact ⟨_, a₁, w₁, hq, .pass (x := .inLoop c) rfl (fun _ _ => .inl (by simp)) harr⟩
  | goto l => exact ⟨_, a₁, w₁, hq, .pass (x := .inLoop c) rfl (fun _ _ => .inl (by simp)) harr⟩
  | ret => exact ⟨_, a₁, w₁, hq, .pass (x := .inLoop c) rfl (fun _ _ => .inl (by simp)) harr⟩
  | panic ch => exact ⟨_, a₁, w₁, hq, .pass (x := .inLoop c) rfl (fun _ _ => .inl (by simp)) harr⟩
  | outgrown => exact ⟨_, a₁, w₁, hq, .pass (x := .inLoop c) rfl (fun _ _ => .inl (by simp)) harr⟩
theorem stepR_scope {P : Program} {b : Frame} {a : Act} {k : List Item} {cs : List Frame} {w : World} {c : Code} : step P (lone (b.atR a (.code (.scope c) :: k)) cs w) = .next (lone (b.atR a (.code c :: .inScope c :: k)) cs w) :=
  step_lone_go (by simp [stepG, stepG.exec, Frame.atR])
theorem stepR_inScope {P : Program} {b : Frame} {a : Act} {k : List Item} {cs : List Frame} {w : World} {c : Code} : step P (lone (b.atR a (.inScope c :: k)) cs w) = .next (lone (b.atR a k) cs w) :=
  step_lone_go (by simp [stepG, stepG.exec, Frame.atR])
theorem scope_in {ro n P Q a w} {c : Code} (h : c.wpIn (Fi ro) n P (Exit.noGoto Q) a w) : (Code.scope c).wpIn (Fi ro) n P Q a w := by
  intro b k cs hro hb hr
  obtain ⟨e, a₁, w₁, hq, harr⟩ := h b (.inScope c :: k) cs hro hb hr
  have h0 := Fi.fenced (P := P) (ro := ro) (lone (b.atR a (.code (.scope c) :: k)) cs w)
  cases e with
  | normal => exact ⟨.normal, a₁, w₁, hq, .head h0 stepR_scope (StepsIn.trans harr (.one (Fi.fenced _) stepR_inScope))⟩
  | exit id =>
    have hx : exitTo id (.inScope c :: k) = exitTo id k := by simp [exitTo]
    exact ⟨.exit id, a₁, w₁, hq, fun k' hk => .head h0 stepR_scope (harr.1 k' (by rw [hx]; exact hk)), fun hr' hk => let ⟨k₁, h1, h2⟩ := harr.2 hr' (by rw [hx]; exact hk); ⟨k₁, h1, .head h0 stepR_scope h2⟩⟩
  | goto l => exact hq.elim
  | ret => exact ⟨_, a₁, w₁, hq, .of_steps (.one h0 stepR_scope) harr⟩
  | panic ch => exact ⟨_, a₁, w₁, hq, .of_steps (.one h0 stepR_scope) harr⟩
  | outgrown => exact ⟨_, a₁, w₁, hq, .of_steps (.one h0 stepR_scope) harr⟩

theorem iter_sound {ro : Option Nat} {m : Nat} {E : Env} {f : St → Option (Ex × St)} {c : Code} (hf : ∀ s e s', f s = some (e, s') → Runs E s e s' (fun Q a w => c.wpIn (Fi ro) m E.P Q a w)) :
    ∀ (n : Nat) (s : St) (e : Ex) (s' : St), iter f n s = some (e, s') → Runs E s e s' (fun Q a w => LoopAt ro m E.P c Q a w)
  | 0, s, e, s', h => by cases h
  | n + 1, s, e, s', h => by
    intro w A β a hs Q hQ
    unfold iter at h
    apply LoopAt.round
    split at h
    · rename_i s1 h1
      refine hf s _ _ h1 w A β a hs _ (fun a' w' A' β' t hs' => ?_)
      exact iter_sound hf n s1 e s' h w' A' β' a' hs' Q (fun a'' w'' A'' β'' t' hs'' => hQ a'' w'' A'' β'' (t.trans t') hs'')
    · rename_i hne
      refine hf s e s' h w A β a hs _ (fun a' w' A' β' t hs' => ?_)
      have := hQ a' w' A' β' t hs'
      cases e with
      | norm => exact absurd h (hne s')
      | exit id => exact this
      | ret => exact this
      | pan v => exact this

theorem HR.drop {w w' : World} {A β c H H' k v o i l} (h : HR w A β c H) (hk : H k = some (v, o)) (hi : β k v = some i) (hl : i.b = some l) (hs : ∀ q p, H' q = some p → H q = some p ∧ q ≠ k) (hw : ∀ b, b ≠ l → w'.heap[b]? = w.heap[b]?) (hsz : w.heap.size ≤ w'.heap.size) : HR w' A β c H' := by
  have hne : ∀ b, A b → b ≠ l := fun b hb e => (h.imm b hb).2 ⟨k, v, o, i, hk, hi, by rw [e]; exact hl⟩
  refine ⟨fun q u p hq => ?_, fun q q' u u' p p' j j' b h1 h2 => h.sep q q' u u' p p' j j' b (hs q _ h1).1 (hs q' _ h2).1, fun b hb => ⟨Nat.lt_of_lt_of_le (h.imm b hb).1 hsz, fun hm => (h.imm b hb).2 (hm.mono fun q p hq => (hs q p hq).1)⟩, h.fresh, h.laid.step (fun b hb => hw b (hne b hb)) (fun _ h => h)⟩
  obtain ⟨j, e, ho⟩ := h.obj q u p (hs q _ hq).1
  refine ⟨j, e, ho.mono (fun _ h => h) (fun b hb => sameC (hw b (hne b hb))) (fun _ _ _ h => h) (fun b hb => hw b ?_)⟩
  rintro rfl
  exact (hs q _ hq).2 (h.sep q k u v p o j i b (hs q _ hq).1 hk e hi hb hl)

theorem rangeV_sound {E : Env} {call : CallFn} (hcall : SoundCall E.P call) (hG : ∀ g ∈ E.ok, GoodF E.P g) {ro : Option Nat} (hro : E.inr = false → ro = none) (n : Nat) {f : Operand} {ps : Array Tmp} {as bd : Code} {s s' : St} {e : Ex} {w A β a Q} (hs : SR E w A β s a) (h : rangeV call E (evalO s f) ps.toList as bd s = some (e, s'))
    (hQ : ∀ a' w' A' β', TrA w A β s.c (s.heap E) w' A' β' s'.c (s'.heap E) a a' → SR E w' A' β' s' a' → ExQ e Q w' A' β' a') : (Code.rangeFunc f ps as bd).wpIn (Fi ro) n E.P Q a w := by
  unfold rangeV at h
  split at h
  case h_2 => cases h
  rename_i g first caps hf
  obtain ⟨⟨hok, hinr⟩, h⟩ := ite_some' h
  have hro := hro hinr
  subst hro
  have hfv := hs.eval f
  rw [hf] at hfv
  simp only [IC] at hfv
  obtain ⟨x, y, hcf, hx, hy⟩ := hfv
  refine wpIn_rangeFunc fun fn _ => ?_
  -- the blocks
  generalize hr0 : ({ state := .ready, pending := none, fn := fn, tmps := a.tmps, params := ps, assign := as, body := bd, defers := w.heap.size } : Loop) = r0
  let w1 := w.alloc (.deferred (some []))
  let w2 := w1.alloc (.loop r0)
  have p1 : Pushed w w1 (.deferred (some [])) := ⟨rfl, rfl, rfl, rfl⟩
  have p2 : Pushed w1 w2 (.loop r0) := ⟨rfl, rfl, rfl, rfl⟩
  have z1 : w1.heap.size = w.heap.size + 1 := p1.size
  let A1 : Nat → Prop := fun b => A b ∨ b = w.heap.size
  have t1 : Tr w A β s.c (s.heap E) w1 A1 β s.c (s.heap E) := ⟨by omega, rfl, rfl, rfl, fun b hb _ => p1.old hb, fun _ _ _ => rfl, Nat.le_refl _, fun _ h => .inl h, fun b hb => hb.elim .inl (fun h => .inr (.inr (by omega))), fun b hb => .inl hb⟩
  have h1 : HR w1 A1 β s.c (s.heap E) := by
    refine ⟨fun k v o hk => ?_, hs.heap.sep, fun b hb => ?_, hs.heap.fresh, hs.heap.laid.step (fun b hb => p1.old (hs.heap.imm b hb).1) (fun _ hb => .inl hb)⟩
    · obtain ⟨i, e, ho⟩ := hs.heap.obj k v o hk
      exact ⟨i, e, ho.mono (fun _ h => .inl h) (fun b hb => sameC (p1.old (hs.heap.imm b hb).1)) (fun _ _ _ h => h) (fun b hb => p1.old (hs.heap.lt ⟨k, v, o, i, hk, e, hb⟩))⟩
    · rcases hb with hb | rfl
      · exact ⟨by have := (hs.heap.imm b hb).1; omega, (hs.heap.imm b hb).2⟩
      · exact ⟨by omega, fun hm => by have := hs.heap.lt hm; omega⟩
  have s1 : SR E w1 A1 β s a := ⟨fun t => hs.heap.carry t1 (hs.tmp t), hs.size, h1, hs.defers.mono t1.imm (hs.heap.keep t1)⟩
  generalize hS1 : ({ s.put E (loopKey E) s.c (.loop (lpOf E) s.τ ps.toList as bd .ready none) with c := s.c + 1 } : St) = S1 at h
  have hh : S1.heap E = fun q => if q = loopKey E then some (s.c, .loop (lpOf E) s.τ ps.toList as bd .ready none) else s.heap E q := by
    rw [← hS1]
    show (s.put E (loopKey E) s.c _).heap E = _
    rw [heap_put (Nat.le_refl _)]
  have hSc : S1.c = s.c + 1 := by rw [← hS1]
  have hSτ : S1.τ = s.τ := by rw [← hS1]; exact put_lc.1
  have hβ : ∀ q v j, β q v = some j → (if q = loopKey E ∧ v = s.c then some (⟨some (w.heap.size + 1), 0, 1, 1⟩ : Info) else β q v) = some j := fun q v j hj => by
    rw [if_neg]; exact hj
    rintro ⟨_, rfl⟩
    rw [h1.fresh q s.c (Nat.le_refl _)] at hj
    cases hj
  have st2 : Step E w1 A1 β s w2 A1 (fun q v => if q = loopKey E ∧ v = s.c then some (⟨some (w.heap.size + 1), 0, 1, 1⟩ : Info) else β q v) S1 := by
    refine Step.new (k := loopKey E) (o := .loop (lpOf E) s.τ ps.toList as bd .ready none) (i := ⟨some (w.heap.size + 1), 0, 1, 1⟩) h1 hSτ hSc ?_ ?_ p2.os p2.tape p2.output (by rw [p2.size]; omega) (fun b hb => .inl (p2.old hb)) ?_ ?_
    · intro q p hq hp
      rw [hh] at hp
      simpa only [if_neg hq] using hp
    · rw [hh]; simp
    · intro b hb
      injection hb with hb
      subst hb
      refine ⟨.inl (by omega), fun q v p j hq hp hj hjb => ?_⟩
      rw [hh] at hp
      simp only [if_neg hq] at hp
      have := h1.lt ⟨q, v, p, j, hp, hj, hjb⟩
      omega
    · unfold OC
      refine ⟨w.heap.size + 1, r0, rfl, rfl, by rw [← z1]; exact p2.new, ?_⟩
      subst hr0
      exact ⟨rfl, rfl, rfl, rfl, rfl, hs.size, fun t => IC.mono (fun _ h => h) (fun b hb => sameC (p2.old (h1.imm b hb).1)) hβ _ _ (s1.tmp t)⟩
  generalize hβ1 : (fun q v => if q = loopKey E ∧ v = s.c then some (⟨some (w.heap.size + 1), 0, 1, 1⟩ : Info) else β q v) = β1 at st2
  have hβk : β1 (loopKey E) s.c = some ⟨some (w.heap.size + 1), 0, 1, 1⟩ := by rw [← hβ1]; simp
  have tw2 : Tr w A β s.c (s.heap E) w2 A1 β1 S1.c (S1.heap E) := t1.trans st2.1
  refine ⟨w.heap.size + 1, [markD w.heap.size], w2, { target := .fn (.func g) y, args := x ++ #[.func (.yield (w.heap.size + 1)) #[] #[]] }, w2, g, x ++ #[.func (.yield (w.heap.size + 1)) #[] #[]] ++ y, w2, ?_, ?_, fun _ _ => trivial, ?_, fun h => (by cases h), ?_⟩
  · subst hr0
    exact run_enterLoop_outer ..
  · show (Deferred.ofValue (a.eval f) (#[Operand.const (.func (.yield (w.heap.size + 1)) #[] #[])].map a.eval)).run E.P w2 = _
    rw [hcf]
    simp [Deferred.ofValue, Act.eval]
  · simp only [invoke]
    exact callFunc_run (hG g (by simpa using hok))
  · have hargs : ICs w2 A1 β1 (first ++ [.mref (loopKey E) s.c] ++ caps) (x ++ #[Value.func (.yield (w.heap.size + 1)) #[] #[]] ++ y).toList := by
      simp only [Array.toList_append]
      refine ((hs.heap.carrys tw2 hx).app ?_).app (hs.heap.carrys tw2 hy)
      simp only [ICs, IC]
      exact ⟨_, [], rfl, ⟨_, _, hβk, rfl, by simp [mrefC]⟩, rfl⟩
    obtain ⟨⟨o3, c', O'⟩, hcl, h⟩ := Option.bind_eq_some_iff.1 h
    dsimp only at h
    unfold rangeEnd at h
    split at h
    case h_2 => cases h
    obtain ⟨_, hC⟩ := hcall.fn g _ (E.lvl + 1) S1.c (S1.heap E) _ c' O' hcl heap_above
    refine calls_in.2 ((hC w2 A1 β1 _ st2.2.1 hargs).mono ?_)
    rintro e3 w3 ⟨A3, β3, cv, l', rfl, _, tk⟩
    have st3 := back_step (E := E) (s := S1) tk.tr tk.hr
    split at h
    case h_2 => cases h
    rename_i hh' τ' ps' as' bd' stt pend hob
    split at h
    · cases h
    rename_i hnb
    simp only [Option.map_eq_some_iff, Prod.mk.injEq] at h
    obtain ⟨ex, hex, rfl, rfl⟩ := h
    have hobh := obj_heap hob
    obtain ⟨i, hi, hoc⟩ := st3.2.1.obj _ _ _ hobh
    have hi2 : i = ⟨some (w.heap.size + 1), 0, 1, 1⟩ := by
      have := tk.tr.beta (loopKey E) s.c (by omega)
      rw [this, hβk] at hi
      injection hi with hi
      exact hi.symm
    unfold OC at hoc
    obtain ⟨b, r, hb, _, hwb, _, _, _, hst, hpend, _, _⟩ := hoc
    have hbl : b = w.heap.size + 1 := by rw [hi2] at hb; injection hb with hb; exact hb.symm
    subst hbl
    have hnbusy : r.state ≠ .busy := by
      rw [hst]
      cases stt <;> simp [lsC] at hnb ⊢
    refine ⟨r.pending, _, run_endLoop hwb hnbusy, ?_⟩
    generalize hw4 : w3.putObj (w.heap.size + 1) (.loop { r with state := .exhausted }) = w4
    have hoth : ∀ b2, b2 ≠ w.heap.size + 1 → w4.heap[b2]? = w3.heap[b2]? := fun b2 hb2 => by rw [← hw4]; exact World.putObj_heap_other hb2
    have hsz4 : w4.heap.size = w3.heap.size := by rw [← hw4]; simp
    have hdel : ∀ q p, ((back E S1 c' O').del E (loopKey E)).heap E q = some p → (back E S1 c' O').heap E q = some p ∧ q ≠ loopKey E := fun q p hq => by
      rw [heap_del (Nat.le_refl _)] at hq
      dsimp only at hq
      split at hq
      · cases hq
      · rename_i hne; exact ⟨hq, hne⟩
    have hcd : ((back E S1 c' O').del E (loopKey E)).c = (back E S1 c' O').c := del_lc.2
    have h4 : HR w4 A3 β3 (back E S1 c' O').c (((back E S1 c' O').del E (loopKey E)).heap E) := st3.2.1.drop hobh hi hb hdel hoth (by omega)
    have t4 : Tr w3 A3 β3 (back E S1 c' O').c ((back E S1 c' O').heap E) w4 A3 β3 (back E S1 c' O').c (((back E S1 c' O').del E (loopKey E)).heap E) :=
      ⟨by omega, by rw [← hw4]; rfl, by rw [← hw4]; rfl, by rw [← hw4]; rfl, fun b2 _ hm => hoth b2 (by rintro rfl; exact hm ⟨_, _, _, i, hobh, hi, hb⟩), fun _ _ _ => rfl, Nat.le_refl _, fun _ h => h, fun _ h => .inl h, fun b2 hm => .inl (hm.mono fun q p hq => (hdel q p hq).1)⟩
    have tall : Tr w A β s.c (s.heap E) w4 A3 β3 (back E S1 c' O').c (((back E S1 c' O').del E (loopKey E)).heap E) := tw2.trans (st3.1.trans t4)
    have t14 : Tr w1 A1 β s.c (s.heap E) w4 A3 β3 (back E S1 c' O').c (((back E S1 c' O').del E (loopKey E)).heap E) := st2.1.trans (st3.1.trans t4)
    have hdτ : ((back E S1 c' O').del E (loopKey E)).τ = s.τ := del_lc.1.trans hSτ
    have hsr : SR E w4 A3 β3 ((back E S1 c' O').del E (loopKey E)) { a with defers := [markD w.heap.size] ++ a.defers } := by
      refine ⟨fun t => ?_, hs.size, by rw [hcd]; exact h4, ⟨fun d hd => ?_, ?_⟩⟩
      · rw [hdτ]; exact hs.heap.carry tall (hs.tmp t)
      · rcases List.mem_cons.1 hd with rfl | hd
        · exact .inr ⟨w.heap.size, rfl, t14.imm _ (.inr rfl), (h1.keep t14 _ (.inr rfl)).trans p1.new⟩
        · exact (hs.defers.mono tall.imm (hs.heap.keep tall)).each d hd
      · refine List.nodup_cons.2 ⟨fun hd => ?_, hs.defers.nodup⟩
        rcases hs.defers.each _ hd with ⟨fv, cap, e0⟩ | ⟨r', e1, e2, _⟩
        · cases e0
        have : w.heap.size = r' := by injection e1 with e1; injection e1
        have := (hs.heap.imm _ e2).1
        omega
    have hta : TrA w A β s.c (s.heap E) w4 A3 β3 ((back E S1 c' O').del E (loopKey E)).c (((back E S1 c' O').del E (loopKey E)).heap E) a { a with defers := [markD w.heap.size] ++ a.defers } :=
      ⟨by rw [hcd]; exact tall, [markD w.heap.size], rfl, fun d hd => ⟨_, List.mem_singleton.1 hd, Nat.le_refl _⟩⟩
    have fin := hQ _ w4 A3 β3 hta hsr
    rw [hpend]
    unfold jumpEx at hex
    split at hex
    · injection hex with hex; subst hex; exact fin
    · injection hex with hex; subst hex; exact wpIn_exit fin
    · injection hex with hex; subst hex; exact wpIn_ret fin
    · cases hex

section
variable {E : Env} {call : CallFn} {Cx : FuncId → Option (List V → Option V)} (hcall : SoundCall E.P call) (hhand : SoundHand E.P Cx) (hG : ∀ g ∈ E.ok, GoodF E.P g) (hm : E.P.follows .mixedOrders = true)
include hcall hhand hG hm
theorem evC_sound (ro : Option Nat) (hro : E.inr = false → ro = none) (n : Nat) (fuel : Nat) : ∀ (c : Code) (s : St) (e : Ex) (s' : St), evC call E Cx fuel c s = some (e, s') → Runs E s e s' (fun Q a w => c.wpIn (Fi ro) n E.P Q a w)
  | .skip, s, e, s', h => by
    simp only [evC, Option.some.injEq, Prod.mk.injEq] at h
    obtain ⟨rfl, rfl⟩ := h
    intro w A β a hs Q hQ
    exact wpIn_skip (hQ a w A β (TrA.refl ..) hs)
  | .label l, s, e, s', h => by
    simp only [evC, Option.some.injEq, Prod.mk.injEq] at h
    obtain ⟨rfl, rfl⟩ := h
    intro w A β a hs Q hQ
    exact wpIn_label (hQ a w A β (TrA.refl ..) hs)
  | .ret, s, e, s', h => by
    simp only [evC, Option.some.injEq, Prod.mk.injEq] at h
    obtain ⟨rfl, rfl⟩ := h
    intro w A β a hs Q hQ
    exact wpIn_ret (hQ a w A β (TrA.refl ..) hs)
  | .exit id, s, e, s', h => by
    simp only [evC, Option.some.injEq, Prod.mk.injEq] at h
    obtain ⟨rfl, rfl⟩ := h
    intro w A β a hs Q hQ
    exact wpIn_exit (hQ a w A β (TrA.refl ..) hs)
  | .region id ops false, s, e, s', h => by
    simp only [evC, Option.map_eq_some_iff, Prod.mk.injEq] at h
    obtain ⟨⟨e1, s1⟩, h, rfl, rfl⟩ := h
    intro w A β a hs Q hQ
    refine wpIn_region_list (evOps_sound hcall hhand hG ro n ops _ _ _ _ h w A β a hs Q (fun a' w' A' β' t hs' => ?_))
    exact hQ a' w' A' β' (t.thin rfl (fun k p hk => tidy_heap hk)) hs'.tidy
  | .region id ops true, s, e, s', h => by
    simp only [evC, Option.map_eq_some_iff, Prod.mk.injEq] at h
    obtain ⟨s1, h, rfl, rfl⟩ := h
    intro w A β a hs Q hQ
    refine drawR_sound ro n hm hcall hhand hG h w A β a hs Q (fun a' w' A' β' t hs' => ?_)
    exact hQ a' w' A' β' (t.thin rfl (fun k p hk => tidy_heap hk)) hs'.tidy
  | .seq x y, s, e, s', h => by
    simp only [evC] at h
    intro w A β a hs Q hQ
    apply wpIn_seq
    split at h
    · rename_i s1 h1
      refine evC_sound ro hro n fuel x s _ _ h1 w A β a hs _ (fun a' w' A' β' t hs' => ?_)
      exact evC_sound ro hro n fuel y s1 e s' h w' A' β' a' hs' Q (fun a'' w'' A'' β'' t' hs'' => hQ a'' w'' A'' β'' (t.trans t') hs'')
    · rename_i hne
      refine evC_sound ro hro n fuel x s e s' h w A β a hs _ (fun a' w' A' β' t hs' => ?_)
      have := hQ a' w' A' β' t hs'
      cases e with
      | norm => exact absurd h (hne s')
      | exit id => exact this
      | ret => exact this
      | pan v => exact this
  | .cond c x y, s, e, s', h => by
    simp only [evC] at h
    intro w A β a hs Q hQ
    split at h
    · rename_i t ht
      have hc := hs.eval c
      rw [ht] at hc
      obtain ⟨p1, p2, p3⟩ := hs.passed (c := c)
      refine wpIn_cond hc.bool_ ?_
      cases t
      · exact evC_sound ro hro n fuel y _ e s' h w A β a p1 Q (fun a' w' A' β' t hs' => hQ a' w' A' β' (by rw [← p2, ← p3]; exact t) hs')
      · exact evC_sound ro hro n fuel x _ e s' h w A β a p1 Q (fun a' w' A' β' t hs' => hQ a' w' A' β' (by rw [← p2, ← p3]; exact t) hs')
    · cases h
  | .block id b, s, e, s', h => by
    simp only [evC] at h
    intro w A β a hs Q hQ
    apply wpIn_block
    split at h
    · rename_i i s1 h1
      simp only [Option.some.injEq, Prod.mk.injEq] at h
      obtain ⟨he, rfl⟩ := h
      refine evC_sound ro hro n fuel b s _ _ h1 w A β a hs _ (fun a' w' A' β' t hs' => ?_)
      have := hQ a' w' A' β' t hs'
      subst he
      show (if i = id then Q .normal a' w' else Q (.exit i) a' w')
      by_cases hi : i = id
      · rw [if_pos hi] at this ⊢; exact this
      · rw [if_neg hi] at this ⊢; exact this
    · rename_i hne
      refine evC_sound ro hro n fuel b s e s' h w A β a hs _ (fun a' w' A' β' t hs' => ?_)
      have := hQ a' w' A' β' t hs'
      cases e with
      | norm => exact this
      | exit id => exact absurd h (hne id s')
      | ret => exact this
      | pan v => exact this
  | .scope b, s, e, s', h => by
    simp only [evC] at h
    intro w A β a hs Q hQ
    apply scope_in
    refine evC_sound ro hro n fuel b s e s' h w A β a hs _ (fun a' w' A' β' t hs' => ?_)
    have := hQ a' w' A' β' t hs'
    cases e with
    | norm => exact this
    | exit id => exact this
    | ret => exact this
    | pan v => exact this
  | .loop b, s, e, s', h => by
    simp only [evC] at h
    intro w A β a hs Q hQ
    exact (iter_sound (fun s e s' h => evC_sound ro hro n fuel b s e s' h) fuel s e s' h w A β a hs Q hQ).wp
  | .goto _, s, e, s', h => by simp [evC] at h
  | .rangeFunc f ps as bd, s, e, s', h => by
    simp only [evC] at h
    intro w A β a hs Q hQ
    exact rangeV_sound hcall hG hro n hs h hQ
  | .refuse _, s, e, s', h => by simp [evC] at h
end
end Go.Vi
namespace Go.Vi
open Go

theorem params_get : ∀ (vs : List V) (j t : Nat), tget (params j vs) t = if j ≤ t then (vs[t - j]?).getD .junk else .junk
  | [], j, t => by simp [params, tget]
  | v :: r, j, t => by
    simp only [params, tget]
    by_cases h : t = j
    · subst h; simp
    · rw [if_neg h, params_get r (j + 1) t]
      by_cases hj : j ≤ t
      · rw [if_pos hj, if_pos (by omega)]
        obtain ⟨m, rfl⟩ : ∃ m, t = j + 1 + m := ⟨t - (j + 1), by omega⟩
        rw [show j + 1 + m - (j + 1) = m by omega, show j + 1 + m - j = m + 1 by omega]
        rfl
      · rw [if_neg hj, if_neg (by omega)]

def resRun (tmps : Array Value) : ResultVar → Sem Value
  | .tmp t => pure (tmps.getD t undef)
  | .cell a t => do loadVar t (← asAddr (tmps.getD a undef))
theorem lower_took {E : Env} {s : St} {w0 A0 β0 c0 O w A β} (h : HR w A β s.c (s.heap E)) (t : Tr w0 A0 β0 c0 O w A β s.c (s.heap E)) : Took w0 A0 β0 c0 O w A β s.c (lower E.lvl s.O) [] := by
  have hsub : ∀ k p, lower E.lvl s.O k = some p → s.heap E k = some p := fun k p hk => (lower_heap hk).1
  exact ⟨t.trans (Tr.forget hsub (fun _ h => h) (fun b hb => .inl hb)), h.forget hsub (fun _ h => h) (fun b hb => ⟨(h.imm b hb).1, fun hm => (h.imm b hb).2 (hm.mono hsub)⟩), (fun i hi => by cases hi), List.Pairwise.nil⟩
theorem result_run {E : Env} {s : St} {w A β a} (hs : SR E w A β s a) {t : ResultVar} {vs : List V} {r : List ResultVar} (h : resV E s (t :: r) = some vs) :
    ∃ v vs', vs = v :: vs' ∧ resV E s r = some vs' ∧ ∃ c, (resRun a.tmps t).run E.P w = .ok c w ∧ IC w A β v c := by
  cases t with
  | tmp t =>
    simp only [resV, Option.map_eq_some_iff] at h
    obtain ⟨vs', h, rfl⟩ := h
    exact ⟨_, _, rfl, h, _, rfl, hs.tmp t⟩
  | cell x t =>
    simp only [resV] at h
    split at h
    · rename_i v r' h1 h2
      injection h with h
      subst h
      refine ⟨v, r', rfl, h2, ?_⟩
      cases hcs : cellsAt E s (tget s.τ x) with
      | none => rw [hcs] at h1; cases h1
      | some cs =>
        rw [hcs] at h1
        obtain ⟨b, o, e, hi⟩ := cellsAt_sound hs hcs (hs.tmp x)
        obtain ⟨cv, h3, h4⟩ := readT_sound h1 hi
        refine ⟨cv, ?_, h4⟩
        show (do loadVar t (← asAddr (a.tmps.getD x undef)) : Sem Value).run E.P w = _
        rw [e]
        simp only [asAddr, Sem.run_bind, Sem.run_pure, Result.andThen_ok, h3]
    · cases h
theorem results_run {E : Env} {s : St} {w A β a} (hs : SR E w A β s a) : ∀ (rs : List ResultVar) (vs : List V), resV E s rs = some vs →
    ∃ cs : List Value, (rs.mapM (resRun a.tmps)).run E.P w = .ok cs w ∧ ICs w A β vs cs
  | [], vs, h => by
    simp only [resV, Option.some.injEq] at h
    subst h
    exact ⟨[], rfl, by simp [ICs]⟩
  | t :: r, vs, h => by
    obtain ⟨v, vs', rfl, h2, c, h3, h4⟩ := result_run hs h
    obtain ⟨cs, h5, h6⟩ := results_run hs r vs' h2
    refine ⟨c :: cs, ?_, ?_⟩
    · rw [List.mapM_cons]
      simp only [Sem.run_bind, h3, Result.andThen_ok, h5, Sem.run_pure]
    · simp only [ICs]; exact ⟨c, cs, rfl, h4, h6⟩
theorem RC_tup {w A β} {vs : List V} {cs : List Value} {l : List Info} (h : RCs w A β vs cs l) : RC w A β (tupV vs) (if h : cs.toArray.size = 1 then cs.toArray[0] else .tuple cs.toArray) l := by
  match vs, cs, h with
  | [], cs, h =>
    simp only [RCs] at h
    obtain ⟨rfl, rfl⟩ := h
    simp [tupV, RC, RCs]
  | [v], cs, h =>
    simp only [RCs] at h
    obtain ⟨x, d, l1, l2, rfl, rfl, h1, rfl, rfl⟩ := h
    simpa [tupV] using h1
  | v :: u :: r, cs, h =>
    have h' := h
    simp only [RCs] at h
    obtain ⟨x, d, l1, l2, rfl, rfl, h1, x2, d2, l3, l4, rfl, rfl, h2, h3⟩ := h
    rw [dif_neg (by simp)]
    simp only [tupV, RC]
    exact ⟨_, rfl, h'⟩

/-- A function's end: the marks' blocks are shut. -/
theorem leave_marks {E : Env} {s : St} {w0 A0 β0 c0 O A β} {P : Program} {fn : Func} {tmps : Array Value} {R : Ending → World → Prop} {u : FrameMode} (hu : u ≠ .run) (ds0 : List Deferred) : ∀ (ds : List Deferred) (w : World), HR w A β s.c (s.heap E) → MarksOk w A (ds ++ ds0) → (∀ d ∈ ds, ∃ r, d = markD r ∧ w0.heap.size ≤ r) →
    Tr w0 A0 β0 c0 O w A β s.c (s.heap E) → (∀ w2, Tr w0 A0 β0 c0 O w2 A β s.c (s.heap E) → HR w2 A β s.c (s.heap E) → MarksOk w2 A ds0 → (∀ v c, IC w A β v c → IC w2 A β v c) → LeavesInM (Fi none) 0 P fn tmps R ds0 u w2) → LeavesInM (Fi none) 0 P fn tmps R (ds ++ ds0) u w
  | [], w, h, hm, _, t, k => k w t h hm (fun _ _ h => h)
  | d :: ds, w, h, hm, hb, t, k => by
    obtain ⟨r, rfl, hr⟩ := hb d (List.mem_cons_self ..)
    obtain ⟨hA, hw⟩ : A r ∧ w.heap[r]? = some (.deferred (some [])) := by
      rcases hm.each (markD r) (by simp) with ⟨fv, cap, e0⟩ | ⟨r', e, hA, hw⟩
      · cases e0
      · have e0 : r = r' := by simpa [markD] using e
        subst e0
        exact ⟨hA, hw⟩
    have hlt : r < w.heap.size := (h.imm r hA).1
    have hoth : ∀ b, b ≠ r → (w.putObj r (.deferred none)).heap[b]? = w.heap[b]? := fun b hb => World.putObj_heap_other hb
    have hsame : ∀ b, SameC w (w.putObj r (.deferred none)) b := fun b => by
      by_cases e : b = r
      · subst e
        funext o
        simp only [World.cell?, World.putObj_heap_same hlt, hw]
      · exact sameC (hoth b e)
    have hIC : ∀ v c, IC w A β v c → IC (w.putObj r (.deferred none)) A β v c := fun v c hv => IC.mono (fun _ h => h) (fun b _ => hsame b) (fun _ _ _ h => h) v c hv
    have hMt : ∀ b, Mt (s.heap E) β b → b ≠ r := fun b hm e => (h.imm r hA).2 (by rw [← e]; exact hm)
    have h' : HR (w.putObj r (.deferred none)) A β s.c (s.heap E) := by
      refine ⟨fun q v o hq => ?_, h.sep, fun b hb => ⟨by simpa using (h.imm b hb).1, (h.imm b hb).2⟩, h.fresh, fun q hq => by
        obtain ⟨ha, cs, t, f, hc, hp⟩ := h.laid q hq
        exact ⟨ha, cs, t, f, (hoth q.1 (fun e => by rw [e, hw] at hc; cases hc)).trans hc, hp⟩⟩
      obtain ⟨i, e, ho⟩ := h.obj q v o hq
      exact ⟨i, e, ho.mono (fun _ h => h) (fun b _ => hsame b) (fun _ _ _ h => h) (fun b hb => hoth b (hMt b ⟨q, v, o, i, hq, e, hb⟩))⟩
    have t' : Tr w0 A0 β0 c0 O (w.putObj r (.deferred none)) A β s.c (s.heap E) :=
      ⟨by simpa using t.size, t.os, t.tape, t.output, fun b hb hm => (hoth b (by omega)).trans (t.old b hb hm), t.beta, t.cnt, t.imm, t.newA, t.newM⟩
    have hm' : MarksOk (w.putObj r (.deferred none)) A (ds ++ ds0) := by
      refine ⟨fun d hd => ?_, (List.nodup_cons.1 hm.nodup).2⟩
      rcases hm.each d (by simp at hd ⊢; exact .inr hd) with h0 | ⟨r2, e2, h2, h3⟩
      · exact .inl h0
      refine .inr ⟨r2, e2, h2, (hoth r2 ?_).trans h3⟩
      rintro rfl
      exact (List.nodup_cons.1 hm.nodup).1 (by rw [← e2]; exact hd)
    refine ⟨hu, .inl ⟨r, _, rfl, run_takeDeferred hw, leave_marks hu ds0 ds _ h' hm' (fun d hd => hb d (by simp [hd])) t' (fun w2 t2 h2 hm2 k2 => k w2 t2 h2 hm2 (fun v c hv => k2 v c (hIC v c hv)))⟩⟩

/-- A function's body, with whatever is known of the functions that it calls. -/
def fnV (call : CallFn) (C : Ctx) (n : Nat) : FuncId → List V → Nat → Nat → Heap → Option (COut × Nat × Heap) := fun f args lvl c O => match C.P.funcs[f]? with
    | none => none
    | some fn => match fn.body with
      | none => none
      | some b =>
        if args.length ≤ fn.ntmps then
          match evC call (envOf C f fn lvl) C.hand n b { τ := params 0 args, L := [], O, c } with
          | some (.norm, s) | some (.ret, s) => match (resV (envOf C f fn lvl) s fn.results.toList).bind (exports (envOf C f fn lvl) s) with
            | some vs => some (.ret (tupV vs), s.c, lower lvl s.O)
            | none => none
          | some (.pan v, s) => some (.pan v, s.c, lower lvl s.O)
          | _ => none
        else none
theorem fn_any {C : Ctx} (hhand : SoundHand C.P C.hand) (hG : ∀ g ∈ C.ok, GoodF C.P g) (hm : C.P.follows .mixedOrders = true) {n : Nat} {call : CallFn} (ih : SoundCall C.P call) : SoundFn C.P ⟨fnV call C n, fun _ _ _ _ _ _ => none⟩ := by
    intro f args lvl c O out c' O' h hO
    dsimp only [fnV] at h
    split at h
    case h_1 => cases h
    rename_i fn hfn
    split at h
    case h_1 => cases h
    rename_i body hbody
    split at h
    case isFalse => cases h
    rename_i hlen
    generalize hE : envOf C f fn lvl = E at h
    have hEP : E.P = C.P := by rw [← hE]; rfl
    have hEl : E.lvl = lvl := by rw [← hE]; rfl
    have hEn : E.n = fn.ntmps := by rw [← hE]; rfl
    have hEok : E.ok = C.ok := by rw [← hE]; rfl
    have hheap : St.heap E { τ := params 0 args, L := [], O := O, c := c } = O := by
      funext k
      unfold St.heap heapOf
      rw [hEl]
      by_cases h1 : k.lvl = lvl
      · rw [if_pos h1, hO k (by omega)]; rfl
      · rw [if_neg h1]
        by_cases h2 : k.lvl < lvl
        · rw [if_pos h2]
        · rw [if_neg h2, hO k (by omega)]
    have low : ∀ (O : Heap) k, lvl ≤ k.lvl → lower lvl O k = none := fun O k hk => by unfold lower; rw [if_neg (by omega)]
    have start : ∀ (w : World) (A : Nat → Prop) (β : Beta) (cs : Array Value), HR w A β c O → ICs w A β args cs.toList →
        SR E w A β { τ := params 0 args, L := [], O := O, c := c } { tmps := cs ++ Array.replicate (fn.ntmps - cs.size) undef, defers := [] } := fun w A β cs hH hA => by
      have hcs : cs.size = args.length := by have := hA.length; simpa using this
      refine ⟨fun t => ?_, by rw [hEn]; simp; omega, by rw [hheap]; exact hH, MarksOk.nil⟩
      rw [params_get]
      simp only [Nat.zero_le, if_true, Nat.sub_zero]
      cases ht : args[t]? with
      | none => exact IC_junk
      | some v =>
        obtain ⟨x, h1, h2⟩ := hA.get ht
        obtain ⟨hl, _⟩ := List.getElem?_eq_some_iff.1 h1
        have hl' : t < cs.size := by simpa using hl
        have : (cs ++ Array.replicate (fn.ntmps - cs.size) undef).getD t undef = x := by
          rw [Array.getD_eq_getD_getElem?, Array.getElem?_append_left hl', ← Array.getElem?_toList, h1]
          rfl
        rw [this]
        exact h2
    have hbodyS := fun e s' hh => evC_sound (E := E) (by rw [hEP]; exact ih) (by rw [hEP]; exact hhand) (by rw [hEok, hEP]; exact hG) (by rw [hEP]; exact hm) none (fun _ => rfl) 0 n body { τ := params 0 args, L := [], O := O, c := c } e s' hh
    have retCase : ∀ (e : Ex) (s : St), e = .norm ∨ e = .ret → evC call E C.hand n body { τ := params 0 args, L := [], O := O, c := c } = some (e, s) →
        (match (resV E s fn.results.toList).bind (exports E s) with | some vs => some (COut.ret (tupV vs), s.c, lower lvl s.O) | none => none) = some (out, c', O') →
        (∀ k, lvl ≤ k.lvl → O' k = none) ∧ ∀ (w : World) (A : Nat → Prop) (β : Beta) (cs : Array Value), HR w A β c O → ICs w A β args cs.toList → Calls C.P f cs w (CallOut w A β c O out c' O') := by
      intro e s he hev h
      cases hres : resV E s fn.results.toList with
      | none => rw [hres] at h; cases h
      | some vs =>
        rw [hres] at h
        simp only [Option.bind_some] at h
        cases hex : exports E s vs with
        | none => rw [hex] at h; cases h
        | some vs' =>
          rw [hex] at h
          simp only [Option.some.injEq, Prod.mk.injEq] at h
          obtain ⟨rfl, rfl, rfl⟩ := h
          refine ⟨low _, fun w A β cs hH hA => calls_in.1 (callsIn_of_wp_marks (F := Fi none) (n := 0) hfn hbody trivial ?_)⟩
          have := hbodyS e s hev w A β _ (start w A β cs hH hA) (bodyPostM (Fi none) 0 C.P fn (CallOut w A β c O (.ret (tupV vs')) s.c (lower lvl s.O))) (fun a' w' A' β' tA hs' => by
            have t := tA.tr
            rw [hheap] at t
            have key : LeavesInM (Fi none) 0 C.P fn a'.tmps (CallOut w A β c O (.ret (tupV vs')) s.c (lower lvl s.O)) a'.defers .returning w' := by
              obtain ⟨ms, ems, hms⟩ := tA.ext
              have hdf := hs'.defers
              rw [ems] at hdf ⊢
              refine leave_marks (by simp) [] ms w' hs'.heap hdf hms t (fun w2 t2 h2 _ k2 => ?_)
              have hs2 : SR E w2 A' β' s { a' with defers := [] } := ⟨fun t => k2 _ _ (hs'.tmp t), hs'.size, h2, MarksOk.nil⟩
              obtain ⟨cvs, h1, h2'⟩ := results_run hs2 fn.results.toList vs hres
              obtain ⟨A'', l, h3, h4⟩ := exports_sound hs2.heap t2 hex h2'
              rw [hEl] at h4
              have hr : (results fn a'.tmps).run C.P w2 = .ok (if h : cvs.toArray.size = 1 then cvs.toArray[0] else .tuple cvs.toArray) w2 := by
                rw [← hEP]
                unfold results
                rw [Array.mapM_eq_mapM_toList]
                simp only [Sem.run_bind, map_eq_pure_bind]
                erw [h1]
                simp
              exact ⟨_, hr, A'', β', _, l, rfl, RC_tup h3, h4⟩
            rcases he with rfl | rfl
            · exact key
            · exact key)
          rw [hEP] at this
          exact this
    split at h
    · rename_i s hev
      exact retCase _ s (.inl rfl) hev h
    · rename_i s hev
      exact retCase _ s (.inr rfl) hev h
    · rename_i v s hev
      simp only [Option.some.injEq, Prod.mk.injEq] at h
      obtain ⟨rfl, rfl, rfl⟩ := h
      refine ⟨low _, fun w A β cs hH hA => calls_in.1 (callsIn_of_wp_marks (F := Fi none) (n := 0) hfn hbody trivial ?_)⟩
      have := hbodyS _ s hev w A β _ (start w A β cs hH hA) (bodyPostM (Fi none) 0 C.P fn (CallOut w A β c O (.pan v) s.c (lower lvl s.O))) (fun a' w' A' β' tA hs' => by
        have t := tA.tr
        rw [hheap] at t
        intro cv hcv
        obtain ⟨ms, ems, hms⟩ := tA.ext
        have hdf := hs'.defers
        show LeavesInM _ _ _ _ _ _ a'.defers _ _
        rw [ems] at hdf ⊢
        refine leave_marks (by simp) [] ms w' hs'.heap hdf hms t (fun w2 t2 h2 _ k2 => ?_)
        have h4 := lower_took h2 t2
        rw [hEl] at h4
        exact ⟨A', β', cv, rfl, k2 _ _ hcv, h4⟩)
      rw [hEP] at this
      exact this
    · cases h

theorem fn_step {C : Ctx} (hhand : SoundHand C.P C.hand) (hG : ∀ g ∈ C.ok, GoodF C.P g) (hm : C.P.follows .mixedOrders = true) {n : Nat} (ih : SoundCall C.P (evF C n)) : SoundFn C.P (evF C (n + 1)) := fun f args lvl c O out c' O' h hO =>
  fn_any hhand hG hm (n := n) ih f args lvl c O out c' O' h hO

theorem setLoop_sound {E : Env} {k : Key} {ver : Nat} {st0 st : Ls} {pend : Option (Option Code)} {s s' : St} {w A β} {i : Info} {l : Nat} (h : HR w A β s.c (s.heap E)) (hi : β k ver = some i) (hl : i.b = some l) (he : setLoop E k ver st0 st pend s = some s') :
    ∃ r : Loop, w.heap[l]? = some (.loop r) ∧ r.state = lsC st0 ∧ ∀ w', w' = w.putObj l (.loop { r with state := lsC st, pending := pend.getD r.pending }) → Step E w A β s w' A β s' := by
  unfold setLoop at he
  split at he
  case h_2 => cases he
  rename_i hh τ ps as bd st' p ho
  obtain ⟨hst, he⟩ := ite_some' he
  injection he with he
  subst he
  subst hst
  have hoh := obj_heap ho
  obtain ⟨i', hi', hoc⟩ := h.obj _ _ _ hoh
  rw [hi] at hi'
  injection hi' with hi'
  subst hi'
  have hoc' := hoc
  unfold OC at hoc
  obtain ⟨b, r, hb, hz, hw, h1, h2, h3, h4, h5, h6, h7⟩ := hoc
  rw [hl] at hb
  injection hb with hb
  subst hb
  refine ⟨r, hw, h4, ?_⟩
  rintro w' rfl
  have hlt : l < w.heap.size := (Array.getElem?_eq_some_iff.1 hw).1
  have hoth : ∀ b, b ≠ l → (w.putObj l (.loop { r with state := lsC st, pending := pend.getD r.pending })).heap[b]? = w.heap[b]? := fun b hb => World.putObj_heap_other hb
  refine Step.upd (o' := .loop hh τ ps as bd st (pend.getD p)) h hoh hi rfl rfl rfl (by simp) (fun b hb => hoth b (by rintro rfl; exact hb hl)) ?_
  unfold OC
  refine ⟨l, _, hl, hz, World.putObj_heap_same hlt, h1, h2, h3, rfl, by simp only [h5], h6, fun t => IC.mono (fun _ h => h) (fun b hb => sameC (hoth b ?_)) (fun _ _ _ h => h) _ _ (h7 t)⟩
  rintro rfl
  exact (h.imm _ hb).2 ⟨k, ver, _, i, hoh, hi, hl⟩

theorem setPs_sound {w A β} : ∀ (ps : List Nat) (args : List V) (cs : List Value) (τ : List (Nat × V)) (tmps : Array Value), ICs w A β args cs → args.length = ps.length → (∀ p ∈ ps, p < tmps.size) → (∀ t, IC w A β (tget τ t) (tmps.getD t undef)) →
    ∃ tm : Array Value, tm = (ps.zip cs).foldl (fun tm (x : Nat × Value) => tm.setIfInBounds x.1 x.2) tmps ∧ tm.size = tmps.size ∧ ∀ t, IC w A β (tget (setPs τ ps args) t) (tm.getD t undef)
  | [], [], cs, τ, tmps, hc, _, _, h => ⟨_, rfl, rfl, h⟩
  | [], _ :: _, _, _, _, _, hl, _, _ => by simp at hl
  | p :: ps, [], _, _, _, _, hl, _, _ => by simp at hl
  | p :: ps, v :: vs, cs, τ, tmps, hc, hl, hp, h => by
    simp only [ICs] at hc
    obtain ⟨c, d, rfl, h1, h2⟩ := hc
    obtain ⟨tm, e, hs, ht⟩ := setPs_sound ps vs d (tset τ p v) (tmps.setIfInBounds p c) h2 (by simpa using hl) (fun q hq => by simpa using hp q (by simp [hq])) (fun t => by
      rw [tget_tset]
      by_cases e : t = p
      · subst e
        rw [if_pos rfl, Array.getD_eq_getD_getElem?, Array.getElem?_setIfInBounds_self_of_lt (hp _ (by simp))]
        exact h1
      · rw [if_neg e, Array.getD_eq_getD_getElem?, Array.getElem?_setIfInBounds_ne (Ne.symm e), ← Array.getD_eq_getD_getElem?]
        exact h t)
    exact ⟨tm, by rw [e]; rfl, by rw [hs]; simp, ht⟩

theorem rnd_step {C : Ctx} (hhand : SoundHand C.P C.hand) (hG : ∀ g ∈ C.ok, GoodF C.P g) (hm : C.P.follows .mixedOrders = true) {n : Nat} (ih : SoundCall C.P (evF C n)) : SoundRnd C.P (evF C (n + 1)) := by
  intro k ver args lvl c O b c' O' h hO
  change roundV (evF C n) C n k ver args lvl c O = some (b, c', O') at h
  unfold roundV at h
  split at h
  case h_2 => cases h
  rename_i v hh τ ps as bd p hk
  obtain ⟨⟨rfl, hlen, hlv, hok, hps⟩, h⟩ := ite_some' h
  generalize hE : envLp C.P hh lvl = E at h
  have hEP : E.P = C.P := by rw [← hE]; rfl
  have hEl : E.lvl = lvl := by rw [← hE]; rfl
  have hEn : E.n = hh.n := by rw [← hE]; rfl
  have hEok : E.ok = hh.ok := by rw [← hE]; rfl
  have hEr : E.inr = true := by rw [← hE]; rfl
  split at h
  case h_2 => cases h
  rename_i s1 ha
  split at h
  case h_2 => cases h
  rename_i s2 hs2
  split at h
  case h_2 => cases h
  rename_i e s3 hb
  split at h
  case h_2 => cases h
  rename_i j hj
  simp only [Option.map_eq_some_iff, Prod.mk.injEq] at h
  obtain ⟨s4, hs4, rfl, rfl, rfl⟩ := h
  refine ⟨fun q hq => by unfold lower; rw [if_neg (by omega)], fun w A β cs hH hA => ?_⟩
  have hheap : St.heap E { τ := setPs τ ps args, L := [], O := O, c := c } = O := by
    funext q
    unfold St.heap heapOf
    rw [hEl]
    by_cases h1 : q.lvl = lvl
    · rw [if_pos h1, hO q (by omega)]; rfl
    · rw [if_neg h1]
      by_cases h2 : q.lvl < lvl
      · rw [if_pos h2]
      · rw [if_neg h2, hO q (by omega)]
  obtain ⟨i, hi, hoc⟩ := hH.obj _ _ _ hk
  unfold OC at hoc
  obtain ⟨l, r, hl, hz, hw, q1, q2, q3, q4, q5, q6, q7⟩ := hoc
  have hvc : v < c := by
    refine Nat.lt_of_not_le fun hle => ?_
    rw [hH.fresh k v hle] at hi
    cases hi
  obtain ⟨tm, etm, hts, htv⟩ := setPs_sound ps args cs.toList τ r.tmps hA hlen (fun p hp => by rw [q6]; simpa using List.all_eq_true.1 hps p hp) q7
  have etm2 : (r.params.zip cs).foldl (fun tmps (x : Nat × Value) => tmps.setIfInBounds x.1 x.2) r.tmps = tm := by
    rw [etm, ← q1, ← Array.foldl_toList, Array.toList_zip]
  refine ⟨i, l, r.fn, tm, r.assign, r.body, hi, hl, hz, ?_, fun m => roundIn_of_wpIn (F := Fi none) trivial ?_⟩
  · have := run_yield (P := C.P) (args := cs) hw (by rw [← Array.length_toList, hA.length, hlen, ← q1, Array.length_toList])
    rw [this, ← etm2]
  · rw [q2, q3]
    have hEG : ∀ g ∈ E.ok, GoodF E.P g := fun g hg => by
      rw [hEP]
      rw [hEok] at hg
      exact hG g (by simpa using List.all_eq_true.1 hok g hg)
    have hev := fun cd s e s' hh => evC_sound (E := E) (by rw [hEP]; exact ih) (by rw [hEP]; exact hhand) hEG (by rw [hEP]; exact hm) (some l) (by rw [hEr]; simp) m n cd s e s' hh
    have hs0 : SR E w A β { τ := setPs τ ps args, L := [], O := O, c := c } { tmps := tm, defers := [] } := ⟨htv, by rw [hts, q6, hEn], by rw [hheap]; exact hH, MarksOk.nil⟩
    have := hev as _ _ s1 ha w A β _ hs0 (Exit.then (fun a₁ w₁ => ∃ w₂, (Instr.beginRound l).run C.P w₁ = .ok () w₂ ∧ bd.wpIn ((Fi none).inRound l) m C.P (roundPost C.P l (fun e w' => ∃ A' β', e = .returned (.bool j.isNone) ∧ Tr w A β c O w' A' β' s4.c (lower lvl s4.O) ∧ HR w' A' β' s4.c (lower lvl s4.O))) a₁ w₂) (fun _ _ _ => False)) (fun a1 w1 A1 β1 t1 hs1 => by
      have hi1 : β1 k v = some i := by rw [t1.tr.beta k v hvc]; exact hi
      obtain ⟨r1, hw1, hst1, hstep1⟩ := setLoop_sound hs1.heap hi1 hl hs2
      have st1 := hstep1 _ rfl
      refine ⟨_, run_beginRound hw1 hst1, ?_⟩
      have hs2' := hs1.step st1
      have := hev bd _ _ s3 hb _ A1 β1 a1 hs2' (roundPost C.P l (fun e w' => ∃ A' β', e = .returned (.bool j.isNone) ∧ Tr w A β c O w' A' β' s4.c (lower lvl s4.O) ∧ HR w' A' β' s4.c (lower lvl s4.O))) (fun a3 w3 A3 β3 t3 hs3 => by
        have t03 := t1.tr.trans (st1.1.trans t3.tr)
        rw [hheap] at t03
        have hi3 : β3 k v = some i := by rw [t03.beta k v hvc]; exact hi
        obtain ⟨r3, hw3, hst3, hstep3⟩ := setLoop_sound hs3.heap hi3 hl hs4
        have st3 := hstep3 _ rfl
        have fin : ∀ jj, j = jj → ∃ v' w', (Instr.endRound l jj).run C.P w3 = .ok v' w' ∧ ∃ A' β', Ending.returned v' = .returned (.bool j.isNone) ∧ Tr w A β c O w' A' β' s4.c (lower lvl s4.O) ∧ HR w' A' β' s4.c (lower lvl s4.O) := fun jj hjj => by
          subst hjj
          refine ⟨_, _, run_endRound j hw3, A3, β3, rfl, ?_⟩
          have e : (w3.putObj l (.loop { r3 with state := if j.isNone then .ready else .done, pending := j })) = w3.putObj l (.loop { r3 with state := lsC (if j.isNone then .ready else .done), pending := (some j).getD r3.pending }) := by
            cases j <;> rfl
          rw [e]
          have tk := lower_took st3.2.1 (t03.trans st3.1)
          rw [hEl] at tk
          exact ⟨tk.tr, tk.hr⟩
        unfold jumpOf at hj
        split at hj
        · injection hj with hj; exact fin none hj.symm
        · injection hj with hj; exact fin (some .ret) hj.symm
        · injection hj with hj; exact fin _ hj.symm
        · cases hj)
      rw [hEP] at this
      exact this)
    rw [hEP] at this
    exact this

theorem evF_sound {C : Ctx} (hhand : SoundHand C.P C.hand) (hG : ∀ g ∈ C.ok, GoodF C.P g) (hm : C.P.follows .mixedOrders = true) : ∀ n, SoundCall C.P (evF C n)
  | 0 => { fn := fun f args lvl c O out c' O' h _ => (by cases h), rnd := fun k ver args lvl c O b c' O' h _ => (by cases h) }
  | n + 1 => { fn := fn_step hhand hG hm (evF_sound hhand hG hm n), rnd := rnd_step hhand hG hm (evF_sound hhand hG hm n) }
end Go.Vi
namespace Go.Vi
open Go

structure Mc where
  call : CallFn
  E : Env
  C : FuncId → Option (List V → Option V)
  fuel : Nat

inductive K where
  | top
  | seq (b : Code) (k : K)
  | blk (id : Nat) (k : K)
  | lp (b : Code) (n : Nat) (k : K)

def evM (M : Mc) (c : Code) (s : St) : Option (Ex × St) := evC M.call M.E M.C M.fuel c s
def K.back (M : Mc) : K → Option (Ex × St) → Option (Ex × St)
  | .top, r => r
  | .seq b k, r => k.back M (match r with | some (.norm, s') => evM M b s' | r => r)
  | .blk id k, r => k.back M (match r with | some (.exit i, s') => some (if i = id then .norm else .exit i, s') | r => r)
  | .lp b n k, r => k.back M (match r with | some (.norm, s') => iter (evM M b) n s' | r => r)
/-- The machine runs a code. -/
def R (M : Mc) (c : Code) (k : K) (s : St) : Option (Ex × St) := k.back M (evM M c s)
/-- A code has ended. -/
def X (M : Mc) (e : Ex) (k : K) (s : St) : Option (Ex × St) := k.back M (some (e, s))
/-- A loop's rounds. -/
def L (M : Mc) (b : Code) (n : Nat) (k : K) (s : St) : Option (Ex × St) := k.back M (iter (evM M b) n s)
/-- A region's operations. -/
def RO (M : Mc) (ops : Array Oper) (l : List Oper) (k : K) (s : St) : Option (Ex × St) := k.back M ((evOps M.call M.E M.C ops l s).map fun q => (q.1, tidy M.E q.2))
/-- What came of an operation. -/
def RV (M : Mc) (ops : Array Oper) (d : Option Tmp) (l : List Oper) (k : K) (r : Option Res) : Option (Ex × St) :=
  k.back M ((match r with
    | none => none
    | some (.val v s') => (setD M.E d v s').bind (evOps M.call M.E M.C ops l)
    | some (.pan v s') => some (.pan v, s') : Option (Ex × St)).map fun q => (q.1, tidy M.E q.2))

variable {M : Mc} {k : K} {s : St}
theorem R_seq {a b : Code} : R M (.seq a b) k s = R M a (.seq b k) s := by
  unfold R evM
  conv => lhs; unfold evC
  simp only [K.back, evM]
  rcases evC M.call M.E M.C M.fuel a s with _ | ⟨e, s'⟩
  · rfl
  · cases e <;> rfl
theorem R_skip : R M .skip k s = X M .norm k s := rfl
theorem R_label {l} : R M (.label l) k s = X M .norm k s := rfl
theorem R_ret : R M .ret k s = X M .ret k s := rfl
theorem R_exit {i} : R M (.exit i) k s = X M (.exit i) k s := rfl
theorem R_scope {b} : R M (.scope b) k s = R M b k s := rfl
theorem R_block {id b} : R M (.block id b) k s = R M b (.blk id k) s := by
  unfold R evM
  conv => lhs; unfold evC
  simp only [K.back]
  rcases evC M.call M.E M.C M.fuel b s with _ | ⟨e, s'⟩
  · rfl
  · cases e <;> rfl
theorem R_loop {b} : R M (.loop b) k s = L M b M.fuel k s := rfl
/-- A test. -/
def Cnd (M : Mc) (v : V) (a b : Code) (k : K) (s : St) : Option (Ex × St) :=
  match v with
  | .bool t => if t then R M a k s else R M b k s
  | _ => k.back M none
theorem Cnd_bool {a b t} : Cnd M (.bool t) a b k s = if t = true then R M a k s else R M b k s := rfl
theorem R_cond' {c a b} : R M (.cond c a b) k s = Cnd M (evalO s c) a b k (passed M.E c s) := by
  unfold R evM Cnd
  conv => lhs; unfold evC
  split
  · rename_i t h
    rw [h]
    cases t <;> rfl
  · rename_i h
    split
    · rename_i t h2; exact absurd h2 (h t)
    · rfl
theorem R_region {id ops} : R M (.region id ops false) k s = RO M ops ops.toList k s := rfl
theorem X_top {e} : X M e .top s = some (e, s) := rfl
theorem X_seq {b} : X M .norm (.seq b k) s = R M b k s := rfl
theorem X_seq_ret {b} : X M .ret (.seq b k) s = X M .ret k s := rfl
theorem X_seq_exit {b i} : X M (.exit i) (.seq b k) s = X M (.exit i) k s := rfl
theorem X_seq_pan {b v} : X M (.pan v) (.seq b k) s = X M (.pan v) k s := rfl
theorem X_blk {id} : X M .norm (.blk id k) s = X M .norm k s := rfl
theorem X_blk_ret {id} : X M .ret (.blk id k) s = X M .ret k s := rfl
theorem X_blk_pan {id v} : X M (.pan v) (.blk id k) s = X M (.pan v) k s := rfl
theorem X_blk_exit {id i} : X M (.exit i) (.blk id k) s = if i = id then X M .norm k s else X M (.exit i) k s := by
  unfold X
  simp only [K.back]
  split <;> rfl
theorem X_lp {b n} : X M .norm (.lp b n k) s = L M b n k s := rfl
theorem X_lp_ret {b n} : X M .ret (.lp b n k) s = X M .ret k s := rfl
theorem X_lp_exit {b n i} : X M (.exit i) (.lp b n k) s = X M (.exit i) k s := rfl
theorem X_lp_pan {b n v} : X M (.pan v) (.lp b n k) s = X M (.pan v) k s := rfl
theorem L_succ {b n} : L M b (n + 1) k s = R M b (.lp b n k) s := by
  unfold L R
  conv => lhs; unfold iter
  simp only [K.back]
  rcases evM M b s with _ | ⟨e, s'⟩
  · rfl
  · cases e <;> rfl

theorem RV_val {ops d l v s'} (hd : d < M.E.n) : RV M ops (some d) l k (some (.val v s')) = RO M ops l k { s' with τ := tset s'.τ d v } := by
  unfold RV RO
  simp only [setD, if_pos hd, Option.bind_some]
theorem RV_val_none {ops l v s'} : RV M ops none l k (some (.val v s')) = RO M ops l k s' := rfl
theorem RV_pan {ops d l v s'} : RV M ops d l k (some (.pan v s')) = X M (.pan v) k (tidy M.E s') := rfl
theorem RO_op {ops d op ty pos af r} (h : yieldOf s { dst := d, op := op, type := ty, pos := pos, after := af, guard := none } = none) :
    RO M ops ({ dst := d, op := op, type := ty, pos := pos, after := af, guard := none } :: r) k s = RV M ops d r k (aop M.call M.E M.C (d.getD M.E.n) op s) := by
  unfold RO RV
  conv => lhs; unfold evOps
  simp only [wantedV, h]
  congr 2

/-! ### The state -/
theorem tkeep_get : ∀ (τ : List (Nat × V)) (ks : List Nat) (t : Nat), tget (tkeep τ ks) t = if ks.contains t = true then tget τ t else .junk
  | [], ks, t => by simp [tkeep, tget]
  | (k, u) :: r, ks, t => by
    simp only [tkeep]
    split
    · simp only [tget]
      rw [tkeep_get r ks t]
      split
      · rename_i h e; subst e; rw [if_pos h]
      · rfl
    · rename_i h
      rw [tkeep_get r ks t]
      simp only [tget]
      split
      · split
        · rename_i e; subst e; exact absurd ‹_› h
        · rfl
      · rfl
theorem tdrop_get : ∀ (τ : List (Nat × V)) (d t : Nat), tget (tdrop τ d) t = if t = d then .junk else tget τ t
  | [], d, t => by simp [tdrop, tget]
  | (k, u) :: r, d, t => by
    simp only [tdrop]
    split
    · rename_i h; subst h
      rw [tdrop_get r d t]
      simp only [tget]
      split <;> rfl
    · simp only [tget]
      rw [tdrop_get r d t]
      split
      · rename_i h e; subst e; rw [if_neg (fun e => h e.symm)]
      · rfl
/-! ### The outcome -/
def Fin (M : Mc) (rs : List ResultVar) : Option (Ex × St) → Option COut
  | some (.norm, s) | some (.ret, s) => ((resV M.E s rs).bind (exports M.E s)).map fun vs => .ret (tupV vs)
  | some (.pan v, _) => some (.pan v)
  | _ => none
theorem X_ret : ∀ k : K, X M .ret k s = some (.ret, s)
  | .top => rfl
  | .seq b k => by rw [X_seq_ret]; exact X_ret k
  | .blk _ k => by rw [X_blk_ret]; exact X_ret k
  | .lp _ _ k => by rw [X_lp_ret]; exact X_ret k
theorem X_pan {v} : ∀ k : K, X M (.pan v) k s = some (.pan v, s)
  | .top => rfl
  | .seq b k => by rw [X_seq_pan]; exact X_pan k
  | .blk _ k => by rw [X_blk_pan]; exact X_pan k
  | .lp _ _ k => by rw [X_lp_pan]; exact X_pan k
theorem Fin_ret {rs} : Fin M rs (some (.ret, s)) = ((resV M.E s rs).bind (exports M.E s)).map fun vs => .ret (tupV vs) := rfl
theorem Fin_nrm {rs} : Fin M rs (some (.norm, s)) = ((resV M.E s rs).bind (exports M.E s)).map fun vs => .ret (tupV vs) := rfl
theorem Fin_pan {rs v} : Fin M rs (some (.pan v, s)) = some (.pan v) := rfl
def mcOf (C : Ctx) (g : FuncId) (fn : Func) (n : Nat) : Mc := ⟨evF C n, envOf C g fn 0, C.hand, n⟩
/-- A part of a code. -/
def sub : List Nat → Code → Code
  | [], c => c
  | 0 :: p, .seq a _ => sub p a
  | _ :: p, .seq _ b => sub p b
  | 0 :: p, .cond _ a _ => sub p a
  | _ :: p, .cond _ _ b => sub p b
  | _ :: p, .block _ b => sub p b
  | _ :: p, .scope b => sub p b
  | _ :: p, .loop b => sub p b
  | _, c => c
theorem evF_of {C : Ctx} {g : FuncId} {fn : Func} {b : Code} {args : List V} {n : Nat} {out : COut} (hf : C.P.funcs[g]? = some fn) (hb : fn.body = some b) (hl : args.length ≤ fn.ntmps)
    (h : Fin (mcOf C g fn n) fn.results.toList (R (mcOf C g fn n) b .top ⟨params 0 args, [], fun _ => none, 0⟩) = some out) : ∃ c' O', evF C (n + 1) g args 0 0 (fun _ => none) = some (out, c', O') := by
  unfold R evM K.back mcOf at h
  dsimp only at h
  unfold evF
  simp only [hf, hb, if_pos hl]
  generalize evC (evF C n) (envOf C g fn 0) C.hand n b { τ := params 0 args, L := [], O := fun _ => none, c := 0 } = r at h
  rcases r with _ | ⟨e, s⟩
  · cases h
  · cases e with
    | norm =>
      simp only [Fin, Option.map_eq_some_iff] at h
      obtain ⟨vs, h, rfl⟩ := h
      simp only [h]
      exact ⟨_, _, rfl⟩
    | ret =>
      simp only [Fin, Option.map_eq_some_iff] at h
      obtain ⟨vs, h, rfl⟩ := h
      simp only [h]
      exact ⟨_, _, rfl⟩
    | pan v =>
      simp only [Fin, Option.some.injEq] at h
      subst h
      exact ⟨_, _, rfl⟩
    | exit i => cases h

section ops
variable {ops : Array Oper} {r : List Oper} {d : Option Tmp} {ty : TypeId} {pos : String} {af : Array Edge}
theorem RO_move {d x} (hd : d < M.E.n) : RO M ops ({ dst := some d, op := .move x, type := ty, pos := pos, after := af, guard := none } :: r) k s = RO M ops r k { s with τ := tset s.τ d (evalO s x) } := by
  rw [RO_op rfl]; exact RV_val hd
theorem RO_assign {d x} : RO M ops ({ dst := some d, op := .assign x, type := ty, pos := pos, after := af, guard := none } :: r) k s = RV M ops (some d) r k ((assignTo M.E d (evalO s x) s).map fun q => .val q.1 q.2) := RO_op rfl
theorem RO_bin {o t x y u} : RO M ops ({ dst := d, op := .binOp o t x y u, type := ty, pos := pos, after := af, guard := none } :: r) k s = RV M ops d r k (valOf s (binW M.E.P o t y (evalO s x) (evalO s y))) := RO_op rfl
theorem RO_un {o t x} : RO M ops ({ dst := d, op := .unOp o t x, type := ty, pos := pos, after := af, guard := none } :: r) k s = RV M ops d r k (valOf s (unV o (evalO s x))) := RO_op rfl
theorem RO_load {t x} : RO M ops ({ dst := d, op := .load t x, type := ty, pos := pos, after := af, guard := none } :: r) k s = RV M ops d r k (valOf s ((cellsAt M.E s (evalO s x)).bind (readT M.E.P t))) := RO_op rfl
theorem RO_store {t p x} : RO M ops ({ dst := d, op := .store t p x, type := ty, pos := pos, after := af, guard := none } :: r) k s = RV M ops d r k ((storeAt M.E t (evalO s p) (evalO s x) s).map fun s' => .val .junk s') := RO_op rfl
theorem RO_len {x t} : RO M ops ({ dst := d, op := .call { callee := .builtin .len, args := #[x], argTypes := #[t] }, type := ty, pos := pos, after := af, guard := none } :: r) k s =
    RV M ops d r k (builtinV M.E .len (d.getD M.E.n) [t] [evalO s x] s) := RO_op rfl
theorem RO_min {xs ts} : RO M ops ({ dst := d, op := .call { callee := .builtin .min, args := xs, argTypes := ts }, type := ty, pos := pos, after := af, guard := none } :: r) k s =
    RV M ops d r k (builtinV M.E .min (d.getD M.E.n) ts.toList (evalOs s xs.toList) s) := RO_op rfl
theorem RO_max {xs ts} : RO M ops ({ dst := d, op := .call { callee := .builtin .max, args := xs, argTypes := ts }, type := ty, pos := pos, after := af, guard := none } :: r) k s =
    RV M ops d r k (builtinV M.E .max (d.getD M.E.n) ts.toList (evalOs s xs.toList) s) := RO_op rfl
theorem RO_append {x y t u} : RO M ops ({ dst := d, op := .call { callee := .builtin .append, args := #[x, y], argTypes := #[t, u] }, type := ty, pos := pos, after := af, guard := none } :: r) k s =
    RV M ops d r k (if rowT M.E.P u = true then (appendV M.E (d.getD M.E.n) t (evalO s x) (evalO s y) s).map fun q => .val q.1 q.2 else none) := RO_op rfl
theorem RO_copy {x y t u} : RO M ops ({ dst := d, op := .call { callee := .builtin .copy, args := #[x, y], argTypes := #[t, u] }, type := ty, pos := pos, after := af, guard := none } :: r) k s =
    RV M ops d r k ((copyV M.E t (evalO s x) (evalO s y) s).map fun q => .val (.int .i64 (q.1 : Nat)) q.2) := RO_op rfl
/-- A call. -/
def RCl (M : Mc) (ops : Array Oper) (d : Option Tmp) (l : List Oper) (k : K) (f : V) (args : List V) (s : St) : Option (Ex × St) :=
  match f with
  | .mref q ver => k.back M ((match M.call.rnd q ver args (M.E.lvl + 1) s.c (s.heap M.E) with
      | some (b, c', O') => (setD M.E d (.bool b) (back M.E s c' O')).bind (evOps M.call M.E M.C ops l)
      | none => none : Option (Ex × St)).map fun q => (q.1, tidy M.E q.2))
  | f => RV M ops d l k (callV M.call M.E M.C (d.getD M.E.n) f args s)
theorem RCl_fn {g first caps args} : RCl M ops d r k (.fn g first caps) args s = RV M ops d r k (callV M.call M.E M.C (d.getD M.E.n) (.fn g first caps) args s) := rfl
theorem RO_call' {f xs ts} : RO M ops ({ dst := d, op := .call { callee := .value f, args := xs, argTypes := ts }, type := ty, pos := pos, after := af, guard := none } :: r) k s = RCl M ops d r k (evalO s f) (evalOs s xs.toList) s := by
  unfold RCl
  split
  · rename_i q ver h
    unfold RO
    conv => lhs; unfold evOps
    simp only [wantedV, yieldOf, h]
    rfl
  · rename_i v hv
    rw [RO_op]
    · rfl
    · simp only [yieldOf]
/-- A guarded operation. -/
def gslot : List Oper → Nat → Option Tmp
  | [], _ => none
  | o :: _, 0 => o.dst
  | _ :: r, j + 1 => gslot r j
theorem gslot_zero {o : Oper} {l : List Oper} : gslot (o :: l) 0 = o.dst := rfl
theorem gslot_succ {o : Oper} {l : List Oper} {j : Nat} : gslot (o :: l) (j + 1) = gslot l j := rfl
theorem gslot_eq : ∀ (l : List Oper) (j : Nat), (l[j]?).bind (·.dst) = gslot l j
  | [], _ => rfl
  | o :: l, 0 => rfl
  | o :: l, j + 1 => by simp only [List.getElem?_cons_succ, gslot]; exact gslot_eq l j
def RG (M : Mc) (ops : Array Oper) (o : Oper) (r : List Oper) (k : K) (s : St) (t : Option Tmp) (w : Bool) : Option (Ex × St) :=
  match (match t with | some t => (match tget s.τ t with | .bool b => some (b == w) | .tup [] => some false | _ => none) | none => none) with
  | some true => RO M ops ({ o with guard := none } :: r) k s
  | some false => k.back M (((setD M.E o.dst (.tup []) s).bind (evOps M.call M.E M.C ops r)).map fun q => (q.1, tidy M.E q.2))
  | none => k.back M none
def RGb (M : Mc) (ops : Array Oper) (o : Oper) (r : List Oper) (k : K) (s : St) (v : V) (w : Bool) : Option (Ex × St) :=
  match v with
  | .bool b => if b = w then RO M ops ({ o with guard := none } :: r) k s else RV M ops o.dst r k (some (.val (.tup []) s))
  | .tup [] => RV M ops o.dst r k (some (.val (.tup []) s))
  | _ => k.back M none
theorem RO_guard {op j w} : RO M ops ({ dst := d, op := op, type := ty, pos := pos, after := af, guard := some (j, w) } :: r) k s = RG M ops { dst := d, op := op, type := ty, pos := pos, after := af, guard := none } r k s (gslot ops.toList j) w := by
  unfold RO RG
  conv => lhs; unfold evOps
  simp only [wantedV]
  rw [← gslot_eq, Array.getElem?_toList]
  generalize (ops[j]?).bind (fun x => x.dst) = x
  cases x with
  | none => rfl
  | some t =>
    dsimp only
    generalize tget s.τ t = u
    cases u with
    | bool b => cases b <;> cases w <;> rfl
    | tup vs => cases vs <;> rfl
    | _ => rfl
theorem RG_some {o t w} : RG M ops o r k s (some t) w = RGb M ops o r k s (tget s.τ t) w := by
  unfold RG RGb
  dsimp only
  generalize tget s.τ t = u
  cases u with
  | bool b => cases b <;> cases w <;> rfl
  | tup vs => cases vs <;> rfl
  | _ => rfl
theorem RGb_bool {o w b} : RGb M ops o r k s (.bool b) w = if b = w then RO M ops ({ o with guard := none } :: r) k s else RV M ops o.dst r k (some (.val (.tup []) s)) := rfl
theorem RGb_off {o w} : RGb M ops o r k s (.tup []) w = RV M ops o.dst r k (some (.val (.tup []) s)) := rfl
theorem RO_alloc {t} : RO M ops ({ dst := d, op := .alloc t, type := ty, pos := pos, after := af, guard := none } :: r) k s = RV M ops d r k (match zeroT M.E.P t with
    | some z => if (cellsV z).all leafV = true then (let q := newVarV M.E (d.getD M.E.n) (cellsV z) s; some (.val q.1 q.2)) else none
    | none => none) := RO_op rfl
theorem RO_box {t x} : RO M ops ({ dst := d, op := .box t x, type := ty, pos := pos, after := af, guard := none } :: r) k s = RV M ops d r k
    (if (cellsV (evalO s x)).all leafV = true then (let q := newVarV M.E (d.getD M.E.n) (cellsV (evalO s x)) s; some (.val q.1 q.2)) else none) := RO_op rfl
theorem RO_pick {c a b} : RO M ops ({ dst := d, op := .pick c a b, type := ty, pos := pos, after := af, guard := none } :: r) k s = RV M ops d r k
    (match evalO s c with | .bool t => some (.val (if t then evalO s a else evalO s b) s) | _ => none) := RO_op rfl
theorem RO_build {t ps} : RO M ops ({ dst := d, op := .build t ps, type := ty, pos := pos, after := af, guard := none } :: r) k s = RV M ops d r k
    (match structT M.E.P t, zeroT M.E.P t with
    | true, some z => if (cellsV z).all leafV = true then valOf s ((fillE M.E.P t (cellsV z) (evalPs s ps.toList)).map .agg) else none
    | _, _ => none) := RO_op rfl
theorem RO_buildSlice {t n ps} : RO M ops ({ dst := d, op := .buildSlice t n ps, type := ty, pos := pos, after := af, guard := none } :: r) k s = RV M ops d r k
    (match elemT M.E.P t with
    | some e => match zeroT M.E.P e, frzs M.E s (evalOs s (ps.toList.map (·.2))) with
      | some z, some qs =>
        if n * szT M.E.P e ≤ 16777216 ∧ (roomOk M.E.P e n && fitsE M.E.P e z) = true then
          (fillS M.E.P e (List.replicate n z) (zipP (evalPs s ps.toList) qs)).map fun es =>
            let q := newArr M.E (d.getD M.E.n) (szT M.E.P e) es (St.dels M.E (refsL (evalOs s (ps.toList.map (·.2)))) s)
            .val q.1 q.2
        else none
      | _, _ => none
    | none => none) := RO_op rfl
theorem RO_nilCheck {x} : RO M ops ({ dst := d, op := .nilCheck x, type := ty, pos := pos, after := af, guard := none } :: r) k s = RV M ops d r k
    (match evalO s x with
    | .ptr k v i off => some (.val (.ptr k v i off) s)
    | .iptr cs => some (.val (.iptr cs) s)
    | .fn (.func g) a b => some (.val (.fn (.func g) a b) s)
    | _ => none) := RO_op rfl
theorem RO_convert {a b x} : RO M ops ({ dst := d, op := .convert a b x, type := ty, pos := pos, after := af, guard := none } :: r) k s = RV M ops d r k
    (match evalO s x with
    | .int _ n => if hasT M.E.P a then valOf s ((intT M.E.P b).map fun k => .int k (k.wrap n)) else none
    | .str u => if strT M.E.P b && strT M.E.P a then some (.val (.str u) s) else valOf s (convB M.E a b (.str u) s)
    | y => valOf s (convB M.E a b y s)) := RO_op rfl
theorem RO_makeInterface {t x} : RO M ops ({ dst := d, op := .makeInterface t x, type := ty, pos := pos, after := af, guard := none } :: r) k s = RV M ops d r k
    (if concT M.E.P t then some (.val (.iface t (evalO s x)) s) else none) := RO_op rfl
theorem RO_makeFunc {f a b} : RO M ops ({ dst := d, op := .makeFunc f a b, type := ty, pos := pos, after := af, guard := none } :: r) k s = RV M ops d r k
    (some (.val (.fn f (evalOs s a.toList) (evalOs s b.toList)) s)) := RO_op rfl
theorem RO_makeSlice {t l c} : RO M ops ({ dst := d, op := .makeSlice t l c, type := ty, pos := pos, after := af, guard := none } :: r) k s = RV M ops d r k
    (match elemT M.E.P t with
    | some e => match zeroT M.E.P e, evalO s l, evalO s c with
      | some z, .int _ n, .int _ m => if 0 ≤ n ∧ n ≤ m ∧ m ≤ 9223372036854775807 ∧ (roomOk M.E.P e m.toNat && fitsE M.E.P e z) = true then (let q := newArr M.E (d.getD M.E.n) (szT M.E.P e) (List.replicate n.toNat z) s; some (.val q.1 q.2)) else none
      | _, _, _ => none
    | none => none) := RO_op rfl
theorem RO_slice {t x lo hi} : RO M ops ({ dst := d, op := .slice t x lo hi none, type := ty, pos := pos, after := af, guard := none } :: r) k s = RV M ops d r k
    (valOf s (sliceA M.E t (evalO s x) (lo.map (evalO s)) (hi.map (evalO s)) s)) := RO_op rfl
theorem RO_fieldAddr {t x j} : RO M ops ({ dst := d, op := .fieldAddr t x j, type := ty, pos := pos, after := af, guard := none } :: r) k s = RV M ops d r k
    (match fldT M.E.P t j with
    | some (off, u) => if szT M.E.P u = 0 then none else match evalO s x with
      | .ptr k v i o => some (.val (.ptr k v i (o + off)) s)
      | .iptr cs => if off ≤ cs.length then some (.val (.iptr (cs.drop off)) s) else none
      | _ => none
    | none => none) := RO_op rfl
theorem RO_field {t x j} : RO M ops ({ dst := d, op := .field t x j, type := ty, pos := pos, after := af, guard := none } :: r) k s = RV M ops d r k
    (match fldT M.E.P t j, evalO s x with
    | some (off, u), .agg cs => valOf s (readT M.E.P u (cs.drop off))
    | _, _ => none) := RO_op rfl
theorem RO_indexAddr {t x i} : RO M ops ({ dst := d, op := .indexAddr t x i, type := ty, pos := pos, after := af, guard := none } :: r) k s = RV M ops d r k
    (match evalO s i with
    | .int _ n => if 0 ≤ n then
        match elemT M.E.P t, evalO s x with
        | some e, .lst es => match es[n.toNat]? with
          | some v => if fitsE M.E.P e v then some (.val (.iptr (cellsV v)) s) else none
          | none => none
        | some e, .ref k ver off len => match s.obj M.E k ver with
          | some (.arr sz _) => if n < len ∧ sz = szT M.E.P e ∧ (aggT M.E.P e).isSome = true then some (.val (.ptr k ver (off + n.toNat) 0) s) else none
          | _ => none
        | _, y => valOf s (idxA M.E.P t y n)
      else none
    | _ => none) := RO_op rfl
theorem RO_index {t x i} : RO M ops ({ dst := d, op := .index t x i, type := ty, pos := pos, after := af, guard := none } :: r) k s = RV M ops d r k
    (match evalO s i, evalO s x with
    | .int _ n, .str b => if strT M.E.P t = true ∧ 0 ≤ n then valOf s ((b[n.toNat]?).map fun u => .int .u8 u.toNat) else none
    | _, _ => none) := RO_op rfl
theorem RO_extract {x j} : RO M ops ({ dst := d, op := .extract x j, type := ty, pos := pos, after := af, guard := none } :: r) k s = RV M ops d r k
    (match evalO s x with
    | .tup vs => valOf s vs[j]?
    | _ => none) := RO_op rfl
theorem RO_panic {x} : RO M ops ({ dst := d, op := .panic x, type := ty, pos := pos, after := af, guard := none } :: r) k s = RV M ops d r k
    (match evalO s x with
    | .iface t v => some (.pan (.iface t v) s)
    | _ => none) := RO_op rfl
theorem RO_makeMap {t} : RO M ops ({ dst := d, op := .makeMap t none, type := ty, pos := pos, after := af, guard := none } :: r) k s = RV M ops d r k
    (let q := newMap M.E (d.getD M.E.n) s; some (.val q.1 q.2)) := RO_op rfl
theorem RO_mapUpdate {t m x y} : RO M ops ({ dst := d, op := .mapUpdate t m x y, type := ty, pos := pos, after := af, guard := none } :: r) k s = RV M ops d r k
    ((mapPut M.E t (evalO s m) (evalO s x) (evalO s y) s).map fun s' => .val .junk s') := RO_op rfl
theorem RO_insert {t m x y} : RO M ops ({ dst := d, op := .insert t m x y, type := ty, pos := pos, after := af, guard := none } :: r) k s = RV M ops d r k
    ((mapPut M.E t (evalO s m) (evalO s x) (evalO s y) s).map fun s' => .val .junk s') := RO_op rfl
theorem RO_lookup {t m x ok} : RO M ops ({ dst := d, op := .lookup t m x ok, type := ty, pos := pos, after := af, guard := none } :: r) k s = RV M ops d r k
    (valOf s (mapGet M.E t (evalO s m) (evalO s x) ok s)) := RO_op rfl
end ops
end Go.Vi
namespace Go.Vi
open Go

variable {M : Mc} {k : K} {s : St}
theorem wrap_id {n : Int} (h : -9223372036854775808 ≤ n ∧ n < 9223372036854775808) : IntKind.i64.wrap n = n := by
  have e1 : (2:Int) ^ (IntKind.i64.bits - 1) = 9223372036854775808 := by decide
  have e2 : (2:Int) ^ IntKind.i64.bits = 18446744073709551616 := by decide
  have e3 : IntKind.i64.signed = true := rfl
  simp only [IntKind.wrap, e1, e2, e3, Bool.true_and, decide_eq_true_eq]
  split <;> omega
theorem z0 : ((0:Nat):Int) = 0 := rfl
theorem z00 : ((0:Int) ≤ 0) = True := by simp
theorem z1 : ((1:Nat):Int) = 1 := rfl
theorem nat_nonneg (n : Nat) : (0 ≤ (n : Int)) = True := by simp
theorem vlen : (∀ es, lenV (.lst es) = some es.length) ∧ (lenV .nilS = some 0) ∧ (∀ a b c n, lenV (.ref a b c n) = some n) ∧ (∀ b, lenV (.str b) = some b.length) := ⟨fun _ => rfl, rfl, fun _ _ _ _ => rfl, fun _ => rfl⟩
theorem velems {E : Env} {s : St} : (∀ es, elems E s (.lst es) = some es) ∧ (elems E s .nilS = some []) ∧ (∀ k ver off len, elems E s (.ref k ver off len) = match s.obj E k ver with
    | some (.arr sz es) => if off + len ≤ es.length then some ((es.drop off).take len) else none
    | _ => none) := ⟨fun _ => rfl, rfl, fun _ _ _ _ => rfl⟩
theorem vleaf : (∀ k n, leafV (.int k n) = true) ∧ (∀ b, leafV (.bool b) = true) ∧ (∀ b, leafV (.str b) = true) ∧ (∀ b, leafV (.lst b) = true) ∧ (∀ b, leafV (.iptr b) = true) ∧ (leafV .nilS = true) ∧ (leafV .nilP = true) ∧ (leafV .nilI = true) ∧ (leafV .nilF = true) ∧ (leafV .nilM = true) ∧ (∀ a b, leafV (.iface a b) = true) ∧ (∀ a b c, leafV (.fn a b c) = true) ∧ (∀ a b c d, leafV (.ref a b c d) = true) ∧ (∀ a b c d, leafV (.ptr a b c d) = true) ∧ (∀ a b, leafV (.mref a b) = true) ∧ (∀ a, leafV (.agg a) = false) ∧ (∀ a, leafV (.tup a) = false) :=
  ⟨fun _ _ => rfl, fun _ => rfl, fun _ => rfl, fun _ => rfl, fun _ => rfl, rfl, rfl, rfl, rfl, rfl, fun _ _ => rfl, fun _ _ _ => rfl, fun _ _ _ _ => rfl, fun _ _ _ _ => rfl, fun _ _ => rfl, fun _ => rfl, fun _ => rfl⟩
abbrev I (n : Int) : V := .int .i64 n
abbrev Is (l : List Int) : V := .lst (l.map I)

theorem R_ret' : R M .ret k s = some (.ret, s) := R_ret.trans (X_ret _)
theorem RV_pan' {ops d l v s'} : RV M ops d l k (some (.pan v s')) = some (.pan v, tidy M.E s') := RV_pan.trans (X_pan _)
theorem RO_nil' {ops} : RO M ops [] k s = X M .norm k ⟨tkeep s.τ M.E.keep, lkeep s.L M.E.keep, s.O, s.c⟩ := rfl
theorem passed_tmp {E : Env} {t : Nat} : passed E (.tmp t) s = if E.cnd.contains t = true then ⟨tdrop s.τ t, s.L, s.O, s.c⟩ else s := rfl
theorem passed_const {E : Env} {v : Value} : passed E (.const v) s = s := rfl
theorem cons_has (a b : Nat) (l : List Nat) : (a :: l).contains b = (b == a || l.contains b) := List.contains_cons
theorem nil_has (b : Nat) : ([] : List Nat).contains b = false := rfl
theorem if_tt {α : Type} (a b : α) : (if true = true then a else b) = a := rfl
theorem if_ff {α : Type} (a b : α) : (if false = true then a else b) = b := rfl
theorem isome {α : Type} (a : α) : (some a).isSome = true := rfl
theorem gets {α : Type} (a b : α) : (some a).getD b = a := rfl
theorem getn {α : Type} (b : α) : (none : Option α).getD b = b := rfl
theorem omap {α β : Type} (f : α → β) (a : α) : Option.map f (some a) = some (f a) := rfl
theorem obnd {α β : Type} (f : α → Option β) (a : α) : Option.bind (some a) f = f a := rfl
theorem valOf_some {v : V} : valOf s (some v) = some (.val v s) := rfl
/-- What lies at a place, if it bears this mark. -/
def ob (x : Option (Nat × Obj)) (v : Nat) : Option Obj := match x with | some (v', o) => if v' = v then some o else none | none => none
theorem ob_some {v' o v} : ob (some (v', o)) v = if v' = v then some o else none := rfl
theorem obj_s {E : Env} {l sl off v : Nat} (h : l = E.lvl) : St.obj E s ⟨l, sl, off⟩ v = ob (lget s.L (sl, off)) v := by
  unfold St.obj; rw [if_pos h]; rfl
theorem put_s {E : Env} {l sl off v : Nat} {o : Obj} (h : l = E.lvl) : St.put E s ⟨l, sl, off⟩ v o = ⟨s.τ, lput s.L (sl, off) (v, o), s.O, s.c⟩ := by
  unfold St.put; rw [if_pos h]
theorem del_s {E : Env} {l sl off : Nat} (h : l = E.lvl) : St.del E s ⟨l, sl, off⟩ = ⟨s.τ, ldel s.L (sl, off), s.O, s.c⟩ := by
  unfold St.del; rw [if_pos h]
theorem dels_nil {E : Env} : St.dels E [] s = s := rfl
theorem dels_cons {E : Env} {k r} : St.dels E (k :: r) s = St.dels E r (s.del E k) := rfl
theorem pair_eq {a b c d : Nat} : ((a, b) = (c, d)) = (a = c ∧ b = d) := by simp
/-- The machine's rules for operations. -/
theorem vmr : (type_of% @RO_move) ∧ (type_of% @RO_assign) ∧ (type_of% @RO_bin) ∧ (type_of% @RO_un) ∧ (type_of% @RO_load) ∧ (type_of% @RO_store) ∧ (type_of% @RO_len) ∧ (type_of% @RO_min) ∧ (type_of% @RO_max) ∧ (type_of% @RO_append) ∧ (type_of% @RO_copy) ∧ (type_of% @RO_call') ∧ (type_of% @RCl_fn) ∧ (type_of% @RO_guard) ∧ (type_of% @RG_some) ∧ (type_of% @RGb_bool) ∧ (type_of% @RGb_off) ∧ (type_of% @gslot_zero) ∧ (type_of% @gslot_succ) ∧ (type_of% @RO_alloc) ∧ (type_of% @RO_box) ∧ (type_of% @RO_pick) ∧ (type_of% @RO_build) ∧ (type_of% @RO_buildSlice) ∧ (type_of% @RO_nilCheck) ∧ (type_of% @RO_convert) ∧ (type_of% @RO_makeInterface) ∧ (type_of% @RO_makeFunc) ∧ (type_of% @RO_makeSlice) ∧ (type_of% @RO_slice) ∧ (type_of% @RO_fieldAddr) ∧ (type_of% @RO_field) ∧ (type_of% @RO_indexAddr) ∧ (type_of% @RO_index) ∧ (type_of% @RO_extract) ∧ (type_of% @RO_panic) ∧ (type_of% @RO_makeMap) ∧ (type_of% @RO_mapUpdate) ∧ (type_of% @RO_insert) ∧ (type_of% @RO_lookup) :=
  ⟨@RO_move, @RO_assign, @RO_bin, @RO_un, @RO_load, @RO_store, @RO_len, @RO_min, @RO_max, @RO_append, @RO_copy, @RO_call', @RCl_fn, @RO_guard, @RG_some, @RGb_bool, @RGb_off, @gslot_zero, @gslot_succ, @RO_alloc, @RO_box, @RO_pick, @RO_build, @RO_buildSlice, @RO_nilCheck, @RO_convert, @RO_makeInterface, @RO_makeFunc, @RO_makeSlice, @RO_slice, @RO_fieldAddr, @RO_field, @RO_indexAddr, @RO_index, @RO_extract, @RO_panic, @RO_makeMap, @RO_mapUpdate, @RO_insert, @RO_lookup⟩
/-- The way of the code. -/
theorem vmw : (type_of% @R_seq) ∧ (type_of% @R_skip) ∧ (type_of% @R_label) ∧ (type_of% @R_ret') ∧ (type_of% @R_exit) ∧ (type_of% @R_scope) ∧ (type_of% @R_block) ∧ (type_of% @R_loop) ∧ (type_of% @R_cond') ∧ (type_of% @Cnd_bool) ∧ (type_of% @R_region) ∧ (type_of% @X_seq) ∧ (type_of% @X_seq_exit) ∧ (type_of% @X_blk) ∧ (type_of% @X_blk_exit) ∧ (type_of% @X_lp) ∧ (type_of% @X_lp_exit) ∧ (type_of% @X_pan) ∧ (type_of% @RO_nil') ∧ (type_of% @RV_val) ∧ (type_of% @RV_val_none) ∧ (type_of% @RV_pan') ∧ (type_of% @passed_tmp) ∧ (type_of% @passed_const) ∧ (type_of% @tget_tset) ∧ (type_of% @tkeep_get) ∧ (type_of% @tdrop_get) :=
  ⟨@R_seq, @R_skip, @R_label, @R_ret', @R_exit, @R_scope, @R_block, @R_loop, @R_cond', @Cnd_bool, @R_region, @X_seq, @X_seq_exit, @X_blk, @X_blk_exit, @X_lp, @X_lp_exit, @X_pan, @RO_nil', @RV_val, @RV_val_none, @RV_pan', @passed_tmp, @passed_const, @tget_tset, @tkeep_get, @tdrop_get⟩
/-- Plain reckoning. -/
theorem vmp : (type_of% @if_tt) ∧ (type_of% @if_ff) ∧ (type_of% @isome) ∧ (type_of% @gets) ∧ (type_of% @getn) ∧ (type_of% @omap) ∧ (type_of% @obnd) ∧ (type_of% @valOf_some) ∧ (type_of% @cons_has) ∧ (type_of% @nil_has) ∧ (type_of% @Bool.or_false) ∧ (type_of% @Bool.or_true) ∧ (type_of% @Bool.false_or) ∧ (type_of% @Bool.true_or) ∧ (type_of% @decide_eq_true_eq) :=
  ⟨@if_tt, @if_ff, @isome, @gets, @getn, @omap, @obnd, @valOf_some, @cons_has, @nil_has, @Bool.or_false, @Bool.or_true, @Bool.false_or, @Bool.true_or, @decide_eq_true_eq⟩
/-- Objects. -/
theorem vst : (type_of% @ob_some) ∧ (type_of% @obj_s) ∧ (type_of% @put_s) ∧ (type_of% @del_s) ∧ (type_of% @dels_nil) ∧ (type_of% @dels_cons) ∧ (type_of% @lget_lput) ∧ (type_of% @lget_ldel) ∧ (type_of% @lget_lkeep) ∧ (type_of% @pair_eq) :=
  ⟨@ob_some, @obj_s, @put_s, @del_s, @dels_nil, @dels_cons, @lget_lput, @lget_ldel, @lget_lkeep, @pair_eq⟩
end Go.Vi
namespace Go.Vi
open Go

/-! ### A nil row is an empty row -/
mutual
def can : V → V
  | .nilS => .lst []
  | .agg cs => .agg (cans cs)
  | .tup cs => .tup (cans cs)
  | .lst es => .lst (cans es)
  | v => v
def cans : List V → List V
  | [] => []
  | v :: r => can v :: cans r
end
theorem cans_len : ∀ l : List V, (cans l).length = l.length
  | [] => rfl
  | v :: r => by simp only [cans, List.length_cons, cans_len r]
mutual
theorem PC_can {w : World} {A : Nat → Prop} : ∀ (v : V) (c : Value), PC w A v c → PC w A (can v) c
  | .nilS, c, h => by
    simp only [PC, can] at h ⊢
    exact ⟨none, 0, h, by simp, by simp, by simp⟩
  | .agg cs, c, h => by
    simp only [PC, can] at h ⊢
    obtain ⟨a, e, h⟩ := h
    exact ⟨a, e, PCs_can cs _ h⟩
  | .tup cs, c, h => by
    simp only [PC, can] at h ⊢
    obtain ⟨a, e, h⟩ := h
    exact ⟨a, e, PCs_can cs _ h⟩
  | .lst es, c, h => by
    simp only [PC, can] at h ⊢
    obtain ⟨ao, cap, e, h1, h2, h3⟩ := h
    rw [cans_len]
    refine ⟨ao, cap, e, h1, h2, fun hn => ?_⟩
    obtain ⟨b, o, sz, e2, hb, h4⟩ := h3 hn
    exact ⟨b, o, sz, e2, hb, PEs_can es b o sz h4⟩
  | .int .., _, h => by simpa [can] using h
  | .bool _, _, h => by simpa [can] using h
  | .str _, _, h => by simpa [can] using h
  | .iptr _, _, h => by simpa [can] using h
  | .nilP, _, h => by simpa [can] using h
  | .nilI, _, h => by simpa [can] using h
  | .nilF, _, h => by simpa [can] using h
  | .nilM, _, h => by simpa [can] using h
  | .iface .., _, h => by simpa [can] using h
  | .fn .., _, h => by simpa [can] using h
  | .ref .., _, h => by simp [PC] at h
  | .ptr .., _, h => by simp [PC] at h
  | .mref .., _, h => by simp [PC] at h
  | .own .., _, h => by simp [PC] at h
  | .junk, _, h => by simp [PC] at h
theorem PCs_can {w : World} {A : Nat → Prop} : ∀ (v : List V) (c : List Value), PCs w A v c → PCs w A (cans v) c
  | [], _, h => by simpa [PCs, cans] using h
  | v :: r, l, h => by
    simp only [PCs, cans] at h ⊢
    obtain ⟨c, d, e, h1, h2⟩ := h
    exact ⟨c, d, e, PC_can v c h1, PCs_can r d h2⟩
theorem PAt_can {w : World} {A : Nat → Prop} : ∀ (v : List V) (b o : Nat), PAt w A b o v → PAt w A b o (cans v)
  | [], _, _, _ => by simp [cans, PAt]
  | v :: r, b, o, h => by
    simp only [PAt, cans] at h ⊢
    obtain ⟨⟨c, h1, h2⟩, h3⟩ := h
    exact ⟨⟨c, h1, PC_can v c h2⟩, PAt_can r b (o + 1) h3⟩
theorem PEs_can {w : World} {A : Nat → Prop} : ∀ (v : List V) (b o sz : Nat), PEs w A b o sz v → PEs w A b o sz (cans v)
  | [], _, _, _, _ => by simp [cans, PEs]
  | .agg cs :: r, b, o, sz, h => by
    simp only [PEs, cans, can] at h ⊢
    exact ⟨by rw [cans_len]; exact h.1, PAt_can cs b o h.2.1, PEs_can r b (o + sz) sz h.2.2⟩
  | .nilS :: r, b, o, sz, h => by
    simp only [PEs, cans, can] at h ⊢
    obtain ⟨h0, ⟨c, h1, h2⟩, h3⟩ := h
    have := PC_can .nilS c h2
    exact ⟨h0, ⟨c, h1, by simpa [can] using this⟩, PEs_can r b (o + sz) sz h3⟩
  | .lst es :: r, b, o, sz, h => by
    simp only [PEs, cans, can] at h ⊢
    obtain ⟨h0, ⟨c, h1, h2⟩, h3⟩ := h
    have := PC_can (.lst es) c h2
    exact ⟨h0, ⟨c, h1, by simpa [can] using this⟩, PEs_can r b (o + sz) sz h3⟩
  | .tup es :: r, b, o, sz, h => by
    simp only [PEs, cans, can] at h ⊢
    obtain ⟨h0, ⟨c, h1, h2⟩, h3⟩ := h
    have := PC_can (.tup es) c h2
    exact ⟨h0, ⟨c, h1, by simpa [can] using this⟩, PEs_can r b (o + sz) sz h3⟩
  | .int .. :: r, b, o, sz, h => by simp only [PEs, cans, can] at h ⊢; exact ⟨h.1, h.2.1, PEs_can r b (o + sz) sz h.2.2⟩
  | .bool _ :: r, b, o, sz, h => by simp only [PEs, cans, can] at h ⊢; exact ⟨h.1, h.2.1, PEs_can r b (o + sz) sz h.2.2⟩
  | .str _ :: r, b, o, sz, h => by simp only [PEs, cans, can] at h ⊢; exact ⟨h.1, h.2.1, PEs_can r b (o + sz) sz h.2.2⟩
  | .iptr _ :: r, b, o, sz, h => by simp only [PEs, cans, can] at h ⊢; exact ⟨h.1, h.2.1, PEs_can r b (o + sz) sz h.2.2⟩
  | .nilP :: r, b, o, sz, h => by simp only [PEs, cans, can] at h ⊢; exact ⟨h.1, h.2.1, PEs_can r b (o + sz) sz h.2.2⟩
  | .nilI :: r, b, o, sz, h => by simp only [PEs, cans, can] at h ⊢; exact ⟨h.1, h.2.1, PEs_can r b (o + sz) sz h.2.2⟩
  | .nilF :: r, b, o, sz, h => by simp only [PEs, cans, can] at h ⊢; exact ⟨h.1, h.2.1, PEs_can r b (o + sz) sz h.2.2⟩
  | .nilM :: r, b, o, sz, h => by simp only [PEs, cans, can] at h ⊢; exact ⟨h.1, h.2.1, PEs_can r b (o + sz) sz h.2.2⟩
  | .iface .. :: r, b, o, sz, h => by simp only [PEs, cans, can] at h ⊢; exact ⟨h.1, h.2.1, PEs_can r b (o + sz) sz h.2.2⟩
  | .fn .. :: r, b, o, sz, h => by simp only [PEs, cans, can] at h ⊢; exact ⟨h.1, h.2.1, PEs_can r b (o + sz) sz h.2.2⟩
  | .ref .. :: r, b, o, sz, h => by simp only [PEs, PC] at h; obtain ⟨_, ⟨_, _, h⟩, _⟩ := h; exact absurd h id
  | .ptr .. :: r, b, o, sz, h => by simp only [PEs, PC] at h; obtain ⟨_, ⟨_, _, h⟩, _⟩ := h; exact absurd h id
  | .mref .. :: r, b, o, sz, h => by simp only [PEs, PC] at h; obtain ⟨_, ⟨_, _, h⟩, _⟩ := h; exact absurd h id
  | .own .. :: r, b, o, sz, h => by simp only [PEs, PC] at h; obtain ⟨_, ⟨_, _, h⟩, _⟩ := h; exact absurd h id
  | .junk :: r, b, o, sz, h => by simp only [PEs, PC] at h; obtain ⟨_, ⟨_, _, h⟩, _⟩ := h; exact absurd h id
end

theorem sound_can {P : Program} {g : FuncId} {args : List V} {out : COut} (h : SoundPure P g (cans args) out) : SoundPure P g args out :=
  fun w A cs hJ hA hp => h w A cs hJ hA (PCs_can _ _ hp)

/-- Rows that are handed back may be taken as immutable ones, nil rows as empty ones. -/
theorem sound_imm {P : Program} {g : FuncId} {args : List V} {v : V} (h : SoundPure P g args (.ret v)) (hp : pureR v = true) : SoundPure P g args (.ret (can (imm v))) := by
  intro w A cs hJ hA ha
  refine (h w A cs hJ hA ha).mono ?_
  rintro e w' ⟨A', t, hA', cv, l, rfl, hrc, hown, hd⟩
  refine ⟨fun b => A' b ∨ ∃ i ∈ l, i.b = some b, ⟨t.size, t.os, t.tape, t.output, t.old, t.beta, t.cnt, fun b hb => .inl (t.imm b hb), fun b hb => ?_, fun b hb => absurd hb noM⟩, fun b hb => ?_, cv, [], rfl, ?_, fun i hi => (by cases hi), List.Pairwise.nil⟩
  · rcases hb with hb | ⟨i, hi, hb⟩
    · exact t.newA b hb
    · exact .inr (.inr (hown i hi b hb).1)
  · rcases hb with hb | ⟨i, hi, hb⟩
    · exact hA' b hb
    · exact (hown i hi b hb).2.1
  · exact RC.of_pure _ _ (PC_can _ _ (imm_sound (fun b hb => .inl hb) v cv l hp hrc (fun i hi b hb => .inr ⟨i, hi, hb⟩)))

/-! ### Functions whose answers are known -/
open Classical in
/-- A function's answers: at arguments of one form, under a condition. -/
noncomputable def hF {α : Type} (enc : α → List V) (ok : α → Prop) (out : α → V) : List V → Option V :=
  fun args => if h : ∃ a, cans args = enc a ∧ ok a then some (out h.choose) else none
theorem hF_eq {α : Type} {enc : α → List V} {ok : α → Prop} {out : α → V} {args : List V} {a : α} (hi : ∀ a b, enc a = enc b → a = b) (h : cans args = enc a) (hk : ok a) : hF enc ok out args = some (out a) := by
  have hx : ∃ a, cans args = enc a ∧ ok a := ⟨a, h, hk⟩
  unfold hF
  rw [dif_pos hx]
  congr 2
  exact (hi _ _ (h.symm.trans hx.choose_spec.1)).symm
theorem hF_sound {P : Program} {g : FuncId} {α : Type} {enc : α → List V} {ok : α → Prop} {out : α → V} (h : ∀ a, ok a → SoundPure P g (enc a) (.ret (out a))) : ∀ args v, hF enc ok out args = some v → SoundPure P g args (.ret v) := by
  intro args v hv
  unfold hF at hv
  split at hv
  · rename_i hx
    injection hv with hv
    subst hv
    have := h _ hx.choose_spec.2
    rw [← hx.choose_spec.1] at this
    exact sound_can this
  · cases hv

def hand : List (FuncId × (List V → Option V)) → FuncId → Option (List V → Option V)
  | [], _ => none
  | (q, F) :: r, g => if g = q then some F else hand r g
theorem hand_nil {g} : hand [] g = none := rfl
theorem hand_cons {q F r g} : hand ((q, F) :: r) g = if g = q then some F else hand r g := rfl
theorem sound_nil {P : Program} : SoundHand P (hand []) := fun g F args v h => by cases h
theorem sound_cons {P : Program} {q : FuncId} {F : List V → Option V} {r} (h : ∀ args v, F args = some v → SoundPure P q args (.ret v)) (hr : SoundHand P (hand r)) : SoundHand P (hand ((q, F) :: r)) := by
  intro g F' args v hg hv
  simp only [hand] at hg
  split at hg
  · injection hg with hg
    subst hg
    rename_i e
    subst e
    exact h args v hv
  · exact hr g F' args v hg hv

theorem sound_of {C : Ctx} (hhand : SoundHand C.P C.hand) (hG : ∀ g ∈ C.ok, GoodF C.P g) (hm : C.P.follows .mixedOrders = true) {g : FuncId} {fn : Func} {b : Code} {args : List V} {n : Nat} {out : COut} (hf : C.P.funcs[g]? = some fn) (hb : fn.body = some b) (hl : args.length ≤ fn.ntmps)
    (hp : match out with | .ret v => pureR v = true | .pan v => pureR v = true) (h : Fin (mcOf C g fn n) fn.results.toList (R (mcOf C g fn n) b .top ⟨params 0 args, [], fun _ => none, 0⟩) = some out) : SoundPure C.P g args out := by
  obtain ⟨c', O', h1⟩ := evF_of hf hb hl h
  exact pure_of_call (evF_sound hhand hG hm (n + 1)) h1 (by cases out <;> exact hp)

/-! ### Calls of functions whose answers are known -/
def CD (E : Env) (all : List V) (sh : Bool) (s : St) : St := if sh then St.dels E (refsL all) s else s
def CR (E : Env) (d : Nat) (all : List V) (s : St) : Option V → Option Res
  | some v => if (pureR v && shapeR v) = true then some (.val (importV E d v (CD E all (shares v) s)).1 (importV E d v (CD E all (shares v) s)).2) else none
  | none => none
theorem CR_some {E d all s v} : CR E d all s (some v) = if (pureR v && shapeR v) = true then some (.val (importV E d v (CD E all (shares v) s)).1 (importV E d v (CD E all (shares v) s)).2) else none := rfl
theorem callV_k {call : CallFn} {E : Env} {H : FuncId → Option (List V → Option V)} {d : Nat} {g : FuncId} {first caps args pargs : List V} {F : List V → Option V} {s : St} (hg : E.ok.contains g = true) (hi : E.imp = []) (hC : H g = some F) (hp : frzs E s (first ++ args ++ caps) = some pargs) :
    callV call E H d (.fn (.func g) first caps) args s = CR E d (first ++ args ++ caps) s (F pargs) := by
  unfold callV
  simp only [hg, if_true, hi, List.contains_nil, Bool.false_eq_true, if_false, hC, hp]
  unfold CR
  cases F pargs with
  | none => rfl
  | some v => simp only [Option.map_some, CD]
theorem callV_s {call : CallFn} {E : Env} {H : FuncId → Option (List V → Option V)} {d : Nat} {g : FuncId} {first caps args : List V} {s : St} (hg : E.ok.contains g = true) (hi : E.imp = []) (hC : (H g).isSome = true) (hp : (frzs E s (first ++ args ++ caps)).isSome = true) :
    callV call E H d (.fn (.func g) first caps) args s = CR E d (first ++ args ++ caps) s (((H g).getD fun _ => none) ((frzs E s (first ++ args ++ caps)).getD [])) := by
  obtain ⟨F, hF⟩ := Option.isSome_iff_exists.1 hC
  obtain ⟨p, hP⟩ := Option.isSome_iff_exists.1 hp
  rw [callV_k hg hi hF hP, hF, hP]
  rfl
end Go.Vi
namespace Go.Vi
open Go

theorem bq1 (b : Bool) : (b == true) = b := by cases b <;> rfl
theorem bq2 (b : Bool) : (b == false) = !b := by cases b <;> rfl
def opsAt : Code → Array Oper
  | .region _ ops _ => ops
  | _ => #[]
def isAssign : Op → Bool
  | .assign _ => true
  | _ => false
def assignAt (ops : Array Oper) (p : Nat) : Bool := match ops[p]? with | some o => isAssign o.op | none => false
/-- A region whose operations do not disturb each other. -/
def calmL (E : Env) (ops : Array Oper) (T : List (List Nat)) (acts : List Nat) : List Oper → Nat → Bool
  | [], _ => true
  | o :: r, i => staticOk E ops T acts o i && (acts.contains i == isActor E o.op) && (if acts.contains i then !watched ops T acts i || isAssign o.op else (acts.filter (apartI T i)).all (assignAt ops)) && calmL E ops T acts r (i + 1)
def calm (E : Env) (ops : Array Oper) : Bool := calmL E ops (ancTab ops.toList []) (actorsOf E ops.toList 0) ops.toList 0

def qst (ops : Array Oper) (o : Oper) (s : St) : St := ⟨fget s.τ (Oper.looksAt ops o), s.L, s.O, s.c + slack⟩
def fst' (ops : Array Oper) (o : Oper) (s : St) : St := ⟨fget s.τ (Oper.looksAt ops o), s.L, s.O, s.c⟩
/-- What may be assigned there. -/
def aok (E : Env) (d : Nat) (v : V) : Bool := match v with
  | .ref .. | .agg _ | .mref .. => false
  | .nilS => E.frz.contains d || !E.pro.contains d
  | _ => true
def touchA (E : Env) (o : Oper) (s : St) : Bool := match o.op with
  | .assign x => aok E (o.dst.getD E.n) (evalO s x)
  | _ => true
theorem touchA_ok {E : Env} {o : Oper} {s : St} (h : touchA E o s = true) (ha : isAssign o.op = true) : touchOk E o s [] = true := by
  unfold touchA at h
  unfold isAssign at ha
  unfold touchOk
  cases hop : o.op with
  | assign x =>
    rw [hop] at h
    dsimp only at h ⊢
    unfold aok at h
    split at h <;> first | cases h | (rename_i hv; rw [hv]; first | exact h | rfl) | skip
    rename_i h1 h2 h3 h4
    split
    · rename_i hv; exact absurd hv (h1 _ _ _ _)
    · rename_i hv; exact absurd hv (h2 _)
    · rename_i hv; exact absurd hv (h3 _ _)
    · rename_i hv; exact absurd hv h4
    · rfl
  | _ => rw [hop] at ha; cases ha
def drawS (call : CallFn) (E : Env) (C : FuncId → Option (List V → Option V)) (ops : Array Oper) (c0 : Nat) : List Oper → St → Option St
  | [], s => if s.c ≤ c0 + slack then some s else none
  | o :: r, s => match wantedV ops s o.guard with
    | none => none
    | some false => (setD E o.dst (.tup []) s).bind (drawS call E C ops c0 r)
    | some true => if isActor E o.op = true then
        match (if touchA E o (fst' ops o s) = true then aop call E C (o.dst.getD E.n) o.op (fst' ops o s) else none) with
        | some (.val v s1) => if s.c ≤ s1.c then (setD E o.dst v { s1 with τ := s.τ }).bind (drawS call E C ops c0 r) else none
        | _ => none
      else match qop call E C (o.dst.getD E.n) o.op (qst ops o s) with
        | some v => (setD E o.dst v s).bind (drawS call E C ops c0 r)
        | none => none
theorem gatherK_nil {f : Nat → Option (List Key)} : ∀ {l : List Nat}, (∀ p ∈ l, f p = some []) → gatherK f l = some []
  | [], _ => rfl
  | p :: r, h => by simp only [gatherK, h p (by simp), gatherK_nil (l := r) fun q hq => h q (by simp [hq]), List.nil_append]
theorem estAt_assign {E : Env} {ops : Array Oper} {s0 : St} {p : Nat} (h : assignAt ops p = true) : estAt E ops s0 p = some [] := by
  unfold assignAt at h
  unfold estAt
  split at h
  · rename_i o ho
    rw [ho]
    unfold isAssign at h
    split at h
    · rename_i x hx
      simp only [Option.bind_some, estK, hx]
    · cases h
  · cases h
theorem fget_get : ∀ (ts : List Nat) (τ : List (Nat × V)) (t : Nat), t ∈ ts → tget (fget τ ts) t = tget τ t
  | [], _, _, h => by cases h
  | u :: r, τ, t, h => by
    simp only [fget, tget]
    split
    · rename_i e; subst e; rfl
    · rename_i e
      rcases List.mem_cons.1 h with h | h
      · exact absurd h e
      · exact fget_get r τ t h
theorem wanted_focus {ops : Array Oper} {o : Oper} {s : St} : wantedV ops (focus s (Oper.looksAt ops o)) o.guard = wantedV ops s o.guard := by
  unfold wantedV
  cases hg : o.guard with
  | none => rfl
  | some p =>
    obtain ⟨j, w⟩ := p
    dsimp only
    cases hd : (ops[j]?).bind (·.dst) with
    | none => rfl
    | some d =>
      dsimp only
      have : tget (focus s (Oper.looksAt ops o)).τ d = tget s.τ d := fget_get _ _ _ (by simp [Oper.looksAt, hg, hd])
      rw [this]
theorem draw_calm {call : CallFn} {E : Env} {C : FuncId → Option (List V → Option V)} {ops : Array Oper} {s0 : St} : ∀ (l : List Oper) (i : Nat) (s s' : St), (∀ j, l[j]? = ops[i + j]?) → calmL E ops (ancTab ops.toList []) (actorsOf E ops.toList 0) l i = true →
    drawS call E C ops s0.c l s = some s' → drawOps call E C ops (ancTab ops.toList []) (actorsOf E ops.toList 0) s0 l i s = some s'
  | [], i, s, s', _, h, hs => hs
  | o :: r, i, s, s', hl, h, hs => by
    simp only [calmL, Bool.and_eq_true, beq_iff_eq] at h
    obtain ⟨⟨⟨h1, h2⟩, h3⟩, h4⟩ := h
    have ih := fun s s' => draw_calm (call := call) (C := C) (s0 := s0) r (i + 1) s s' (fun j => by have := hl (j + 1); simpa [Nat.add_assoc, Nat.add_comm 1 j] using this) h4
    have hoi : ops[i]? = some o := by have := hl 0; simpa using this.symm
    have ihb : ∀ x : Option St, x.bind (drawS call E C ops s0.c r) = some s' → x.bind (drawOps call E C ops (ancTab ops.toList []) (actorsOf E ops.toList 0) s0 r (i + 1)) = some s' := fun x hx => by
      cases x with
      | none => cases hx
      | some y => exact ih y s' hx
    unfold drawS at hs
    unfold drawOps
    rw [if_pos h1, wanted_focus]
    cases hw : wantedV ops s o.guard with
    | none => rw [hw] at hs; cases hs
    | some b =>
      rw [hw] at hs
      cases b with
      | false => exact ihb _ hs
      | true =>
        dsimp only at hs ⊢
        cases ha : isActor E o.op with
        | true =>
          rw [ha] at h2 hs
          rw [if_pos rfl] at hs
          rw [if_pos h2]
          rw [if_pos h2] at h3
          have hf : focus s (Oper.looksAt ops o) = fst' ops o s := rfl
          rw [hf]
          by_cases ht : touchA E o (fst' ops o s) = true
          · rw [if_pos ht] at hs
            have hwt : (!watched ops (ancTab ops.toList []) (actorsOf E ops.toList 0) i || (match estAt E ops s0 i with | some X => touchOk E o (fst' ops o s) X | none => true)) = true := by
              rcases Bool.or_eq_true _ _ ▸ h3 with h5 | h5
              · rw [h5]; rfl
              · rw [estAt_assign (by unfold assignAt; rw [hoi]; exact h5), Bool.or_eq_true]
                exact .inr (touchA_ok ht h5)
            cases hq : aop call E C (o.dst.getD E.n) o.op (fst' ops o s) with
            | none => rw [hq] at hs; cases hs
            | some res =>
              rw [hq] at hs
              cases res with
              | val v s1 =>
                dsimp only at hs ⊢
                split at hs
                · rename_i hc
                  refine Eq.trans (if_pos ?_) (ihb _ hs)
                  exact Bool.and_eq_true_iff.2 ⟨decide_eq_true hc, hwt⟩
                · cases hs
              | pan v s1 => cases hs
          · rw [if_neg ht] at hs; cases hs
        | false =>
          rw [ha] at h2 hs
          have hne : ¬ (actorsOf E ops.toList 0).contains i = true := by rw [h2]; simp
          rw [if_neg hne] at h3 ⊢
          rw [if_neg (by simp)] at hs
          have hqs : qState E ops (ancTab ops.toList []) (actorsOf E ops.toList 0) s0 (focus s (Oper.looksAt ops o)) i = qst ops o s := by
            unfold qState
            rw [gatherK_nil fun p hp => estAt_assign (List.all_eq_true.1 h3 p hp)]
            rfl
          rw [hqs]
          split at hs
          · rename_i v hv
            rw [hv]
            exact ihb _ hs
          · cases hs
theorem evalO_looks {ops : Array Oper} {o : Oper} {s : St} {x : Operand} {τ : List (Nat × V)} {L O c} (h : x ∈ o.op.operands.toList) (hτ : τ = fget s.τ (Oper.looksAt ops o)) : evalO ⟨τ, L, O, c⟩ x = evalO s x := by
  subst hτ
  cases x with
  | tmp t =>
    simp only [evalO]
    refine fget_get _ _ _ ?_
    unfold Oper.looksAt
    refine List.mem_append.2 (.inl ?_)
    rw [List.mem_filterMap]
    exact ⟨_, h, rfl⟩
  | _ => rfl
theorem evalOs_looks {ops : Array Oper} {o : Oper} {s : St} {τ : List (Nat × V)} {L O c} (hτ : τ = fget s.τ (Oper.looksAt ops o)) : ∀ {xs : List Operand}, (∀ x ∈ xs, x ∈ o.op.operands.toList) → evalOs ⟨τ, L, O, c⟩ xs = evalOs s xs
  | [], _ => rfl
  | x :: r, h => by simp only [evalOs, evalO_looks (h x (by simp)) hτ, evalOs_looks (xs := r) hτ fun y hy => h y (List.mem_cons_of_mem _ hy)]

/-- The machine in a drawn region. -/
def orElse (x z : Option St) : Option St := match x with | some y => some y | none => z
def RD (M : Mc) (ops : Array Oper) (c0 : Nat) (z : Option St) (l : List Oper) (k : K) (s : St) : Option (Ex × St) := k.back M ((orElse (drawS M.call M.E M.C ops c0 l s) z).map fun q => (.norm, tidy M.E q))
def RQ (M : Mc) (ops : Array Oper) (c0 : Nat) (z : Option St) (d : Option Tmp) (l : List Oper) (k : K) (s : St) (v : Option V) : Option (Ex × St) :=
  k.back M ((orElse (match v with | some v => (setD M.E d v s).bind (drawS M.call M.E M.C ops c0 l) | none => none : Option St) z).map fun q => (.norm, tidy M.E q))
def RA (M : Mc) (ops : Array Oper) (c0 : Nat) (z : Option St) (d : Option Tmp) (l : List Oper) (k : K) (s : St) (v : Option Res) : Option (Ex × St) :=
  k.back M ((orElse (match v with | some (.val v s1) => if s.c ≤ s1.c then (setD M.E d v { s1 with τ := s.τ }).bind (drawS M.call M.E M.C ops c0 l) else none | _ => none : Option St) z).map fun q => (.norm, tidy M.E q))
variable {M : Mc} {k : K} {s : St} {z : Option St}
theorem R_draw {id ops} (h : calm M.E ops = true) : R M (.region id ops true) k s = RD M ops s.c (drawR M.call M.E M.C ops s) ops.toList k s := by
  unfold R RD evM
  conv => lhs; unfold evC
  cases hd : drawS M.call M.E M.C ops s.c ops.toList s with
  | none => rfl
  | some s' =>
    have := draw_calm (s0 := s) ops.toList 0 s s' (fun j => by simp) h hd
    unfold drawR
    rw [this]
    rfl
theorem RD_nil {ops c0} : RD M ops c0 z [] k s = if s.c ≤ c0 + slack then X M .norm k ⟨tkeep s.τ M.E.keep, lkeep s.L M.E.keep, s.O, s.c⟩ else k.back M (z.map fun q => (.norm, tidy M.E q)) := by
  unfold RD
  conv => lhs; unfold drawS
  split <;> rfl
theorem RQ_some {ops c0 d l v} (hd : d < M.E.n) : RQ M ops c0 z (some d) l k s (some v) = RD M ops c0 z l k { s with τ := tset s.τ d v } := by
  unfold RQ RD
  simp only [setD, if_pos hd, Option.bind_some]
theorem RA_val {ops c0 d l v s1} (hd : d < M.E.n) (hc : s.c ≤ s1.c) : RA M ops c0 z (some d) l k s (some (.val v s1)) = RD M ops c0 z l k ⟨tset s.τ d v, s1.L, s1.O, s1.c⟩ := by
  unfold RA RD
  simp only [setD, if_pos hd, Option.bind_some, if_pos hc]
theorem RA_val_none {ops c0 l v s1} (hc : s.c ≤ s1.c) : RA M ops c0 z none l k s (some (.val v s1)) = RD M ops c0 z l k ⟨s.τ, s1.L, s1.O, s1.c⟩ := by
  unfold RA RD
  simp only [setD, Option.bind_some, if_pos hc]
/-- What a guard lets be done. -/
def RW (M : Mc) (ops : Array Oper) (c0 : Nat) (z : Option St) (d : Option Tmp) (l : List Oper) (k : K) (s : St) (w : Option Bool) (v : Option V) : Option (Ex × St) :=
  match w with
  | some true => RQ M ops c0 z d l k s v
  | some false => RQ M ops c0 z d l k s (some (.tup []))
  | none => k.back M (z.map fun q => (.norm, tidy M.E q))
def RAW (M : Mc) (ops : Array Oper) (c0 : Nat) (z : Option St) (d : Option Tmp) (l : List Oper) (k : K) (s : St) (w : Option Bool) (v : Option Res) : Option (Ex × St) :=
  match w with
  | some true => RA M ops c0 z d l k s v
  | some false => RQ M ops c0 z d l k s (some (.tup []))
  | none => k.back M (z.map fun q => (.norm, tidy M.E q))
theorem RW_tt {ops c0 d l v} : RW M ops c0 z d l k s (some true) v = RQ M ops c0 z d l k s v := rfl
theorem RW_ff {ops c0 d l v} : RW M ops c0 z d l k s (some false) v = RQ M ops c0 z d l k s (some (.tup [])) := rfl
theorem RAW_tt {ops c0 d l v} : RAW M ops c0 z d l k s (some true) v = RA M ops c0 z d l k s v := rfl
theorem RAW_ff {ops c0 d l v} : RAW M ops c0 z d l k s (some false) v = RQ M ops c0 z d l k s (some (.tup [])) := rfl
def wg (v : Option V) (w : Bool) : Option Bool := match v with | some (.bool b) => some (b == w) | some (.tup []) => some false | _ => none
theorem wg_bool {b w} : wg (some (.bool b)) w = some (b == w) := rfl
theorem wg_off {w} : wg (some (.tup [])) w = some false := rfl
theorem wanted_no {ops : Array Oper} : wantedV ops s none = some true := rfl
theorem wanted_g {ops : Array Oper} {j w} : wantedV ops s (some (j, w)) = wg ((gslot ops.toList j).map (tget s.τ)) w := by
  unfold wantedV
  dsimp only
  rw [← gslot_eq, Array.getElem?_toList]
  cases (ops[j]?).bind (fun x => x.dst) with
  | none => rfl
  | some t =>
    dsimp only [Option.map_some]
    generalize tget s.τ t = u
    cases u with
    | bool b => rfl
    | tup vs => cases vs <;> rfl
    | _ => rfl
section ops
variable {ops : Array Oper} {c0 : Nat} {r : List Oper} {d : Option Tmp} {ty : TypeId} {pos : String} {af : Array Edge} {g : Option (Nat × Bool)}
theorem RD_quiet {op} (h : isActor M.E op = false) : RD M ops c0 z ({ dst := d, op := op, type := ty, pos := pos, after := af, guard := g } :: r) k s = RW M ops c0 z d r k s (wantedV ops s g) (qop M.call M.E M.C (d.getD M.E.n) op (qst ops { dst := d, op := op, type := ty, pos := pos, after := af, guard := g } s)) := by
  unfold RD RW RQ
  conv => lhs; unfold drawS
  dsimp only
  cases wantedV ops s g with
  | none => rfl
  | some b =>
    cases b with
    | false => rfl
    | true =>
      simp only [h, Bool.false_eq_true, if_false]
      try rfl
theorem RD_actor {op} (h : isActor M.E op = true) : RD M ops c0 z ({ dst := d, op := op, type := ty, pos := pos, after := af, guard := g } :: r) k s = RAW M ops c0 z d r k s (wantedV ops s g) (if touchA M.E { dst := d, op := op, type := ty, pos := pos, after := af, guard := g } (fst' ops { dst := d, op := op, type := ty, pos := pos, after := af, guard := g } s) = true then aop M.call M.E M.C (d.getD M.E.n) op (fst' ops { dst := d, op := op, type := ty, pos := pos, after := af, guard := g } s) else none) := by
  unfold RD RAW RA RQ
  conv => lhs; unfold drawS
  dsimp only
  cases wantedV ops s g with
  | none => rfl
  | some b =>
    cases b with
    | false => rfl
    | true =>
      simp only [h, if_true]
      try rfl
def qr : Option Res → Option V
  | some (.val v _) => some v
  | _ => none
theorem qr_val {v} : qr (some (.val v s)) = some v := rfl
theorem qr_valOf {z : Option V} : qr (valOf s z) = z := by cases z <;> rfl
theorem qst_L {ops o} : (qst ops o s).L = s.L := rfl
theorem qst_O {ops o} : (qst ops o s).O = s.O := rfl
theorem fst_L {ops o} : (fst' ops o s).L = s.L := rfl
theorem fst_O {ops o} : (fst' ops o s).O = s.O := rfl
theorem fst_c {ops o} : (fst' ops o s).c = s.c := rfl
theorem RD_move {x} : RD M ops c0 z ({ dst := d, op := .move x, type := ty, pos := pos, after := af, guard := g } :: r) k s = RW M ops c0 z d r k s (wantedV ops s g) (some (evalO s x)) := by
  rw [RD_quiet rfl]
  unfold qop
  simp only [quietK, if_true, aop]
  rw [show evalO (qst ops { dst := d, op := .move x, type := ty, pos := pos, after := af, guard := g } s) x = evalO s x from evalO_looks (o := { dst := d, op := .move x, type := ty, pos := pos, after := af, guard := g }) (by simp [Op.operands, Call.operands]) rfl]
  try rfl
theorem RD_bin {o t x y u} : RD M ops c0 z ({ dst := d, op := .binOp o t x y u, type := ty, pos := pos, after := af, guard := g } :: r) k s = RW M ops c0 z d r k s (wantedV ops s g) (binW M.E.P o t y (evalO s x) (evalO s y)) := by
  rw [RD_quiet rfl]
  unfold qop
  simp only [quietK, if_true, aop]
  rw [show evalO (qst ops { dst := d, op := .binOp o t x y u, type := ty, pos := pos, after := af, guard := g } s) x = evalO s x from evalO_looks (o := { dst := d, op := .binOp o t x y u, type := ty, pos := pos, after := af, guard := g }) (by simp [Op.operands, Call.operands]) rfl]
  rw [show evalO (qst ops { dst := d, op := .binOp o t x y u, type := ty, pos := pos, after := af, guard := g } s) y = evalO s y from evalO_looks (o := { dst := d, op := .binOp o t x y u, type := ty, pos := pos, after := af, guard := g }) (by simp [Op.operands, Call.operands]) rfl]
  exact congrArg _ qr_valOf
theorem RD_un {o t x} : RD M ops c0 z ({ dst := d, op := .unOp o t x, type := ty, pos := pos, after := af, guard := g } :: r) k s = RW M ops c0 z d r k s (wantedV ops s g) (unV o (evalO s x)) := by
  rw [RD_quiet rfl]
  unfold qop
  simp only [quietK, if_true, aop]
  rw [show evalO (qst ops { dst := d, op := .unOp o t x, type := ty, pos := pos, after := af, guard := g } s) x = evalO s x from evalO_looks (o := { dst := d, op := .unOp o t x, type := ty, pos := pos, after := af, guard := g }) (by simp [Op.operands, Call.operands]) rfl]
  exact congrArg _ qr_valOf
theorem RD_load {t x} : RD M ops c0 z ({ dst := d, op := .load t x, type := ty, pos := pos, after := af, guard := g } :: r) k s = RW M ops c0 z d r k s (wantedV ops s g) ((cellsAt M.E (qst ops { dst := d, op := .load t x, type := ty, pos := pos, after := af, guard := g } s) (evalO s x)).bind (readT M.E.P t)) := by
  rw [RD_quiet rfl]
  unfold qop
  simp only [quietK, if_true, aop]
  rw [show evalO (qst ops { dst := d, op := .load t x, type := ty, pos := pos, after := af, guard := g } s) x = evalO s x from evalO_looks (o := { dst := d, op := .load t x, type := ty, pos := pos, after := af, guard := g }) (by simp [Op.operands, Call.operands]) rfl]
  exact congrArg _ qr_valOf
theorem RD_fieldAddr {t x j} : RD M ops c0 z ({ dst := d, op := .fieldAddr t x j, type := ty, pos := pos, after := af, guard := g } :: r) k s = RW M ops c0 z d r k s (wantedV ops s g) (qr (match fldT M.E.P t j with
    | some (off, u) => if szT M.E.P u = 0 then none else match evalO s x with
      | .ptr k v i o => some (.val (.ptr k v i (o + off)) (qst ops { dst := d, op := .fieldAddr t x j, type := ty, pos := pos, after := af, guard := g } s))
      | .iptr cs => if off ≤ cs.length then some (.val (.iptr (cs.drop off)) (qst ops { dst := d, op := .fieldAddr t x j, type := ty, pos := pos, after := af, guard := g } s)) else none
      | _ => none
    | none => none)) := by
  rw [RD_quiet rfl]
  unfold qop
  simp only [quietK, if_true, aop]
  rw [show evalO (qst ops { dst := d, op := .fieldAddr t x j, type := ty, pos := pos, after := af, guard := g } s) x = evalO s x from evalO_looks (o := { dst := d, op := .fieldAddr t x j, type := ty, pos := pos, after := af, guard := g }) (by simp [Op.operands, Call.operands]) rfl]
  try rfl
theorem RD_field {t x j} : RD M ops c0 z ({ dst := d, op := .field t x j, type := ty, pos := pos, after := af, guard := g } :: r) k s = RW M ops c0 z d r k s (wantedV ops s g) (qr (match fldT M.E.P t j, evalO s x with
    | some (off, u), .agg cs => valOf (qst ops { dst := d, op := .field t x j, type := ty, pos := pos, after := af, guard := g } s) (readT M.E.P u (cs.drop off))
    | _, _ => none)) := by
  rw [RD_quiet rfl]
  unfold qop
  simp only [quietK, if_true, aop]
  rw [show evalO (qst ops { dst := d, op := .field t x j, type := ty, pos := pos, after := af, guard := g } s) x = evalO s x from evalO_looks (o := { dst := d, op := .field t x j, type := ty, pos := pos, after := af, guard := g }) (by simp [Op.operands, Call.operands]) rfl]
  try rfl
theorem RD_indexAddr {t x i} : RD M ops c0 z ({ dst := d, op := .indexAddr t x i, type := ty, pos := pos, after := af, guard := g } :: r) k s = RW M ops c0 z d r k s (wantedV ops s g) (qr (match evalO s i with
    | .int _ n => if 0 ≤ n then
        match elemT M.E.P t, evalO s x with
        | some e, .lst es => match es[n.toNat]? with
          | some v => if fitsE M.E.P e v then some (.val (.iptr (cellsV v)) (qst ops { dst := d, op := .indexAddr t x i, type := ty, pos := pos, after := af, guard := g } s)) else none
          | none => none
        | some e, .ref k ver off len => match St.obj M.E (qst ops { dst := d, op := .indexAddr t x i, type := ty, pos := pos, after := af, guard := g } s) k ver with
          | some (.arr sz _) => if n < len ∧ sz = szT M.E.P e ∧ (aggT M.E.P e).isSome = true then some (.val (.ptr k ver (off + n.toNat) 0) (qst ops { dst := d, op := .indexAddr t x i, type := ty, pos := pos, after := af, guard := g } s)) else none
          | _ => none
        | _, y => valOf (qst ops { dst := d, op := .indexAddr t x i, type := ty, pos := pos, after := af, guard := g } s) (idxA M.E.P t y n)
      else none
    | _ => none)) := by
  rw [RD_quiet rfl]
  unfold qop
  simp only [quietK, if_true, aop]
  rw [show evalO (qst ops { dst := d, op := .indexAddr t x i, type := ty, pos := pos, after := af, guard := g } s) x = evalO s x from evalO_looks (o := { dst := d, op := .indexAddr t x i, type := ty, pos := pos, after := af, guard := g }) (by simp [Op.operands, Call.operands]) rfl]
  rw [show evalO (qst ops { dst := d, op := .indexAddr t x i, type := ty, pos := pos, after := af, guard := g } s) i = evalO s i from evalO_looks (o := { dst := d, op := .indexAddr t x i, type := ty, pos := pos, after := af, guard := g }) (by simp [Op.operands, Call.operands]) rfl]
  try rfl
theorem RD_index {t x i} : RD M ops c0 z ({ dst := d, op := .index t x i, type := ty, pos := pos, after := af, guard := g } :: r) k s = RW M ops c0 z d r k s (wantedV ops s g) (qr (match evalO s i, evalO s x with
    | .int _ n, .str b => if strT M.E.P t = true ∧ 0 ≤ n then valOf (qst ops { dst := d, op := .index t x i, type := ty, pos := pos, after := af, guard := g } s) ((b[n.toNat]?).map fun u => .int .u8 u.toNat) else none
    | _, _ => none)) := by
  rw [RD_quiet rfl]
  unfold qop
  simp only [quietK, if_true, aop]
  rw [show evalO (qst ops { dst := d, op := .index t x i, type := ty, pos := pos, after := af, guard := g } s) x = evalO s x from evalO_looks (o := { dst := d, op := .index t x i, type := ty, pos := pos, after := af, guard := g }) (by simp [Op.operands, Call.operands]) rfl]
  rw [show evalO (qst ops { dst := d, op := .index t x i, type := ty, pos := pos, after := af, guard := g } s) i = evalO s i from evalO_looks (o := { dst := d, op := .index t x i, type := ty, pos := pos, after := af, guard := g }) (by simp [Op.operands, Call.operands]) rfl]
  try rfl
theorem RD_extract {x j} : RD M ops c0 z ({ dst := d, op := .extract x j, type := ty, pos := pos, after := af, guard := g } :: r) k s = RW M ops c0 z d r k s (wantedV ops s g) (qr (match evalO s x with
    | .tup vs => valOf (qst ops { dst := d, op := .extract x j, type := ty, pos := pos, after := af, guard := g } s) vs[j]?
    | _ => none)) := by
  rw [RD_quiet rfl]
  unfold qop
  simp only [quietK, if_true, aop]
  rw [show evalO (qst ops { dst := d, op := .extract x j, type := ty, pos := pos, after := af, guard := g } s) x = evalO s x from evalO_looks (o := { dst := d, op := .extract x j, type := ty, pos := pos, after := af, guard := g }) (by simp [Op.operands, Call.operands]) rfl]
  try rfl
theorem RD_pick {c a b} : RD M ops c0 z ({ dst := d, op := .pick c a b, type := ty, pos := pos, after := af, guard := g } :: r) k s = RW M ops c0 z d r k s (wantedV ops s g) (qr (match evalO s c with | .bool t => some (.val (if t then evalO s a else evalO s b) (qst ops { dst := d, op := .pick c a b, type := ty, pos := pos, after := af, guard := g } s)) | _ => none)) := by
  rw [RD_quiet rfl]
  unfold qop
  simp only [quietK, if_true, aop]
  rw [show evalO (qst ops { dst := d, op := .pick c a b, type := ty, pos := pos, after := af, guard := g } s) c = evalO s c from evalO_looks (o := { dst := d, op := .pick c a b, type := ty, pos := pos, after := af, guard := g }) (by simp [Op.operands, Call.operands]) rfl]
  rw [show evalO (qst ops { dst := d, op := .pick c a b, type := ty, pos := pos, after := af, guard := g } s) a = evalO s a from evalO_looks (o := { dst := d, op := .pick c a b, type := ty, pos := pos, after := af, guard := g }) (by simp [Op.operands, Call.operands]) rfl]
  rw [show evalO (qst ops { dst := d, op := .pick c a b, type := ty, pos := pos, after := af, guard := g } s) b = evalO s b from evalO_looks (o := { dst := d, op := .pick c a b, type := ty, pos := pos, after := af, guard := g }) (by simp [Op.operands, Call.operands]) rfl]
  try rfl
theorem RD_assign {x} : RD M ops c0 z ({ dst := d, op := .assign x, type := ty, pos := pos, after := af, guard := g } :: r) k s = RAW M ops c0 z d r k s (wantedV ops s g) (if aok M.E (d.getD M.E.n) (evalO s x) = true then (assignTo M.E (d.getD M.E.n) (evalO s x) (fst' ops { dst := d, op := .assign x, type := ty, pos := pos, after := af, guard := g } s)).map fun q => .val q.1 q.2 else none) := by
  rw [RD_actor rfl]
  have e : evalO (fst' ops { dst := d, op := .assign x, type := ty, pos := pos, after := af, guard := g } s) x = evalO s x := evalO_looks (o := { dst := d, op := .assign x, type := ty, pos := pos, after := af, guard := g }) (by simp [Op.operands]) rfl
  have ht : touchA M.E { dst := d, op := .assign x, type := ty, pos := pos, after := af, guard := g } (fst' ops { dst := d, op := .assign x, type := ty, pos := pos, after := af, guard := g } s) = aok M.E (d.getD M.E.n) (evalO s x) := congrArg (aok M.E (d.getD M.E.n)) e
  simp only [aop, ht, e]
theorem RD_store {t p x} : RD M ops c0 z ({ dst := d, op := .store t p x, type := ty, pos := pos, after := af, guard := g } :: r) k s = RAW M ops c0 z d r k s (wantedV ops s g) ((storeAt M.E t (evalO s p) (evalO s x) (fst' ops { dst := d, op := .store t p x, type := ty, pos := pos, after := af, guard := g } s)).map fun s' => .val .junk s') := by
  rw [RD_actor rfl]
  simp only [aop, touchA, if_true]
  rw [show evalO (fst' ops { dst := d, op := .store t p x, type := ty, pos := pos, after := af, guard := g } s) p = evalO s p from evalO_looks (o := { dst := d, op := .store t p x, type := ty, pos := pos, after := af, guard := g }) (by simp [Op.operands]) rfl]
  rw [show evalO (fst' ops { dst := d, op := .store t p x, type := ty, pos := pos, after := af, guard := g } s) x = evalO s x from evalO_looks (o := { dst := d, op := .store t p x, type := ty, pos := pos, after := af, guard := g }) (by simp [Op.operands]) rfl]
theorem RD_len {x t} : RD M ops c0 z ({ dst := d, op := .call { callee := .builtin .len, args := #[x], argTypes := #[t] }, type := ty, pos := pos, after := af, guard := g } :: r) k s = RW M ops c0 z d r k s (wantedV ops s g) (qr (builtinV M.E .len (d.getD M.E.n) [t] [evalO s x] (qst ops { dst := d, op := .call { callee := .builtin .len, args := #[x], argTypes := #[t] }, type := ty, pos := pos, after := af, guard := g } s))) := by
  rw [RD_quiet rfl]
  unfold qop
  simp only [aop, evalOs]
  rw [show evalO (qst ops { dst := d, op := .call { callee := .builtin .len, args := #[x], argTypes := #[t] }, type := ty, pos := pos, after := af, guard := g } s) x = evalO s x from evalO_looks (o := { dst := d, op := .call { callee := .builtin .len, args := #[x], argTypes := #[t] }, type := ty, pos := pos, after := af, guard := g }) (by simp [Op.operands, Call.operands]) rfl]
  rfl
def CQ (all : List V) : Option V → Option V
  | some v => if (pureR v && (!shares v || (refsL all).isEmpty)) = true then some (imm v) else none
  | none => none
theorem CQ_some {all v} : CQ all (some v) = if (pureR v && (!shares v || (refsL all).isEmpty)) = true then some (imm v) else none := rfl
theorem callQ_s {call : CallFn} {E : Env} {H : FuncId → Option (List V → Option V)} {g : FuncId} {first caps args : List V} {s : St} (hg : E.ok.contains g = true) (hC : (H g).isSome = true) (hp : (frzs E s (first ++ args ++ caps)).isSome = true) :
    callQ call E H (.fn (.func g) first caps) args s = CQ (first ++ args ++ caps) (((H g).getD fun _ => none) ((frzs E s (first ++ args ++ caps)).getD [])) := by
  obtain ⟨F, hF⟩ := Option.isSome_iff_exists.1 hC
  obtain ⟨p, hP⟩ := Option.isSome_iff_exists.1 hp
  unfold callQ
  simp only [hg, if_true, hP, hF, Option.getD_some]
  cases F p with
  | none => rfl
  | some v => rfl
theorem RD_call {f : Operand} {xs : Array Operand} {ts : Array TypeId} (hf : isActor M.E (.call { callee := .value f, args := xs, argTypes := ts }) = false) : RD M ops c0 z ({ dst := d, op := .call { callee := .value f, args := xs, argTypes := ts }, type := ty, pos := pos, after := af, guard := g } :: r) k s = RW M ops c0 z d r k s (wantedV ops s g) (callQ M.call M.E M.C (evalO s f) (evalOs s xs.toList) (qst ops { dst := d, op := .call { callee := .value f, args := xs, argTypes := ts }, type := ty, pos := pos, after := af, guard := g } s)) := by
  rw [RD_quiet hf]
  unfold qop
  dsimp only
  rw [show evalO (qst ops { dst := d, op := .call { callee := .value f, args := xs, argTypes := ts }, type := ty, pos := pos, after := af, guard := g } s) f = evalO s f from evalO_looks (o := { dst := d, op := .call { callee := .value f, args := xs, argTypes := ts }, type := ty, pos := pos, after := af, guard := g }) (by simp [Op.operands, Call.operands]) rfl]
  rw [show evalOs (qst ops { dst := d, op := .call { callee := .value f, args := xs, argTypes := ts }, type := ty, pos := pos, after := af, guard := g } s) xs.toList = evalOs s xs.toList from evalOs_looks (o := { dst := d, op := .call { callee := .value f, args := xs, argTypes := ts }, type := ty, pos := pos, after := af, guard := g }) rfl (by intro x hx; simp [Op.operands, Call.operands]; exact .inr (by simpa using hx))]
theorem actor_call {E : Env} {g : FuncId} {xs : Array Operand} {ts : Array TypeId} : isActor E (.call { callee := .value (.func g), args := xs, argTypes := ts }) = E.imp.contains g := rfl
theorem actor_tmp {E : Env} {t : Tmp} {xs : Array Operand} {ts : Array TypeId} : isActor E (.call { callee := .value (.tmp t), args := xs, argTypes := ts }) = false := rfl
end ops
/-- Drawn regions. -/
theorem vmd : (type_of% @RD_nil) ∧ (type_of% @RQ_some) ∧ (type_of% @RA_val) ∧ (type_of% @RA_val_none) ∧ (type_of% @RW_tt) ∧ (type_of% @RW_ff) ∧ (type_of% @RAW_tt) ∧ (type_of% @RAW_ff) ∧ (type_of% @wg_bool) ∧ (type_of% @wg_off) ∧ (type_of% @wanted_no) ∧ (type_of% @wanted_g) ∧ (type_of% @qr_val) ∧ (type_of% @qr_valOf) ∧ (type_of% @qst_L) ∧ (type_of% @qst_O) ∧ (type_of% @fst_L) ∧ (type_of% @fst_O) ∧ (type_of% @fst_c) ∧ (type_of% @RD_move) ∧ (type_of% @RD_bin) ∧ (type_of% @RD_un) ∧ (type_of% @RD_load) ∧ (type_of% @RD_fieldAddr) ∧ (type_of% @RD_field) ∧ (type_of% @RD_indexAddr) ∧ (type_of% @RD_index) ∧ (type_of% @RD_extract) ∧ (type_of% @RD_pick) ∧ (type_of% @RD_assign) ∧ (type_of% @RD_store) ∧ (type_of% @RD_len) ∧ (type_of% @RD_call) ∧ (type_of% @actor_call) ∧ (type_of% @actor_tmp) ∧ (type_of% @CQ_some) ∧ (type_of% @callQ_s) ∧ (type_of% @R_draw) :=
  ⟨@RD_nil, @RQ_some, @RA_val, @RA_val_none, @RW_tt, @RW_ff, @RAW_tt, @RAW_ff, @wg_bool, @wg_off, @wanted_no, @wanted_g, @qr_val, @qr_valOf, @qst_L, @qst_O, @fst_L, @fst_O, @fst_c, @RD_move, @RD_bin, @RD_un, @RD_load, @RD_fieldAddr, @RD_field, @RD_indexAddr, @RD_index, @RD_extract, @RD_pick, @RD_assign, @RD_store, @RD_len, @RD_call, @actor_call, @actor_tmp, @CQ_some, @callQ_s, @R_draw⟩
end Go.Vi
namespace Go.Vi
open Go

def oput (O : Heap) (k : Key) (x : Nat × Obj) : Heap := fun q => if q = k then some x else O q
theorem heapOf_get {lvl : Nat} {L : Loc} {O : Heap} {l sl off : Nat} : heapOf lvl L O ⟨l, sl, off⟩ = if l = lvl then lget L (sl, off) else if l < lvl then O ⟨l, sl, off⟩ else none := rfl
theorem lower_get {lvl : Nat} {O : Heap} {l sl off : Nat} : lower lvl O ⟨l, sl, off⟩ = if l < lvl then O ⟨l, sl, off⟩ else none := rfl
variable {M : Mc} {k : K} {s : St}
theorem obj_lo {E : Env} {l sl off v : Nat} (h : l < E.lvl) : St.obj E s ⟨l, sl, off⟩ v = ob (s.O ⟨l, sl, off⟩) v := by
  unfold St.obj
  rw [if_neg (by dsimp only; omega), if_pos h]
  rfl
theorem put_lo {E : Env} {l sl off v : Nat} {o : Obj} (h : l < E.lvl) : St.put E s ⟨l, sl, off⟩ v o = ⟨s.τ, s.L, oput s.O ⟨l, sl, off⟩ (v, o), s.c⟩ := by
  unfold St.put
  rw [if_neg (by dsimp only; omega)]
  rfl
/-- Behind a call: what lies at the frame's places. -/
theorem mergeL_get {lvl : Nat} {O : Heap} : ∀ (ks : List (Nat × Nat)) (acc : Loc) (q : Nat × Nat) (x : Nat × Obj), q ∈ ks ∨ lget acc q = some x → O ⟨lvl, q.1, q.2⟩ = some x → lget (mergeL lvl O ks acc) q = some x
  | [], acc, q, x, h, _ => by
    rcases h with h | h
    · cases h
    · exact h
  | p :: r, acc, q, x, h, hO => by
    unfold mergeL
    split
    · rename_i o ho
      refine mergeL_get r _ q x ?_ hO
      rw [lget_lput]
      by_cases e : q = p
      · subst e
        rw [hO] at ho
        injection ho with ho
        exact .inr (by rw [if_pos rfl, ho])
      · rcases h with h | h
        · rcases List.mem_cons.1 h with h | h
          · exact absurd h e
          · exact .inl h
        · exact .inr (by rw [if_neg e]; exact h)
    · rename_i ho
      refine mergeL_get r _ q x ?_ hO
      rcases h with h | h
      · rcases List.mem_cons.1 h with h | h
        · subst h; rw [hO] at ho; cases ho
        · exact .inl h
      · exact .inr h
theorem keysOf_mem : ∀ (L : Loc) (q : Nat × Nat) (x : Nat × Obj), lget L q = some x → q ∈ keysOf L
  | [], q, x, h => by cases h
  | (p, (v, o)) :: r, q, x, h => by
    simp only [lget] at h
    by_cases e : q = p
    · subst e
      cases o <;> simp [keysOf]
    · rw [if_neg e] at h
      have := keysOf_mem r q x h
      cases o <;> simp [keysOf, this]
theorem back_get {E : Env} {c' : Nat} {O' : Heap} {sl off : Nat} {x y : Nat × Obj} (h : lget s.L (sl, off) = some x) (hO : O' ⟨E.lvl, sl, off⟩ = some y) : lget (back E s c' O').L (sl, off) = some y :=
  mergeL_get _ _ _ _ (.inl (keysOf_mem _ _ _ h)) hO
theorem back_τ {E : Env} {c' : Nat} {O' : Heap} : (back E s c' O').τ = s.τ := rfl
theorem back_O {E : Env} {c' : Nat} {O' : Heap} : (back E s c' O').O = O' := rfl
theorem back_c {E : Env} {c' : Nat} {O' : Heap} : (back E s c' O').c = c' := rfl

/-- A call of a level above the ground, in its parts. -/
theorem evF_at {C : Ctx} {g : FuncId} {fn : Func} {b : Code} {args : List V} {n lvl c : Nat} {O : Heap} {s' : St} (hf : C.P.funcs[g]? = some fn) (hb : fn.body = some b) (hl : args.length ≤ fn.ntmps) (hr : fn.results.toList = [])
    (h : R ⟨evF C n, envOf C g fn lvl, C.hand, n⟩ b .top ⟨params 0 args, [], O, c⟩ = some (.norm, s') ∨ R ⟨evF C n, envOf C g fn lvl, C.hand, n⟩ b .top ⟨params 0 args, [], O, c⟩ = some (.ret, s')) :
    (evF C (n + 1)).fn g args lvl c O = some (.ret (.tup []), s'.c, lower lvl s'.O) := by
  simp only [R, evM, K.back] at h
  unfold evF
  simp only [hf, hb, if_pos hl]
  rcases h with h | h <;> simp only [h, hr, resV, Option.bind_some, exports, nodupK, refsL, exportT, if_true, tupV]
end Go.Vi
namespace Go.Vi
open Go Go.ChangeShapes Go.WideShapes Go.ChangeAt Go.RowKit

/-- What lay in memory before the call. -/
def oldB (w : World) : Nat → Prop := fun b => b < w.heap.size
/-- Whatever reads as data at this type stands for a value of this form. -/
structure Opens {α : Type} (P : Program) (t : TypeId) (f : α → V) : Prop where
  op : ∀ {H : Type} {enc : TypeId × Value → H} {w : World} {fuel : Nat} {cs : List Value} {x : DataW H × List MemPlace}, DataW.trod enc P w 0 (fun _ => true) true fuel t cs = some x → ∃ a, PCs w (oldB w) (cellsV (f a)) cs
  sz : ∀ a, (cellsV (f a)).length = P.cellsOf t
theorem Opens.map {α β : Type} {P : Program} {t : TypeId} {f : α → V} (h : Opens P t f) (g : α → β) {f' : β → V} (e : ∀ a, f' (g a) = f a) (hs : ∀ b, (cellsV (f' b)).length = P.cellsOf t) : Opens P t f' :=
  ⟨fun hx => let ⟨a, ha⟩ := h.op hx; ⟨g a, by rw [e]; exact ha⟩, hs⟩
theorem opens_int {P : Program} {t : TypeId} {k : IntKind} (ht : P.underlying t = some (.int k)) (hc : P.cellsOf t = 1) : Opens P t (fun n : Int => V.int k n) := by
  refine ⟨fun hx => ?_, fun a => by simp [cellsV, hc]⟩
  obtain ⟨n, rfl, _, _⟩ := DataW.trod_int ht hx
  exact ⟨n, by simp [cellsV, PCs, PC]⟩
theorem opens_rows {α : Type} {H : Type} {enc : TypeId × Value → H} {P : Program} {e : TypeId} {f : α → V} (he : Opens P e f) {w : World} {b off m len : Nat} (h : ∀ i, i < len → ∃ y, (w.cells? 0 ⟨b, off + i * P.cellsOf e, none⟩ (P.cellsOf e)).bind (DataW.trod enc P w 0 (fun _ => true) true m e) = some y) :
    ∀ n i, i + n = len → ∃ l : List α, l.length = n ∧ PEs w (oldB w) b (off + i * P.cellsOf e) (P.cellsOf e) (l.map f)
  | 0, i, _ => ⟨[], rfl, by simp [PEs]⟩
  | n + 1, i, hi => by
    obtain ⟨l, hl, hp⟩ := opens_rows he h n (i + 1) (by omega)
    obtain ⟨y, hy⟩ := h i (by omega)
    simp only [Option.bind_eq_some_iff] at hy
    obtain ⟨cs, hcs, hy⟩ := hy
    obtain ⟨a, ha⟩ := he.op hy
    refine ⟨a :: l, by simp [hl], ?_⟩
    simp only [List.map_cons]
    have e1 : off + (i + 1) * P.cellsOf e = off + i * P.cellsOf e + P.cellsOf e := by rw [Nat.add_mul]; omega
    rw [e1] at hp
    refine PEs_cons_mk (PEs_one.2 ⟨he.sz a, ?_⟩) hp
    obtain ⟨h1, h2, h3⟩ := World.cells?_some hcs
    refine PAt_mk ha (fun _ _ h => h) fun j v hj => ?_
    have hjl : j < P.cellsOf e := by rw [← h2]; exact (List.getElem?_eq_some_iff.1 hj).1
    have := h3 j hjl
    rw [add_at] at this
    rw [this, hj]
theorem opens_slice {α : Type} {P : Program} {t e : TypeId} {f : α → V} (ht : P.underlying t = some (.slice e)) (hc : P.cellsOf t = 1) (he : Opens P e f) (hpos : 0 < P.cellsOf e) : Opens P t (fun l : List α => V.lst (l.map f)) := by
  refine ⟨fun {H enc w fuel cs x} hx => ?_, fun a => by simp [cellsV, hc]⟩
  rcases DataW.trod_slice ht hx with ⟨rfl, _⟩ | ⟨a, len, cap, elems, rest, n, _, rfl, _, hb, hl, hm, hlen, hel, _, _⟩
  · exact ⟨[], by simp only [cellsV, PCs, PC, List.map_nil, List.length_nil]; exact ⟨_, _, rfl, ⟨none, 0, rfl, Nat.le_refl _, by omega, fun h => absurd rfl h⟩, rfl⟩⟩
  · by_cases h0 : len = 0
    · subst h0
      exact ⟨[], by simp only [cellsV, PCs, PC, List.map_nil, List.length_nil]; exact ⟨_, _, rfl, ⟨some a, cap, rfl, Nat.zero_le _, by unfold maxLen at hm; omega, fun h => absurd rfl h⟩, rfl⟩⟩
    · have hsome : ∀ i, i < len → ∃ y, (w.cells? 0 (a.add (i * P.cellsOf e)) (P.cellsOf e)).bind (DataW.trod enc P w 0 (fun _ => true) true n e) = some y := fun i hi => by
        have := hel i hi
        rw [List.getElem?_eq_getElem (by omega)] at this
        exact ⟨_, this⟩
      obtain ⟨y0, hy0⟩ := hsome 0 (by omega)
      simp only [Option.bind_eq_some_iff] at hy0
      obtain ⟨cs0, hcs0, _⟩ := hy0
      have hblk := World.cells?_block hcs0 hpos
      obtain ⟨_, g2, g3⟩ := World.cells?_some hcs0
      have hc0 := g3 0 hpos
      obtain ⟨b, off, spot⟩ := a
      have hspot : spot = none := by
        have hv : cs0[0]? = some (cs0[0]'(by omega)) := List.getElem?_eq_getElem _
        rw [hv] at hc0
        have := World.cell?_spot hc0
        simpa [Addr.add] using this
      subst hspot
      obtain ⟨l, hll, hp⟩ := opens_rows (enc := enc) (m := n) he (b := b) (off := off) (len := len) (fun i hi => by
        have := hsome i hi
        rwa [add_at] at this) len 0 (by omega)
      refine ⟨l, ?_⟩
      simp only [cellsV, PCs, PC, List.length_map, hll]
      refine ⟨_, _, rfl, ⟨some ⟨b, off, none⟩, cap, rfl, hl, by unfold maxLen at hm; omega, fun _ => ⟨b, off, P.cellsOf e, rfl, ?_, ?_⟩⟩, rfl⟩
      · simpa [Addr.add, oldB] using hblk
      · simpa using hp
theorem arg_slice {α H : Type} {enc : TypeId × Value → H} {P : Program} {t e : TypeId} {f : α → V} {w : World} {base : Nat} {v : Value} {d : DataW H} {p : List MemPlace} (ht : P.underlying t = some (.slice e)) (ho : Opens P t (fun l : List α => V.lst (l.map f))) (hv : Value.okWide P w .any base t v) (h : DataW.Trod enc P w 0 (fun _ => true) true t v d p) :
    ∃ l : List α, PC w (oldB w) (.lst (l.map f)) v := by
  obtain ⟨a, len, cap, rfl⟩ := okWide_slice ht hv
  obtain ⟨fuel, hx⟩ := h
  obtain ⟨b, hb⟩ := ho.op hx
  simp only [cellsV, PCs, Value.cells] at hb
  obtain ⟨c, d, e, h1, h2⟩ := hb
  injection e with e1 e2
  exact ⟨b, by rw [e1]; exact h1⟩
theorem arg_str {H : Type} {enc : TypeId × Value → H} {P : Program} {t : TypeId} {w : World} {base : Nat} {v : Value} {d : DataW H} {p : List MemPlace} (ht : P.underlying t = some .string) (hv : Value.okWide P w .any base t v) (h : DataW.Trod enc P w 0 (fun _ => true) true t v d p) :
    ∃ s, PC w (oldB w) (.str s) v := by
  obtain ⟨s, rfl⟩ := okWide_string ht hv
  exact ⟨s.data.toList, by simp [PC, str_of]⟩

theorem TrodAll_carry {H : Type} {enc : TypeId × Value → H} {P : Program} {w w' : World} {base : Nat} {sp : Nat → Bool} {held : Bool} : ∀ {ts : List TypeId} {vs : List Value} {ds : List (DataW H)} {ps : List MemPlace}, DataW.TrodAll enc P w base sp held ts vs ds ps → (∀ p ∈ ps, w.sameAt w' p) → DataW.TrodAll enc P w' base sp held ts vs ds ps
  | [], [], [], _, h, _ => h
  | _ :: _, _ :: _, _ :: _, _, ⟨p, q, ⟨n, h1⟩, h2, e⟩, hs => ⟨p, q, ⟨n, DataW.trod_carry n _ _ _ h1 (fun x hx => hs x (by rw [e]; exact List.mem_append_left _ hx))⟩, TrodAll_carry h2 (fun x hx => hs x (by rw [e]; exact List.mem_append_right _ hx)), e⟩

/-- A law's call, out of its walk: it returns true, and the arguments read as they did. -/
theorem law_post {H : Type} {enc : TypeId × Value → H} {P : Program} {f : Func} {s : ChangeSpec} {W W' : World} {args : Array Value} {ds gs : List (DataW H)} {before : List MemPlace} {A : Nat → Prop} {e : Ending} {tb : TypeId}
    (K : Kids P (· < P.types.size)) (full : ∀ t e, t < P.types.size → P.underlying t = some (.slice e) → 0 < P.cellsOf e) (hts : ∀ t ∈ f.params.toList, t < P.types.size) (hvars : s.vars = []) (hres : f.resultTypes = #[tb]) (hb : P.underlying tb = some .bool)
    (hW : DataW.Whole enc P f.params.toList s.vars false W args.toList ds gs before) (hfn : s.fn H (ds ++ gs) = { results := [.lit (.bool true)], args := ds }) (hout : PureOut W A (.ret (.bool true)) e W') :
    ∃ v, e = .returned v ∧ s.post enc P f false true false false W args v W' := by
  obtain ⟨A', t, hA', cv, l, rfl, hrc, _, _⟩ := hout
  have hcv : cv = .bool true := by
    simp only [RC, IC, PC] at hrc
    exact hrc.2
  subst hcv
  have hold : ∀ b, b < W.heap.size → W'.heap[b]? = W.heap[b]? := fun b hb => t.old b hb noM
  refine ⟨_, rfl, ds, gs, before, [], before, [], hW, ?_, ?_, ?_, ?_, fun h => by cases h⟩
  · rw [hfn, hres]
    exact trodAll_mk1 (shut_bool hb true)
  · rw [hfn]
    obtain ⟨p, q, hA0, hV, e, _, _⟩ := hW
    rw [hvars] at hV
    obtain ⟨rfl, rfl⟩ := trodVars_none hV
    rw [List.append_nil] at e
    subst e
    refine TrodAll_carry (DataW.TrodAll.respare K full hts hA0 (fun p hp => by simpa using hA0.lt p hp)) fun p hp => ?_
    have hlt := hA0.lt p hp
    cases p with
    | cell b off => exact cell_same (hold b hlt)
    | map b => exact hold b hlt
  · rw [hvars, hfn]
    exact rfl
  · refine ⟨t.os, t.output, fun i hi => ?_⟩
    rw [hold i hi]
    split
    · rename_i h1 h2
      rw [h1] at h2
      injection h2 with h2
      injection h2 with e1 e2 e3
      subst e1; subst e2; subst e3
      exact ⟨rfl, rfl, rfl, fun _ _ => rfl⟩
    · rename_i h1 h2
      rw [h1] at h2
      injection h2 with h2
      injection h2 with e1 e2
      subst e1; subst e2
      exact .inr ⟨rfl, rfl⟩
    · rfl
end Go.Vi
namespace Go.Vi
open Go

theorem vza : (type_of% @decide_true) ∧ (type_of% @decide_false) ∧ (type_of% @evalO.eq_1) ∧ (type_of% @evalO.eq_2) ∧ (type_of% @evalO.eq_3) ∧ (type_of% @evalO.eq_4) ∧ (type_of% @evalOs.eq_1) ∧ (type_of% @evalOs.eq_2) ∧ (type_of% @ofValue.eq_1) ∧ (type_of% @ofValue.eq_2) ∧ (type_of% @ofLeaf.eq_1) ∧ (type_of% @ofLeaf.eq_2) ∧ (type_of% @ofLeaf.eq_3) ∧ (type_of% @ofLeaf.eq_4) ∧ (type_of% @ofLeaf.eq_5) ∧ (type_of% @ofLeaf.eq_6) ∧ (type_of% @ofLeaf.eq_7) ∧ (type_of% @ofLeaf.eq_8) ∧ (type_of% @ofLeaf.eq_9) ∧ (type_of% @params.eq_1) ∧ (type_of% @params.eq_2) ∧ (type_of% @tget.eq_1) ∧ (type_of% @tget.eq_2) ∧ (type_of% @sub.eq_1) ∧ (type_of% @sub.eq_2) ∧ (type_of% @sub.eq_3) ∧ (type_of% @sub.eq_4) ∧ (type_of% @sub.eq_5) ∧ (type_of% @sub.eq_6) ∧ (type_of% @sub.eq_7) ∧ (type_of% @sub.eq_8) ∧ (type_of% @sub.eq_9) :=
  ⟨@decide_true, @decide_false, @evalO.eq_1, @evalO.eq_2, @evalO.eq_3, @evalO.eq_4, @evalOs.eq_1, @evalOs.eq_2, @ofValue.eq_1, @ofValue.eq_2, @ofLeaf.eq_1, @ofLeaf.eq_2, @ofLeaf.eq_3, @ofLeaf.eq_4, @ofLeaf.eq_5, @ofLeaf.eq_6, @ofLeaf.eq_7, @ofLeaf.eq_8, @ofLeaf.eq_9, @params.eq_1, @params.eq_2, @tget.eq_1, @tget.eq_2, @sub.eq_1, @sub.eq_2, @sub.eq_3, @sub.eq_4, @sub.eq_5, @sub.eq_6, @sub.eq_7, @sub.eq_8, @sub.eq_9⟩
theorem vzb : (type_of% @aok.eq_1) ∧ (type_of% @aok.eq_2) ∧ (type_of% @aok.eq_3) ∧ (type_of% @aok.eq_4) ∧ (type_of% @aok.eq_5) ∧ (type_of% @builtinV.eq_1) ∧ (type_of% @builtinV.eq_2) ∧ (type_of% @builtinV.eq_3) ∧ (type_of% @builtinV.eq_4) ∧ (type_of% @builtinV.eq_5) ∧ (type_of% @builtinV.eq_6) ∧ (type_of% @builtinV.eq_7) ∧ (type_of% @overwrite.eq_1) ∧ (type_of% @assignTo.eq_1) ∧ (type_of% @assignTo.eq_2) ∧ (type_of% @assignTo.eq_3) ∧ (type_of% @assignTo.eq_4) ∧ (type_of% @assignTo.eq_5) ∧ (type_of% @assignTo.eq_6) ∧ (type_of% @assignTo.eq_7) ∧ (type_of% @settle1.eq_1) ∧ (type_of% @settle1.eq_2) ∧ (type_of% @settle1.eq_3) ∧ (type_of% @settleL.eq_1) ∧ (type_of% @settleL.eq_2) ∧ (type_of% @newVarV.eq_1) ∧ (type_of% @newArr.eq_1) ∧ (type_of% @cellsAt.eq_1) ∧ (type_of% @cellsAt.eq_2) ∧ (type_of% @cellsAt.eq_3) ∧ (type_of% @readT.eq_1) ∧ (type_of% @storeAt.eq_1) ∧ (type_of% @storeAt.eq_2) ∧ (type_of% @writeE.eq_1) ∧ (type_of% @writeE.eq_2) ∧ (type_of% @writeE.eq_3) ∧ (type_of% @cellsV.eq_1) ∧ (type_of% @cellsV.eq_2) ∧ (type_of% @frz.eq_1) ∧ (type_of% @frz.eq_2) ∧ (type_of% @frz.eq_3) ∧ (type_of% @frz.eq_4) ∧ (type_of% @frz.eq_5) ∧ (type_of% @frz.eq_6) ∧ (type_of% @frz.eq_7) ∧ (type_of% @frz.eq_8) ∧ (type_of% @frz.eq_9) ∧ (type_of% @frz.eq_10) ∧ (type_of% @frzs.eq_1) ∧ (type_of% @frzs.eq_2) ∧ (type_of% @refs.eq_1) ∧ (type_of% @refs.eq_2) ∧ (type_of% @refs.eq_3) ∧ (type_of% @refs.eq_4) ∧ (type_of% @refs.eq_5) ∧ (type_of% @refs.eq_6) ∧ (type_of% @refs.eq_7) ∧ (type_of% @refs.eq_8) ∧ (type_of% @refsL.eq_1) ∧ (type_of% @refsL.eq_2) ∧ (type_of% @fitsE.eq_1) ∧ (type_of% @fitsE.eq_2) ∧ (type_of% @binW.eq_1) ∧ (type_of% @nilLits) ∧ (type_of% @Bool.false_eq_true) ∧ (type_of% @isNilI.eq_1) ∧ (type_of% @isNilI.eq_2) ∧ (type_of% @binV.eq_1) ∧ (type_of% @binV.eq_2) ∧ (type_of% @binV.eq_3) ∧ (type_of% @binV.eq_4) ∧ (type_of% @binV.eq_5) ∧ (type_of% @binV.eq_6) ∧ (type_of% @binV.eq_7) ∧ (type_of% @intOp.eq_1) ∧ (type_of% @intOp.eq_2) ∧ (type_of% @intOp.eq_3) ∧ (type_of% @intOp.eq_4) ∧ (type_of% @intOp.eq_5) ∧ (type_of% @intOp.eq_6) ∧ (type_of% @intOp.eq_7) ∧ (type_of% @intOp.eq_8) ∧ (type_of% @intOp.eq_9) ∧ (type_of% @intOp.eq_10) ∧ (type_of% @intOp.eq_11) ∧ (type_of% @intOp.eq_12) ∧ (type_of% @intOp.eq_13) ∧ (type_of% @intOp.eq_14) ∧ (type_of% @intOp.eq_15) ∧ (type_of% @intOp.eq_16) ∧ (type_of% @intOp.eq_17) ∧ (type_of% @boolOp.eq_1) ∧ (type_of% @boolOp.eq_2) ∧ (type_of% @boolOp.eq_3) ∧ (type_of% @nilOp.eq_1) ∧ (type_of% @nilOp.eq_2) ∧ (type_of% @nilOp.eq_3) ∧ (type_of% @isNilS.eq_1) ∧ (type_of% @isNilS.eq_2) ∧ (type_of% @isNilS.eq_3) ∧ (type_of% @isNilS.eq_4) ∧ (type_of% @unV.eq_1) ∧ (type_of% @unV.eq_2) ∧ (type_of% @unV.eq_3) ∧ (type_of% @fillE.eq_1) ∧ (type_of% @fillE.eq_2) ∧ (type_of% @callV_s) ∧ (type_of% @CR_some) ∧ (type_of% @CD.eq_1) ∧ (type_of% @importV.eq_1) ∧ (type_of% @importV.eq_2) ∧ (type_of% @importV.eq_3) ∧ (type_of% @import1.eq_1) ∧ (type_of% @import1.eq_2) :=
  ⟨@aok.eq_1, @aok.eq_2, @aok.eq_3, @aok.eq_4, @aok.eq_5, @builtinV.eq_1, @builtinV.eq_2, @builtinV.eq_3, @builtinV.eq_4, @builtinV.eq_5, @builtinV.eq_6, @builtinV.eq_7, @overwrite.eq_1, @assignTo.eq_1, @assignTo.eq_2, @assignTo.eq_3, @assignTo.eq_4, @assignTo.eq_5, @assignTo.eq_6, @assignTo.eq_7, @settle1.eq_1, @settle1.eq_2, @settle1.eq_3, @settleL.eq_1, @settleL.eq_2, @newVarV.eq_1, @newArr.eq_1, @cellsAt.eq_1, @cellsAt.eq_2, @cellsAt.eq_3, @readT.eq_1, @storeAt.eq_1, @storeAt.eq_2, @writeE.eq_1, @writeE.eq_2, @writeE.eq_3, @cellsV.eq_1, @cellsV.eq_2, @frz.eq_1, @frz.eq_2, @frz.eq_3, @frz.eq_4, @frz.eq_5, @frz.eq_6, @frz.eq_7, @frz.eq_8, @frz.eq_9, @frz.eq_10, @frzs.eq_1, @frzs.eq_2, @refs.eq_1, @refs.eq_2, @refs.eq_3, @refs.eq_4, @refs.eq_5, @refs.eq_6, @refs.eq_7, @refs.eq_8, @refsL.eq_1, @refsL.eq_2, @fitsE.eq_1, @fitsE.eq_2, @binW.eq_1, @nilLits, @Bool.false_eq_true, @isNilI.eq_1, @isNilI.eq_2, @binV.eq_1, @binV.eq_2, @binV.eq_3, @binV.eq_4, @binV.eq_5, @binV.eq_6, @binV.eq_7, @intOp.eq_1, @intOp.eq_2, @intOp.eq_3, @intOp.eq_4, @intOp.eq_5, @intOp.eq_6, @intOp.eq_7, @intOp.eq_8, @intOp.eq_9, @intOp.eq_10, @intOp.eq_11, @intOp.eq_12, @intOp.eq_13, @intOp.eq_14, @intOp.eq_15, @intOp.eq_16, @intOp.eq_17, @boolOp.eq_1, @boolOp.eq_2, @boolOp.eq_3, @nilOp.eq_1, @nilOp.eq_2, @nilOp.eq_3, @isNilS.eq_1, @isNilS.eq_2, @isNilS.eq_3, @isNilS.eq_4, @unV.eq_1, @unV.eq_2, @unV.eq_3, @fillE.eq_1, @fillE.eq_2, @callV_s, @CR_some, @CD.eq_1, @importV.eq_1, @importV.eq_2, @importV.eq_3, @import1.eq_1, @import1.eq_2⟩
theorem vzc : (type_of% @importL.eq_1) ∧ (type_of% @importL.eq_2) ∧ (type_of% @importT.eq_1) ∧ (type_of% @importT.eq_2) ∧ (type_of% @importT.eq_3) ∧ (type_of% @imm.eq_1) ∧ (type_of% @imm.eq_2) ∧ (type_of% @imm.eq_3) ∧ (type_of% @imm.eq_4) ∧ (type_of% @immL.eq_1) ∧ (type_of% @immL.eq_2) ∧ (type_of% @pureR.eq_1) ∧ (type_of% @pureR.eq_2) ∧ (type_of% @pureR.eq_3) ∧ (type_of% @pureR.eq_4) ∧ (type_of% @pureR.eq_5) ∧ (type_of% @pureR.eq_6) ∧ (type_of% @pureR.eq_7) ∧ (type_of% @pureR.eq_8) ∧ (type_of% @pureR.eq_9) ∧ (type_of% @pureRL.eq_1) ∧ (type_of% @pureRL.eq_2) ∧ (type_of% @shapeR.eq_1) ∧ (type_of% @shapeR.eq_2) ∧ (type_of% @shapeR.eq_3) ∧ (type_of% @flatR.eq_1) ∧ (type_of% @flatR.eq_2) ∧ (type_of% @flatR.eq_3) ∧ (type_of% @shares.eq_1) ∧ (type_of% @shares.eq_2) ∧ (type_of% @shares.eq_3) ∧ (type_of% @shares.eq_4) ∧ (type_of% @shares.eq_5) ∧ (type_of% @shares.eq_6) ∧ (type_of% @shares.eq_7) ∧ (type_of% @shares.eq_8) ∧ (type_of% @sharesL.eq_1) ∧ (type_of% @sharesL.eq_2) ∧ (type_of% @hand_cons) ∧ (type_of% @hand_nil) ∧ (type_of% @List.all_cons.{0}) ∧ (type_of% @List.all_nil.{0}) ∧ (type_of% @List.length_cons.{0}) ∧ (type_of% @List.length_nil.{0}) ∧ (type_of% @List.drop_succ_cons.{0}) ∧ (type_of% @List.drop_zero.{0}) ∧ (type_of% @List.drop_nil.{0}) ∧ (type_of% @List.head?_cons.{0}) ∧ (type_of% @List.head?_nil.{0}) ∧ (type_of% @List.cons_append.{0}) ∧ (type_of% @List.nil_append.{0}) ∧ (type_of% @List.append_nil.{0}) ∧ (type_of% @List.getElem?_cons_zero.{0}) ∧ (type_of% @List.getElem?_cons_succ.{0}) ∧ (type_of% @List.take_succ_cons.{0}) ∧ (type_of% @List.take_zero.{0}) ∧ (type_of% @List.set_cons_zero.{0}) ∧ (type_of% @List.set_cons_succ.{0}) ∧ (type_of% @List.length_map.{0, 0}) ∧ (type_of% @Bool.and_true) ∧ (type_of% @Bool.true_and) ∧ (type_of% @Bool.and_false) ∧ (type_of% @Bool.false_and) ∧ (type_of% @Bool.and_self) ∧ (type_of% @Bool.not_true) ∧ (type_of% @Bool.not_false) ∧ (type_of% @and_true) ∧ (type_of% @true_and) ∧ (type_of% @and_self) ∧ (type_of% @ne_eq.{1}) ∧ (type_of% @not_true_eq_false) ∧ (type_of% @not_false_eq_true) ∧ (type_of% @beq_self_eq_true.{0}) ∧ (type_of% @Option.isSome_none.{0}) ∧ (type_of% @Int.toNat_natCast) ∧ (type_of% @nat_nonneg) ∧ (type_of% @Nat.zero_add) ∧ (type_of% @Nat.add_zero) ∧ (type_of% @Nat.succ_ne_self) ∧ (type_of% @Nat.le_refl) ∧ (type_of% @Nat.zero_le) ∧ (type_of% @List.getElem?_map.{0, 0}) ∧ (type_of% @List.map_nil.{0, 0}) ∧ (type_of% @fillS.eq_1) ∧ (type_of% @fillS.eq_2) ∧ (type_of% @zipP.eq_1) ∧ (type_of% @zipP.eq_2) ∧ (type_of% @evalPs.eq_1) ∧ (type_of% @evalPs.eq_2) ∧ (type_of% @List.replicate_zero.{0}) ∧ (type_of% @List.replicate_succ.{0}) ∧ (type_of% @appendV.eq_1) ∧ (type_of% @appendV.eq_2) ∧ (type_of% @List.isEmpty_cons.{0}) ∧ (type_of% @Nat.mul_zero) ∧ (type_of% @Nat.zero_mul) ∧ (type_of% @true_or) ∧ (type_of% @or_true) ∧ (type_of% @or_false) ∧ (type_of% @false_or) ∧ (type_of% @List.take_length.{0}) ∧ (type_of% @ite_self.{1}) ∧ (type_of% @z0) ∧ (type_of% @z1) ∧ (type_of% @bq1) ∧ (type_of% @bq2) ∧ (type_of% @Int.toNat_zero) ∧ (type_of% @z00) ∧ (type_of% @Nat.le_add_right) :=
  ⟨@importL.eq_1, @importL.eq_2, @importT.eq_1, @importT.eq_2, @importT.eq_3, @imm.eq_1, @imm.eq_2, @imm.eq_3, @imm.eq_4, @immL.eq_1, @immL.eq_2, @pureR.eq_1, @pureR.eq_2, @pureR.eq_3, @pureR.eq_4, @pureR.eq_5, @pureR.eq_6, @pureR.eq_7, @pureR.eq_8, @pureR.eq_9, @pureRL.eq_1, @pureRL.eq_2, @shapeR.eq_1, @shapeR.eq_2, @shapeR.eq_3, @flatR.eq_1, @flatR.eq_2, @flatR.eq_3, @shares.eq_1, @shares.eq_2, @shares.eq_3, @shares.eq_4, @shares.eq_5, @shares.eq_6, @shares.eq_7, @shares.eq_8, @sharesL.eq_1, @sharesL.eq_2, @hand_cons, @hand_nil, @List.all_cons.{0}, @List.all_nil.{0}, @List.length_cons.{0}, @List.length_nil.{0}, @List.drop_succ_cons.{0}, @List.drop_zero.{0}, @List.drop_nil.{0}, @List.head?_cons.{0}, @List.head?_nil.{0}, @List.cons_append.{0}, @List.nil_append.{0}, @List.append_nil.{0}, @List.getElem?_cons_zero.{0}, @List.getElem?_cons_succ.{0}, @List.take_succ_cons.{0}, @List.take_zero.{0}, @List.set_cons_zero.{0}, @List.set_cons_succ.{0}, @List.length_map.{0, 0}, @Bool.and_true, @Bool.true_and, @Bool.and_false, @Bool.false_and, @Bool.and_self, @Bool.not_true, @Bool.not_false, @and_true, @true_and, @and_self, @ne_eq.{1}, @not_true_eq_false, @not_false_eq_true, @beq_self_eq_true.{0}, @Option.isSome_none.{0}, @Int.toNat_natCast, @nat_nonneg, @Nat.zero_add, @Nat.add_zero, @Nat.succ_ne_self, @Nat.le_refl, @Nat.zero_le, @List.getElem?_map.{0, 0}, @List.map_nil.{0, 0}, @fillS.eq_1, @fillS.eq_2, @zipP.eq_1, @zipP.eq_2, @evalPs.eq_1, @evalPs.eq_2, @List.replicate_zero.{0}, @List.replicate_succ.{0}, @appendV.eq_1, @appendV.eq_2, @List.isEmpty_cons.{0}, @Nat.mul_zero, @Nat.zero_mul, @true_or, @or_true, @or_false, @false_or, @List.take_length.{0}, @ite_self.{1}, @z0, @z1, @bq1, @bq2, @Int.toNat_zero, @z00, @Nat.le_add_right⟩
theorem vzr : (type_of% @Fin_ret) ∧ (type_of% @Fin_nrm) ∧ (type_of% @Fin_pan) ∧ (type_of% @X_top) ∧ (type_of% @resV.eq_1) ∧ (type_of% @resV.eq_2) ∧ (type_of% @resV.eq_3) ∧ (type_of% @exports.eq_1) ∧ (type_of% @nodupK.eq_1) ∧ (type_of% @nodupK.eq_2) ∧ (type_of% @exportT.eq_1) ∧ (type_of% @exportT.eq_2) ∧ (type_of% @exportA.eq_1) ∧ (type_of% @exportA.eq_2) ∧ (type_of% @exportL.eq_1) ∧ (type_of% @exportL.eq_2) ∧ (type_of% @export1.eq_1) ∧ (type_of% @export1.eq_2) ∧ (type_of% @export1.eq_3) ∧ (type_of% @export1.eq_4) ∧ (type_of% @export1.eq_5) ∧ (type_of% @export1.eq_6) ∧ (type_of% @export1.eq_7) ∧ (type_of% @export1.eq_8) ∧ (type_of% @tupV.eq_1) ∧ (type_of% @tupV.eq_2) ∧ (type_of% @List.contains_nil.{0}) :=
  ⟨@Fin_ret, @Fin_nrm, @Fin_pan, @X_top, @resV.eq_1, @resV.eq_2, @resV.eq_3, @exports.eq_1, @nodupK.eq_1, @nodupK.eq_2, @exportT.eq_1, @exportT.eq_2, @exportA.eq_1, @exportA.eq_2, @exportL.eq_1, @exportL.eq_2, @export1.eq_1, @export1.eq_2, @export1.eq_3, @export1.eq_4, @export1.eq_5, @export1.eq_6, @export1.eq_7, @export1.eq_8, @tupV.eq_1, @tupV.eq_2, @List.contains_nil.{0}⟩
end Go.Vi
namespace Go.Vi
open Go

/-- Answers and panics of functions, looked up. -/
def withT (T : FuncId → Option (List V → Option COut)) (call : CallFn) : CallFn :=
  ⟨fun g args lvl c O => match T g with
    | some F => if lvl = 0 ∧ c = 0 ∧ pureRL args = true then (F args).map fun o => (o, 0, noH) else call g args lvl c O
    | none => call g args lvl c O, call.rnd⟩
def SoundTab (P : Program) (T : FuncId → Option (List V → Option COut)) : Prop := ∀ g F args out, T g = some F → F args = some out → SoundPure P g args out
theorem callOut_of {w : World} {A : Nat → Prop} {out : COut} {e : Ending} {w' : World} (hJ : JA w A) (hA : ∀ b, A b → b < w.heap.size) (h : PureOut w A out e w') : CallOut w A noB 0 noH out 0 noH e w' := by
  obtain ⟨A', t, hA', h⟩ := h
  refine ⟨A', noB, ?_⟩
  have hr : HR w' A' noB 0 noH := HR.empty (hJ.step (fun b hb => t.old b (hA b hb) noM) t.imm) hA'
  cases out with
  | ret v =>
    obtain ⟨cv, l, he, hrc, hown, hd⟩ := h
    exact ⟨cv, l, he, hrc, t, hr, fun i hi b hb => ⟨.inl (hown i hi b hb).1, (hown i hi b hb).2.1, (hown i hi b hb).2.2, noM⟩, hd⟩
  | pan v =>
    obtain ⟨cv, he, hpc⟩ := h
    exact ⟨cv, he, IC.of_pure v cv hpc, t, hr, fun i hi => (by cases hi), List.Pairwise.nil⟩
theorem withT_sound {P : Program} {T} {call : CallFn} (hT : SoundTab P T) (hc : SoundCall P call) : SoundCall P (withT T call) := by
  refine ⟨fun f args lvl c O out c' O' h hO => ?_, hc.rnd⟩
  dsimp only [withT] at h
  split at h
  · rename_i F hF
    split at h
    · rename_i hcond
      obtain ⟨rfl, rfl, hp⟩ := hcond
      simp only [Option.map_eq_some_iff, Prod.mk.injEq] at h
      obtain ⟨o, h, rfl, rfl, rfl⟩ := h
      have hO0 : O = noH := funext fun k => hO k (Nat.zero_le _)
      subst hO0
      refine ⟨fun _ _ => rfl, fun w A β cs hH hA => ?_⟩
      have hβ : β = noB := funext fun k => funext fun v => hH.fresh k v (Nat.zero_le _)
      subst hβ
      exact (hT _ _ _ _ hF h w A cs hH.laid (fun b hb => (hH.imm b hb).1) (ICs.pure_of _ _ hp hA (fun _ _ h => h))).mono fun e w' h => callOut_of hH.laid (fun b hb => (hH.imm b hb).1) h
    · exact hc.fn _ _ _ _ _ _ _ _ h hO
  · exact hc.fn _ _ _ _ _ _ _ _ h hO
/-- The machine with such a table. -/
def tm (T : FuncId → Option (List V → Option COut)) (M : Mc) : Mc := ⟨withT T M.call, M.E, M.C, M.fuel⟩
theorem tm_E {T M} : (tm T M).E = M.E := rfl
theorem tm_C {T M} : (tm T M).C = M.C := rfl
theorem tm_fuel {T M} : (tm T M).fuel = M.fuel := rfl
theorem tm_call {T M} : (tm T M).call = withT T M.call := rfl
theorem pure_of_fn {P : Program} {call : CallFn} (hc : SoundFn P call) {g : FuncId} {args : List V} {out : COut} {c' : Nat} {O' : Heap} (h : call g args 0 0 noH = some (out, c', O')) (hp : match out with | .ret v => pureR v = true | .pan v => pureR v = true) : SoundPure P g args out := by
  intro w A cs hJ hA hargs
  have hr : HR w A noB 0 noH := HR.empty hJ hA
  obtain ⟨hO, hcalls⟩ := hc g args 0 0 noH out c' O' h (fun _ _ => rfl)
  have hO' : O' = noH := funext fun k => hO k (Nat.zero_le _)
  refine (hcalls w A noB cs hr hargs.to_ICs).mono ?_
  rintro e w' ⟨A', β', hout⟩
  have key : ∀ {l}, Took w A noB 0 noH w' A' β' c' O' l → Tr w A noB 0 noH w' A' noB 0 noH ∧ (∀ b, A' b → b < w'.heap.size) := fun t => by
    refine ⟨⟨t.tr.size, t.tr.os, t.tr.tape, t.tr.output, t.tr.old, fun _ _ _ => rfl, Nat.le_refl _, t.tr.imm, t.tr.newA, fun b hb => absurd hb noM⟩, fun b hb => (t.hr.imm b hb).1⟩
  cases out with
  | ret v =>
    obtain ⟨cv, l, he, hrc, t⟩ := hout
    obtain ⟨k1, k2⟩ := key t
    refine ⟨A', k1, k2, cv, l, he, RC.any v cv l hp hrc (fun _ _ h => h), fun i hi b hb => ?_, t.dist⟩
    obtain ⟨h1, h2, h3, _⟩ := t.own i hi b hb
    exact ⟨h1.resolve_right noM, h2, h3⟩
  | pan v =>
    obtain ⟨cv, he, hic, t⟩ := hout
    obtain ⟨k1, k2⟩ := key t
    exact ⟨A', k1, k2, cv, he, IC.pure_of v cv hp hic (fun _ _ h => h)⟩
theorem sound_ofT {C : Ctx} (hhand : SoundHand C.P C.hand) (hG : ∀ g ∈ C.ok, GoodF C.P g) (hm : C.P.follows .mixedOrders = true) {T} (hT : SoundTab C.P T) {g : FuncId} {fn : Func} {b : Code} {args : List V} {n : Nat} {out : COut} (hf : C.P.funcs[g]? = some fn) (hb : fn.body = some b) (hl : args.length ≤ fn.ntmps)
    (hp : match out with | .ret v => pureR v = true | .pan v => pureR v = true) (h : Fin (tm T (mcOf C g fn n)) fn.results.toList (R (tm T (mcOf C g fn n)) b .top ⟨params 0 args, [], fun _ => none, 0⟩) = some out) : SoundPure C.P g args out := by
  have hfn := fn_any hhand hG hm (n := n) (withT_sound hT (evF_sound hhand hG hm n))
  have h1 : ∃ c' O', fnV (withT T (evF C n)) C n g args 0 0 noH = some (out, c', O') := by
    unfold R evM K.back tm mcOf at h
    dsimp only at h
    unfold fnV
    simp only [hf, hb, if_pos hl]
    change Fin _ _ (evC (withT T (evF C n)) (envOf C g fn 0) C.hand n b { τ := params 0 args, L := [], O := noH, c := 0 }) = _ at h
    generalize evC (withT T (evF C n)) (envOf C g fn 0) C.hand n b { τ := params 0 args, L := [], O := noH, c := 0 } = r at h
    rcases r with _ | ⟨e, s⟩
    · cases h
    · cases e with
      | norm =>
        simp only [Fin, Option.map_eq_some_iff] at h
        obtain ⟨vs, h, rfl⟩ := h
        simp only [h]
        exact ⟨_, _, rfl⟩
      | ret =>
        simp only [Fin, Option.map_eq_some_iff] at h
        obtain ⟨vs, h, rfl⟩ := h
        simp only [h]
        exact ⟨_, _, rfl⟩
      | pan v =>
        simp only [Fin, Option.some.injEq] at h
        subst h
        exact ⟨_, _, rfl⟩
      | exit i => cases h
  obtain ⟨c', O', h1⟩ := h1
  exact pure_of_fn hfn h1 (by cases out <;> exact hp)
end Go.Vi
namespace Go.Vi
open Go

/-- What is asked of the function that catches: it does nothing where nothing panics; else it lays the code where it was told. -/
structure Caught (P : Program) (gc : FuncId) (et tf : TypeId) : Prop where
  idle : ∀ (p : Addr) (w : World), CallsDIn (Fi none) 0 P gc #[.pointer (some p)] .returning w fun e u' w' => (∃ v, e = .returned v) ∧ u' = .returning ∧ w' = w
  falls : ∀ (b o : Nat) (c : Int) (w : World), ∃ ob, ∀ w2, (Instr.storeAt et (.pointer (some ⟨b, o, none⟩)) (.int .i64 c)).run P (w.alloc ob) = .ok () w2 →
    CallsDIn (Fi none) 0 P gc #[.pointer (some ⟨b, o, none⟩)] (.panicking [{ v := .iface tf (.agg #[.int .i64 c]), recovered := false }]) w fun e u' w' => (∃ v, e = .returned v) ∧ u' = .panicking [{ v := .iface tf (.agg #[.int .i64 c]), recovered := true }] ∧ w' = w2
/-- The outcome of a function whose panics are caught. -/
def FinC (M : Mc) (et tf : TypeId) (p : V) (rs : List ResultVar) : Option (Ex × St) → Option COut
  | some (.norm, s) => Fin M rs (some (.norm, s))
  | some (.ret, s) => Fin M rs (some (.ret, s))
  | some (.pan (.iface t (.agg [.int .i64 c])), s) => if t = tf then (match storeAt M.E et p (.int .i64 c) s with | some s' => Fin M rs (some (.ret, s')) | none => none) else none
  | _ => none
theorem HR.push {w w' : World} {A β c H} {ob : Go.Obj} (h : HR w A β c H) (p : Pushed w w' ob) : HR w' A β c H ∧ Tr w A β c H w' A β c H := by
  refine ⟨⟨fun k v o hk => ?_, h.sep, fun b hb => ⟨by have := (h.imm b hb).1; have := p.size; omega, (h.imm b hb).2⟩, h.fresh, h.laid.step (fun b hb => p.old (h.imm b hb).1) (fun _ h => h)⟩,
    ⟨by have := p.size; omega, p.os, p.tape, p.output, fun b hb _ => p.old hb, fun _ _ _ => rfl, Nat.le_refl _, fun _ h => h, fun _ h => .inl h, fun b hb => .inl hb⟩⟩
  obtain ⟨i, e, ho⟩ := h.obj k v o hk
  exact ⟨i, e, ho.mono (fun _ h => h) (fun b hb => sameC (p.old (h.imm b hb).1)) (fun _ _ _ h => h) (fun b hb => p.old (h.lt ⟨k, v, o, i, hk, e, hb⟩))⟩
theorem defer_region {P : Program} {id : Nat} {gc : FuncId} {te : Tmp} {ts : Array TypeId} {ty : TypeId} {pos : String} {af : Array Edge} {Q : Exit → Act → World → Prop} {a : Act} {w : World}
    (h : Q .normal { a with defers := { target := .fn (.func gc) #[], args := #[a.tmps.getD te undef] } :: a.defers } w) :
    (Code.region id #[{ dst := none, op := .defer { callee := .value (.func gc), args := #[.tmp te], argTypes := ts }, type := ty, pos := pos, after := af, guard := none }] false).wpIn (Fi none) 0 P Q a w := by
  refine wpIn_region ?_
  show wpOpsIn _ _ _ _ _ [0] a w
  have hw : Region.wanted ({ dst := none, op := .defer { callee := .value (.func gc), args := #[.tmp te], argTypes := ts }, type := ty, pos := pos, after := af, guard := none } : Oper) (yielded #[{ dst := none, op := .defer { callee := .value (.func gc), args := #[.tmp te], argTypes := ts }, type := ty, pos := pos, after := af, guard := none }] a.tmps) = true := rfl
  simp only [wpOpsIn, List.getElem?_toArray, List.getElem?_cons_zero, hw, if_true]
  refine ⟨fun _ _ => trivial, ?_⟩
  have hrun : (Oper.semAt (Fi none).round a.eval ({ dst := none, op := .defer { callee := .value (.func gc), args := #[.tmp te], argTypes := ts }, type := ty, pos := pos, after := af, guard := none } : Oper)).run P w = .ok (.defer { target := .fn (.func gc) #[], args := #[a.tmps.getD te undef] }) w := by
    simp [Fi, Oper.semAt_none, execOp, resolve, Deferred.ofValue, Act.eval]
  rw [hrun]
  exact h
theorem settle_caught {v : Value} : settle (.panicking [{ v := v, recovered := true }]) = .returning := rfl

theorem sound_defer {C : Ctx} (hhand : SoundHand C.P C.hand) (hG : ∀ g ∈ C.ok, GoodF C.P g) (hm : C.P.follows .mixedOrders = true) {T} (hT : SoundTab C.P T) {f : FuncId} {fn : Func} {R0 B : Code} {id : Nat} {gc : FuncId} {te : Tmp} {ts : Array TypeId} {ty et tf : TypeId} {pos : String} {af : Array Edge} {args : List V} {n : Nat} {v : V} {s1 : St} {k : Key} {ver : Nat}
    (hf : C.P.funcs[f]? = some fn) (hb : fn.body = some (.seq R0 (.seq (.region id #[{ dst := none, op := .defer { callee := .value (.func gc), args := #[.tmp te], argTypes := ts }, type := ty, pos := pos, after := af, guard := none }] false) B)))
    (hl : args.length ≤ fn.ntmps) (hp : pureR v = true) (hgc : gc ∈ C.ok) (hc : Caught C.P gc et tf)
    (h0 : R (tm T (mcOf C f fn n)) R0 .top ⟨params 0 args, [], fun _ => none, 0⟩ = some (.norm, s1)) (hte : tget s1.τ te = .ptr k ver 0 0)
    (h1 : FinC (tm T (mcOf C f fn n)) et tf (.ptr k ver 0 0) fn.results.toList (R (tm T (mcOf C f fn n)) B .top s1) = some (.ret v)) : SoundPure C.P f args (.ret v) := by
  have hcall := withT_sound hT (evF_sound hhand hG hm n)
  intro w A cs hJ hA hargs
  have hH : HR w A noB 0 noH := HR.empty hJ hA
  generalize hE : envOf C f fn 0 = E
  have hEP : E.P = C.P := by rw [← hE]; rfl
  have hEl : E.lvl = 0 := by rw [← hE]; rfl
  have hEn : E.n = fn.ntmps := by rw [← hE]; rfl
  have hEok : E.ok = C.ok := by rw [← hE]; rfl
  have hME : (tm T (mcOf C f fn n)).E = E := hE
  have hheap : St.heap E { τ := params 0 args, L := [], O := noH, c := 0 } = noH := by
    funext k
    unfold St.heap heapOf
    rw [hEl]
    by_cases h1 : k.lvl = 0
    · rw [if_pos h1]; rfl
    · rw [if_neg h1, if_neg (by omega)]; rfl
  have start : SR E w A noB { τ := params 0 args, L := [], O := noH, c := 0 } { tmps := cs ++ Array.replicate (fn.ntmps - cs.size) undef, defers := [] } := by
    have hI := hargs.to_ICs (β := noB)
    have hcs : cs.size = args.length := by have := hI.length; simpa using this
    refine ⟨fun t => ?_, by rw [hEn]; simp; omega, by rw [hheap]; exact hH, MarksOk.nil⟩
    rw [params_get]
    simp only [Nat.zero_le, if_true, Nat.sub_zero]
    cases ht : args[t]? with
    | none => exact IC_junk
    | some v =>
      obtain ⟨x, h1, h2⟩ := hI.get ht
      obtain ⟨hl, _⟩ := List.getElem?_eq_some_iff.1 h1
      have hl' : t < cs.size := by simpa using hl
      have : (cs ++ Array.replicate (fn.ntmps - cs.size) undef).getD t undef = x := by
        rw [Array.getD_eq_getD_getElem?, Array.getElem?_append_left hl', ← Array.getElem?_toList, h1]
        rfl
      rw [this]
      exact h2
  have run := fun c s e s' hh => evC_sound (E := E) (by rw [hEP]; exact hcall) (by rw [hEP]; exact hhand) (by rw [hEok, hEP]; exact hG) (by rw [hEP]; exact hm) none (fun _ => rfl) 0 n c s e s' hh
  have h0' : evC (withT T (evF C n)) E C.hand n R0 { τ := params 0 args, L := [], O := noH, c := 0 } = some (.norm, s1) := by rw [← hE]; exact h0
  have key : ∀ {e w' A' β' c' cv l}, e = Ending.returned cv → RC w' A' β' v cv l → Took w A noB 0 noH w' A' β' c' noH l → PureOut w A (.ret v) e w' := by
    intro e w' A' β' c' cv l he hrc t
    refine ⟨A', ⟨t.tr.size, t.tr.os, t.tr.tape, t.tr.output, t.tr.old, fun _ _ _ => rfl, Nat.le_refl _, t.tr.imm, t.tr.newA, fun b hb => absurd hb noM⟩, fun b hb => (t.hr.imm b hb).1, cv, l, he, RC.any v cv l hp hrc (fun _ _ h => h), fun i hi b hb => ?_, t.dist⟩
    obtain ⟨h1, h2, h3, _⟩ := t.own i hi b hb
    exact ⟨h1.resolve_right noM, h2, h3⟩
  have lo : ∀ O : Heap, lower 0 O = noH := fun O => funext fun k => by unfold lower; rw [if_neg (by omega)]; rfl
  -- behind the last deferred call
  have fin : ∀ (s : St) (w' : World) (A' : Nat → Prop) (β' : Beta) (a' : Act) (ms : List Deferred), Fin (tm T (mcOf C f fn n)) fn.results.toList (some (.ret, s)) = some (.ret v) → SR E w' A' β' s { a' with defers := ms } → (∀ d ∈ ms, ∃ r, d = markD r ∧ w.heap.size ≤ r) →
      Tr w A noB 0 noH w' A' β' s.c (s.heap E) → LeavesInM (Fi none) 0 C.P fn a'.tmps (PureOut w A (.ret v)) ms .returning w' := by
    intro s w' A' β' a' ms hfin hs hms t
    have hd := hs.defers
    have := leave_marks (P := C.P) (fn := fn) (tmps := a'.tmps) (R := PureOut w A (.ret v)) (u := .returning) (by simp) [] ms w' hs.heap (by simpa using hd) hms t (fun w2 t2 h2 _ k2 => ?_)
    · simpa using this
    have hs2 : SR E w2 A' β' s { a' with defers := [] } := ⟨fun t => k2 _ _ (hs.tmp t), hs.size, h2, MarksOk.nil⟩
    simp only [Fin, Option.map_eq_some_iff, Option.bind_eq_some_iff] at hfin
    obtain ⟨vs', ⟨vs, hres, hex⟩, hv⟩ := hfin
    rw [hME] at hres hex
    obtain ⟨cvs, h1, h2'⟩ := results_run hs2 fn.results.toList vs hres
    obtain ⟨A'', l, h3, h4⟩ := exports_sound hs2.heap t2 hex h2'
    rw [hEl, lo] at h4
    have hr : (results fn a'.tmps).run C.P w2 = .ok (if h : cvs.toArray.size = 1 then cvs.toArray[0] else .tuple cvs.toArray) w2 := by
      rw [← hEP]
      unfold results
      rw [Array.mapM_eq_mapM_toList]
      simp only [Sem.run_bind, map_eq_pure_bind]
      erw [h1]
      simp
    injection hv with hv
    subst hv
    exact ⟨_, hr, key rfl (RC_tup h3) h4⟩
  refine calls_in.1 (callsIn_of_wp_marks (F := Fi none) (n := 0) hf hb trivial ?_)
  apply wpIn_seq
  have g1 := run R0 _ _ _ h0' w A noB _ start (Exit.then ((Code.seq (.region id #[{ dst := none, op := .defer { callee := .value (.func gc), args := #[.tmp te], argTypes := ts }, type := ty, pos := pos, after := af, guard := none }] false) B).wpIn (Fi none) 0 C.P (bodyPostM (Fi none) 0 C.P fn (PureOut w A (.ret v)))) (bodyPostM (Fi none) 0 C.P fn (PureOut w A (.ret v)))) (fun a1 w1 A1 β1 t1 hs1 => ?_)
  · rw [hEP] at g1; exact g1
  show (Code.seq _ B).wpIn (Fi none) 0 C.P _ a1 w1
  apply wpIn_seq
  refine defer_region ?_
  show B.wpIn (Fi none) 0 C.P _ _ w1
  obtain ⟨m1, em1, hm1⟩ := t1.ext
  rw [List.append_nil] at em1
  rw [hheap] at t1
  have tr1 := t1.tr
  have hptr := hs1.tmp te
  rw [hte] at hptr
  simp only [IC] at hptr
  obtain ⟨i1, b1, hi1, hb1, hcp⟩ := hptr
  generalize hD : ({ target := .fn (.func gc) #[], args := #[a1.tmps.getD te undef] } : Deferred) = D
  have hDt : D.target = .fn (.func gc) #[] := by rw [← hD]
  have hDa : D.args = #[a1.tmps.getD te undef] := by rw [← hD]
  have hs2 : SR E w1 A1 β1 s1 { a1 with defers := D :: a1.defers } := by
    refine ⟨hs1.tmp, hs1.size, hs1.heap, fun d hd => ?_, ?_⟩
    · rcases List.mem_cons.1 hd with rfl | hd
      · exact .inl ⟨_, _, hDt⟩
      · exact hs1.defers.each d hd
    · refine List.nodup_cons.2 ⟨fun hd => ?_, hs1.defers.nodup⟩
      rw [em1] at hd
      obtain ⟨r, e, _⟩ := hm1 D hd
      rw [e] at hDt
      cases hDt
  -- the deferred call's door
  have door' : ∀ (tmps : Array Value) {u : FrameMode} {w4 : World} {S : Ending → FrameMode → World → Prop}, u ≠ .run → CallsDIn (Fi none) 0 C.P gc #[a1.tmps.getD te undef] u w4 S → (∀ e u' w', S e u' w' → (∃ v, e = .returned v) ∧ LeavesInM (Fi none) 0 C.P fn tmps (PureOut w A (.ret v)) a1.defers (settle u') w') →
      LeavesInM (Fi none) 0 C.P fn tmps (PureOut w A (.ret v)) (D :: a1.defers) u w4 := by
    intro tmps u w4 S hu hcd hS
    refine ⟨hu, .inr ⟨(fun h => (by cases h)), .func gc, #[], gc, #[a1.tmps.getD te undef], hDt, ?_, fun _ _ => trivial, ?_⟩⟩
    · rw [hDt, hDa]
      simp only [invoke]
      simpa using callFunc_run (args := #[a1.tmps.getD te undef]) (hG gc hgc)
    · refine hcd.mono fun e u' w' hs => ?_
      obtain ⟨⟨x, rfl⟩, h⟩ := hS e u' w' hs
      exact h
  -- the body
  have hBr : ∃ e s3, R (tm T (mcOf C f fn n)) B .top s1 = some (e, s3) := by
    cases hR : R (tm T (mcOf C f fn n)) B .top s1 with
    | none => rw [hR] at h1; cases h1
    | some q => exact ⟨q.1, q.2, rfl⟩
  obtain ⟨e, s3, hBr⟩ := hBr
  rw [hBr] at h1
  have hB : evC (withT T (evF C n)) E C.hand n B s1 = some (e, s3) := by rw [← hE]; exact hBr
  have g2 := run B s1 e s3 hB w1 A1 β1 _ hs2 (bodyPostM (Fi none) 0 C.P fn (PureOut w A (.ret v))) (fun a3 w3 A3 β3 t3 hs3 => ?_)
  · rw [hEP] at g2; exact g2
  obtain ⟨m3, em3, hm3⟩ := t3.ext
  have tr3 := tr1.trans t3.tr
  have hd3 := hs3.defers
  simp only at em3
  have hm3' : ∀ d ∈ m3, ∃ r, d = markD r ∧ w.heap.size ≤ r := fun d hd => let ⟨r, e, hr⟩ := hm3 d hd; ⟨r, e, Nat.le_trans tr1.size hr⟩
  have hcp3 : IC w3 A3 β3 (.ptr k ver 0 0) (a1.tmps.getD te undef) := hs1.heap.carry t3.tr (by simp only [IC]; exact ⟨i1, b1, hi1, hb1, hcp⟩)
  have normal : Fin (tm T (mcOf C f fn n)) fn.results.toList (some (.ret, s3)) = some (.ret v) → LeavesInM (Fi none) 0 C.P fn a3.tmps (PureOut w A (.ret v)) a3.defers .returning w3 := by
    intro hfin
    rw [em3] at hd3 ⊢
    refine leave_marks (by simp) (D :: a1.defers) m3 w3 hs3.heap hd3 hm3' tr3 (fun w4 t4 h4 hm4 k4 => ?_)
    have hcd := hc.idle ⟨b1, (i1.base + 0) * i1.sz + 0, none⟩ w4
    rw [← hcp] at hcd
    refine door' a3.tmps (by simp) hcd ?_
    rintro e u' w' ⟨he, rfl, rfl⟩
    refine ⟨he, fin s3 w' A3 β3 a3 a1.defers hfin ⟨fun t => k4 _ _ (hs3.tmp t), hs3.size, h4, fun d hd => hm4.each d (List.mem_cons_of_mem _ hd), (List.nodup_cons.1 hm4.nodup).2⟩ (by rw [em1]; exact hm1) t4⟩
  cases e with
  | norm => exact normal h1
  | ret => exact normal h1
  | exit i => cases h1
  | pan x =>
    intro cv hcv
    show LeavesInM (Fi none) 0 C.P fn a3.tmps (PureOut w A (.ret v)) a3.defers (.panicking [{ v := cv, recovered := false }]) w3
    have hx : ∃ c s4, x = .iface tf (.agg [.int .i64 c]) ∧ storeAt E et (.ptr k ver 0 0) (.int .i64 c) s3 = some s4 ∧ Fin (tm T (mcOf C f fn n)) fn.results.toList (some (.ret, s4)) = some (.ret v) := by
      unfold FinC at h1
      split at h1
      · rename_i h; cases h
      · rename_i h; cases h
      · rename_i t c s h
        simp only [Option.some.injEq, Prod.mk.injEq, Ex.pan.injEq] at h
        obtain ⟨rfl, rfl⟩ := h
        split at h1
        · rename_i ht
          subst ht
          split at h1
          · rename_i s4 hst
            rw [hME] at hst
            exact ⟨c, s4, rfl, hst, h1⟩
          · cases h1
        · cases h1
      · cases h1
    obtain ⟨c, s4, rfl, hst, hfin⟩ := hx
    have hcv' : cv = .iface tf (.agg #[.int .i64 c]) := by
      simp only [IC, ICs, PC] at hcv
      obtain ⟨y, rfl, z, rfl, c1, d1, h1, rfl, rfl⟩ := hcv
      have : z = #[.int .i64 c] := by cases z; simp_all
      rw [this]
    subst hcv'
    rw [em3] at hd3 ⊢
    refine leave_marks (by simp) (D :: a1.defers) m3 w3 hs3.heap hd3 hm3' tr3 (fun w4 t4 h4 hm4 k4 => ?_)
    obtain ⟨ob, hfalls⟩ := hc.falls b1 ((i1.base + 0) * i1.sz + 0) c w4
    rw [← hcp] at hfalls
    obtain ⟨h5, t5⟩ := h4.push (ob := ob) pushed_alloc
    have hcp5 : IC (w4.alloc ob) A3 β3 (.ptr k ver 0 0) (a1.tmps.getD te undef) := h4.carry t5 (k4 _ _ hcp3)
    obtain ⟨w6, A6, β6, hrun, st⟩ := store_sound (cv := .int .i64 c) h5 hst hcp5 (by simp [IC, PC])
    rw [hEP] at hrun
    refine door' a3.tmps (by simp) (hfalls w6 hrun) ?_
    rintro e u' w' ⟨he, rfl, rfl⟩
    refine ⟨he, ?_⟩
    rw [settle_caught]
    have hsr : SR E (w4.alloc ob) A3 β3 s3 { a3 with defers := a1.defers } := ⟨fun t => h4.carry t5 (k4 _ _ (hs3.tmp t)), hs3.size, h5, ((⟨fun d hd => hm4.each d (List.mem_cons_of_mem _ hd), (List.nodup_cons.1 hm4.nodup).2⟩ : MarksOk w4 A3 a1.defers)).mono t5.imm (h4.keep t5)⟩
    exact fin s4 w' A6 β6 a3 a1.defers hfin (hsr.step st) (by rw [em1]; exact hm1) (t4.trans (t5.trans st.1))
end Go.Vi
