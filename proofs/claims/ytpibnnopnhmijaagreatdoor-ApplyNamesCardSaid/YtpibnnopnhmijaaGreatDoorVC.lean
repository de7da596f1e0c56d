/-
  THE VALUE-LEVEL INTERPRETER 'Vi', part 23: regions whose order is drawn.
-/
import Derived.Test.YtpibnnopnhmijaaGreatDoorVB
set_option linter.unusedSimpArgs false
set_option linter.unusedVariables false
namespace Go.Vi
open Go
def ClosedL (ops : Array Oper) (listed : Array Bool) : Prop := ∀ j oj, ops[j]? = some oj → listed.getD j false = true → ∀ e ∈ oj.after, Region.binds .any e = true → listed.getD e.on false = true
def TabOk (ops : Array Oper) (listed : Array Bool) (T : List (List Nat)) : Prop := ∀ i o, ops[i]? = some o → (∀ e ∈ o.after, Region.binds .any e = true → listed.getD e.on false = true) → ∀ j ∈ T.getD i [], listed.getD j false = true
theorem addAll_mem {x : Nat} : ∀ {l acc : List Nat}, x ∈ addAll acc l → x ∈ acc ∨ x ∈ l
  | [], acc, h => .inl h
  | y :: r, acc, h => by
    unfold addAll at h
    rcases addAll_mem h with h1 | h1
    · split at h1
      · exact .inl h1
      · rcases List.mem_cons.1 h1 with e | e
        · subst e; exact .inr (by simp)
        · exact .inl e
    · exact .inr (by simp [h1])
theorem ancOf_mem {T : List (List Nat)} {x : Nat} : ∀ {es : List Edge} {acc : List Nat}, x ∈ ancOf T es acc → x ∈ acc ∨ ∃ e ∈ es, Region.binds .any e = true ∧ (x = e.on ∨ x ∈ T.getD e.on [])
  | [], acc, h => .inl h
  | e :: r, acc, h => by
    unfold ancOf at h
    rcases ancOf_mem h with h1 | ⟨e', he', h1⟩
    · split at h1
      · rename_i hb
        rcases addAll_mem h1 with h2 | h2
        · exact .inl h2
        · exact .inr ⟨e, by simp, hb, by simpa using h2⟩
      · exact .inl h1
    · exact .inr ⟨e', by simp [he'], h1⟩
theorem ancTab_ok {ops : Array Oper} {listed : Array Bool} (hc : ClosedL ops listed) : ∀ (l : List Oper) (T : List (List Nat)), (∀ j, l[j]? = ops[T.length + j]?) → TabOk ops listed T → TabOk ops listed (ancTab l T)
  | [], T, _, h => h
  | o :: r, T, hl, h => by
    unfold ancTab
    refine ancTab_ok hc r _ (fun j => by have := hl (j + 1); simpa [Nat.add_assoc, Nat.add_comm 1 j] using this) ?_
    intro i oi hi he j hj
    by_cases h1 : i < T.length
    · refine h i oi hi he j ?_
      rw [List.getD_eq_getElem?_getD, List.getElem?_append_left h1, ← List.getD_eq_getElem?_getD] at hj
      exact hj
    · rw [List.getD_eq_getElem?_getD, List.getElem?_append_right (by omega)] at hj
      by_cases h2 : i = T.length
      · subst h2
        have e0 : ops[T.length]? = some o := by have := hl 0; simpa using this.symm
        rw [e0] at hi
        injection hi with hi
        subst hi
        simp only [Nat.sub_self, List.getElem?_cons_zero, Option.getD_some] at hj
        rcases ancOf_mem hj with hj | ⟨e, hem, hb, hj⟩
        · cases hj
        · have hle := he e (by simpa using hem) hb
          rcases hj with rfl | hj
          · exact hle
          · cases hoe : ops[e.on]? with
            | none =>
              exfalso
              have hlt : ¬ e.on < T.length := fun hlt => by
                have hsz : ops.size ≤ e.on := by simpa using hoe
                have : T.length < ops.size := by
                  rcases Nat.lt_or_ge T.length ops.size with h | h
                  · exact h
                  · rw [Array.getElem?_eq_none h] at e0; cases e0
                omega
              rw [List.getD_eq_getElem?_getD, List.getElem?_eq_none (by omega)] at hj
              cases hj
            | some oe => exact h e.on oe hoe (hc e.on oe hoe hle) j hj
      · rw [List.getElem?_eq_none (by simp; omega)] at hj
        cases hj
theorem ancTab_lt {ops : Array Oper} : ∀ (l : List Oper) (T : List (List Nat)), (∀ j, l[j]? = ops[T.length + j]?) → (∀ j o, ops[j]? = some o → ∀ e ∈ o.after, Region.binds .any e = true → e.on < j) →
    (∀ i, ∀ j ∈ T.getD i [], j < i) → ∀ i, ∀ j ∈ (ancTab l T).getD i [], j < i
  | [], T, _, _, h => h
  | o :: r, T, hl, hlt, h => by
    unfold ancTab
    refine ancTab_lt r _ (fun j => by have := hl (j + 1); simpa [Nat.add_assoc, Nat.add_comm 1 j] using this) hlt ?_
    intro i j hj
    by_cases h1 : i < T.length
    · refine h i j ?_
      rw [List.getD_eq_getElem?_getD, List.getElem?_append_left h1, ← List.getD_eq_getElem?_getD] at hj
      exact hj
    · rw [List.getD_eq_getElem?_getD, List.getElem?_append_right (by omega)] at hj
      by_cases h2 : i = T.length
      · subst h2
        have e0 : ops[T.length]? = some o := by have := hl 0; simpa using this.symm
        simp only [Nat.sub_self, List.getElem?_cons_zero, Option.getD_some] at hj
        rcases ancOf_mem hj with hj | ⟨e, hem, hb, hj⟩
        · cases hj
        · have := hlt _ o e0 e (by simpa using hem) hb
          rcases hj with rfl | hj
          · exact this
          · exact Nat.lt_trans (h e.on j hj) this
      · rw [List.getElem?_eq_none (by simp; omega)] at hj
        cases hj
theorem HR.frame {w A β c F U cU w' A' β'} (hF : HR w A β c F) (hs : ∀ k p, U k = some p → F k = some p) (hc : c ≤ cU) (t : Tr w A β cU U w' A' β' cU U) (h' : HR w' A' β' cU U) :
    Tr w A β c F w' A' β' c F ∧ HR w' A' β' c F := by
  have hlt : ∀ k v o, F k = some (v, o) → v < c := fun k v o hk => by
    obtain ⟨i, e, _⟩ := hF.obj k v o hk
    refine Nat.lt_of_not_le fun hle => ?_
    rw [hF.fresh k v hle] at e
    cases e
  have hβ : ∀ k v o, F k = some (v, o) → β' k v = β k v := fun k v o hk => t.beta k v (Nat.lt_of_lt_of_le (hlt k v o hk) hc)
  have hMt : ∀ b, Mt F β' b → Mt F β b := fun b ⟨k, v, o, i, h1, h2, h3⟩ => ⟨k, v, o, i, h1, by rw [← hβ k v o h1]; exact h2, h3⟩
  have hUF : ∀ b, Mt U β b → Mt F β b := fun b hm => hm.mono hs
  refine ⟨⟨t.size, t.os, t.tape, t.output, fun b hb hm => t.old b hb (fun h => hm (hUF b h)), fun k v hv => t.beta k v (by omega), Nat.le_refl _, t.imm, fun b hb => ?_, fun b hb => .inl (hMt b hb)⟩, ⟨fun k v o hk => ?_, fun k k' v v' o o' i i' b h1 h2 h3 h4 => ?_, fun b hb => ?_, fun k v hv => ?_, h'.laid⟩⟩
  · rcases t.newA b hb with h1 | h1 | h1
    · exact .inl h1
    · exact .inr (.inl (hUF b h1))
    · exact .inr (.inr h1)
  · cases hU : U k with
    | some p =>
      have := hs k p hU
      rw [hk] at this
      injection this with this
      subst this
      exact h'.obj k v o hU
    | none =>
      obtain ⟨i, e, ho⟩ := hF.obj k v o hk
      have hnU : ∀ b, i.b = some b → ¬ Mt U β b := fun b hb ⟨q, v', o', j, g1, g2, g3⟩ => by
        have := hF.sep q k v' v o' o j i b (hs q _ g1) hk g2 e g3 hb
        subst this
        rw [hU] at g1
        cases g1
      refine ⟨i, by rw [hβ k v o hk]; exact e, ho.mono t.imm (fun b hb => sameC (t.old b (hF.imm b hb).1 (fun h => (hF.imm b hb).2 (hUF b h)))) (fun q u j hj => ?_) (fun b hb => t.old b (hF.lt ⟨k, v, o, i, hk, e, hb⟩) (hnU b hb))⟩
      rw [t.beta q u]
      · exact hj
      · refine Nat.lt_of_not_le fun hle => ?_
        rw [hF.fresh q u (by omega)] at hj
        cases hj
  · rw [hβ k v o h1] at h3
    rw [hβ k' v' o' h2] at h4
    exact hF.sep k k' v v' o o' i i' b h1 h2 h3 h4
  · refine ⟨(h'.imm b hb).1, fun hm => ?_⟩
    have hm1 := hMt b hm
    rcases t.newA b hb with h1 | h1 | h1
    · exact (hF.imm b h1).2 hm1
    · refine (h'.imm b hb).2 ?_
      obtain ⟨k, v, o, i, g1, g2, g3⟩ := h1
      exact ⟨k, v, o, i, g1, by rw [hβ k v o (hs k _ g1)]; exact g2, g3⟩
    · have := hF.lt hm1; omega
  · by_cases hv' : v < cU
    · rw [t.beta k v hv']; exact hF.fresh k v hv
    · exact h'.fresh k v (by omega)
theorem HR.under {w A β c F U cU} (hF : HR w A β c F) (hs : ∀ k p, U k = some p → F k = some p) (hc : c ≤ cU) : HR w A β cU U := by
  have h := hF.forget hs (fun _ h => h) (fun b hb => ⟨(hF.imm b hb).1, fun hm => (hF.imm b hb).2 (hm.mono hs)⟩)
  exact ⟨h.obj, h.sep, h.imm, fun k v hv => h.fresh k v (by omega), h.laid⟩
theorem settleL_none {E : Env} {lvl slot : Nat} : ∀ (j : Nat) (vs : List V) (s : St), refsL vs = [] → settleL E lvl slot j vs s = (vs, s)
  | j, [], s, _ => rfl
  | j, v :: r, s, h => by
    simp only [refsL, List.append_eq_nil_iff] at h
    have h1 : settle1 E ⟨lvl, slot, j + 1⟩ v s = (v, s) := by
      cases v <;> simp_all [settle1, refs]
    simp only [settleL, h1, settleL_none (j + 1) r s h.2]
theorem put_other {E : Env} {s : St} {k q : Key} {ver : Nat} {o : Obj} (h : q ≠ k) : (s.put E k ver o).heap E q = s.heap E q := by
  by_cases hk : k.lvl ≤ E.lvl
  · rw [heap_put hk]; simp [h]
  · have e : s.put E k ver o = { s with O := fun q => if q = k then some (ver, o) else s.O q } := by
      unfold St.put
      rw [if_neg (by omega)]
    rw [e]
    unfold St.heap heapOf
    dsimp only
    rw [if_neg h]
theorem refs_leaf (v : Value) : refs (ofLeaf v) = [] := by
  unfold ofLeaf
  split <;> rfl
theorem refs_zero (v : Value) : refsL (cellsV (ofValue v)) = [] := by
  have hl : ∀ l : List Value, refsL (l.map ofLeaf) = [] := fun l => by
    induction l with
    | nil => rfl
    | cons x r ih => simp [refsL, refs_leaf, ih]
  have one : ∀ u : V, refs u = [] → refsL (cellsV u) = [] := fun u hu => by
    cases u <;> simp_all [cellsV, refsL, refs]
  unfold ofValue
  split
  · exact hl _
  · exact one _ (refs_leaf _)
theorem del_other {E : Env} {s : St} {k q : Key} (h : q ≠ k) : (s.del E k).heap E q = s.heap E q := by
  by_cases hk : k.lvl ≤ E.lvl
  · rw [heap_del hk]; simp [h]
  · have e : s.del E k = { s with O := fun q => if q = k then none else s.O q } := by
      unfold St.del
      rw [if_neg (by omega)]
    rw [e]
    unfold St.heap heapOf
    dsimp only
    rw [if_neg h]
theorem obj_eq {E : Env} {s : St} {k : Key} {ver : Nat} : s.obj E k ver = match s.heap E k with | some (v, o) => if v = ver then some o else none | none => none := by
  unfold St.obj St.heap heapOf
  split
  · rfl
  · split <;> rfl
theorem obj_congr {E : Env} {s u : St} {k : Key} {ver : Nat} (h : u.heap E k = s.heap E k) : u.obj E k ver = s.obj E k ver := by rw [obj_eq, obj_eq, h]
theorem evalO_congr {s u : St} (h : u.τ = s.τ) (x : Operand) : evalO u x = evalO s x := by cases x <;> simp only [evalO, h]
theorem evalOs_congr {s u : St} (h : u.τ = s.τ) : ∀ x : List Operand, evalOs u x = evalOs s x
  | [] => rfl
  | x :: r => by simp only [evalOs, evalO_congr h, evalOs_congr h r]
theorem evalPs_congr {s u : St} (h : u.τ = s.τ) : ∀ x : List (Nat × Operand), evalPs u x = evalPs s x
  | [] => rfl
  | (j, x) :: r => by simp only [evalPs, evalO_congr h, evalPs_congr h r]
mutual
theorem frz_congr {E : Env} {s u : St} : ∀ v : V, (∀ k ∈ refs v, u.heap E k = s.heap E k) → frz E u v = frz E s v
  | .agg cs, h => by simp only [frz]; rw [frzs_congr (E := E) (s := s) (u := u) cs (by simpa [refs] using h)]
  | .fn f a b, h => by
    simp only [refs, List.mem_append] at h
    simp only [frz]; rw [frzs_congr (E := E) (s := s) (u := u) a fun k hk => h k (.inl hk), frzs_congr (E := E) (s := s) (u := u) b fun k hk => h k (.inr hk)]
  | .iface t v, h => by simp only [frz]; rw [frz_congr (E := E) (s := s) (u := u) v (by simpa [refs] using h)]
  | .ref k ver off len, h => by simp only [frz, obj_congr (h k (by simp [refs]))]
  | .ptr k ver i off, h => by simp only [frz, obj_congr (h k (by simp [refs]))]
  | .mref .., _ => rfl
  | .tup _, _ => rfl
  | .own .., _ => rfl
  | .junk, _ => rfl
  | .int .., _ => rfl
  | .bool _, _ => rfl
  | .str _, _ => rfl
  | .lst _, _ => rfl
  | .iptr _, _ => rfl
  | .lmap _, _ => rfl
  | .nilS, _ => rfl
  | .nilP, _ => rfl
  | .nilI, _ => rfl
  | .nilF, _ => rfl
  | .nilM, _ => rfl
theorem frzs_congr {E : Env} {s u : St} : ∀ v : List V, (∀ k ∈ refsL v, u.heap E k = s.heap E k) → frzs E u v = frzs E s v
  | [], _ => rfl
  | v :: r, h => by
    simp only [refsL, List.mem_append] at h
    simp only [frzs]; rw [frz_congr (E := E) (s := s) (u := u) v fun k hk => h k (.inl hk), frzs_congr (E := E) (s := s) (u := u) r fun k hk => h k (.inr hk)]
end
mutual
theorem frz_norefs {E : Env} {s u : St} : ∀ v : V, refs v = [] → frz E u v = frz E s v
  | .agg cs, h => by simp only [frz]; rw [frzs_norefs (E := E) (s := s) (u := u) cs (by simpa [refs] using h)]
  | .fn f a b, h => by
    simp only [refs, List.append_eq_nil_iff] at h
    simp only [frz]; rw [frzs_norefs (E := E) (s := s) (u := u) a h.1, frzs_norefs (E := E) (s := s) (u := u) b h.2]
  | .iface t v, h => by simp only [frz]; rw [frz_norefs (E := E) (s := s) (u := u) v (by simpa [refs] using h)]
  | .ref .., h => by simp [refs] at h
  | .ptr .., h => by simp [refs] at h
  | .mref .., h => by simp [refs] at h
  | .tup _, _ => rfl
  | .own .., _ => rfl
  | .junk, _ => rfl
  | .int .., _ => rfl
  | .bool _, _ => rfl
  | .str _, _ => rfl
  | .lst _, _ => rfl
  | .iptr _, _ => rfl
  | .lmap _, _ => rfl
  | .nilS, _ => rfl
  | .nilP, _ => rfl
  | .nilI, _ => rfl
  | .nilF, _ => rfl
  | .nilM, _ => rfl
theorem frzs_norefs {E : Env} {s u : St} : ∀ v : List V, refsL v = [] → frzs E u v = frzs E s v
  | [], _ => rfl
  | v :: r, h => by
    simp only [refsL, List.append_eq_nil_iff] at h
    simp only [frzs]; rw [frz_norefs (E := E) (s := s) (u := u) v h.1, frzs_norefs (E := E) (s := s) (u := u) r h.2]
end
theorem appendV_shape {E : Env} {d : Nat} {t : TypeId} {x y : V} {s s1 : St} {v : V} (h : appendV E d t x y s = some (v, s1)) :
    ∃ es sz, (x = .nilS ∧ (v, s1) = newArr E d sz es s) ∨ ∃ k ver off len, x = .ref k ver off len ∧ (v, s1) = newArr E d sz es (s.del E k) := by
  unfold appendV at h
  split at h
  · cases h
  · split at h
    · cases h
    · split at h
      · split at h
        · injection h with h; exact ⟨_, _, .inl ⟨rfl, h.symm⟩⟩
        · cases h
      · split at h
        · split at h
          · injection h with h; exact ⟨_, _, .inr ⟨_, _, _, _, rfl, h.symm⟩⟩
          · cases h
        · cases h
      · cases h
theorem aop_append {call : CallFn} {E : Env} {Cx : FuncId → Option (List V → Option V)} {d : Nat} {c : Call} {s s1 : St} {v : V} (hc : c.callee = .builtin .append) (h : aop call E Cx d (.call c) s = some (.val v s1)) :
    ∃ t t2 r x y, c.argTypes.toList = t :: t2 :: r ∧ c.args.toList = [x, y] ∧ rowT E.P t2 = true ∧ appendV E d t (evalO s x) (evalO s y) s = some (v, s1) := by
  simp only [aop, hc] at h
  generalize hts : c.argTypes.toList = ts at h
  generalize hcl : c.args.toList = l at h
  match ts, l, h with
  | t :: t2 :: r, [a, b], h =>
    simp only [evalOs, builtinV] at h
    split at h
    · rename_i hr
      simp only [Option.map_eq_some_iff] at h
      obtain ⟨q, hq, he⟩ := h
      injection he with e1 e2
      exact ⟨t, t2, r, a, b, rfl, rfl, hr, by rw [hq, ← e1, ← e2]⟩
    · cases h
  | [], _, h => simp [builtinV] at h
  | [_], _, h => simp [builtinV] at h
  | _ :: _ :: _, [], h => simp [builtinV, evalOs] at h
  | _ :: _ :: _, [_], h => simp [builtinV, evalOs] at h
  | _ :: _ :: _, _ :: _ :: _ :: _, h => simp [builtinV, evalOs] at h
theorem dels_other {E : Env} {k : Key} : ∀ (l : List Key) (s : St), k ∉ l → (St.dels E l s).heap E k = s.heap E k
  | [], _, _ => rfl
  | q :: r, s, h => by
    simp only [List.mem_cons, not_or] at h
    simp only [St.dels]
    rw [dels_other r _ h.2, del_other h.1]
theorem dels_lc {E : Env} : ∀ (l : List Key) (s : St), (St.dels E l s).c = s.c
  | [], _ => rfl
  | q :: r, s => by simp only [St.dels]; rw [dels_lc r]; exact del_lc.2
theorem dels_same {E : Env} {k : Key} : ∀ (l : List Key) (s u : St), u.heap E k = s.heap E k → (St.dels E l u).heap E k = (St.dels E l s).heap E k
  | [], _, _, h => h
  | q :: r, s, u, h => by
    simp only [St.dels]
    refine dels_same r _ _ ?_
    by_cases hq : q.lvl ≤ E.lvl
    · rw [heap_del hq, heap_del hq]; dsimp only; rw [h]
    · by_cases e : k = q
      · subst e
        have hn : ∀ x : St, x.heap E k = none := fun x => by
          cases hx : x.heap E k with
          | none => rfl
          | some p => exact absurd (heap_lvl hx) hq
        rw [hn, hn]
      · rw [del_other e, del_other e, h]
theorem callS_spec {E : Env} {call : CallFn} {Cx : FuncId → Option (List V → Option V)} {f : V} {args : List V} {s s1 : St} {v : V} (h : callS call E Cx f args s = some (.val v s1)) :
    ∃ ks : List Key, (∀ k ∈ ks, k ∈ refs f ++ refsL args) ∧ s1 = St.dels E ks s ∧ ∀ u : St, (∀ k ∈ refs f ++ refsL args, u.heap E k = s.heap E k) → callS call E Cx f args u = some (.val v (St.dels E ks u)) := by
  have app : ∀ a b : List V, refsL (a ++ b) = refsL a ++ refsL b := fun a b => by induction a with | nil => rfl | cons x r ih => simp only [List.cons_append, refsL, ih, List.append_assoc]
  unfold callS at h
  split at h
  case h_2 => cases h
  rename_i g first caps
  have sub : ∀ k ∈ refsL (first ++ args ++ caps), k ∈ refs (.fn (.func g) first caps) ++ refsL args := fun k hk => by
    rw [app, app] at hk
    simp only [List.mem_append, refs] at hk ⊢
    rcases hk with (h | h) | h
    · exact .inl (.inl h)
    · exact .inr h
    · exact .inl (.inr h)
  split at h
  case isFalse => cases h
  rename_i hok
  have fz : ∀ u : St, (∀ k ∈ refs (.fn (.func g) first caps) ++ refsL args, u.heap E k = s.heap E k) → frzs E u (first ++ args ++ caps) = frzs E s (first ++ args ++ caps) := fun u hu => frzs_congr _ fun k hk => hu k (sub k hk)
  split at h
  case h_2 => cases h
  rename_i pargs hp
  split at h
  case h_2 => cases h
  rename_i w ho
  split at h
  case isFalse => cases h
  rename_i hc
  injection h with h
  injection h with h1 h2
  refine ⟨if shares w then refsL (first ++ args ++ caps) else [], fun k hk => ?_, ?_, fun u hu => ?_⟩
  · split at hk
    · exact sub k hk
    · cases hk
  · rw [← h2]; split <;> rfl
  · unfold callS
    dsimp only
    rw [if_pos hok, fz u hu, hp]
    dsimp only
    rw [ho]
    dsimp only
    rw [if_pos hc, ← h1]
    congr 2
    split <;> rfl
theorem touch_sound0 {E : Env} {call : CallFn} {Cx : FuncId → Option (List V → Option V)} {o : Oper} {s s1 : St} {v : V} {X : List Key} (hn : ∀ c f, o.op = .call c → c.callee ≠ .value f) (h : aop call E Cx (o.dst.getD E.n) o.op s = some (.val v s1)) (ht : touchOk E o s X = true) :
    ∀ k, k ∉ X → s1.heap E k = s.heap E k := by
  intro k hk
  have mk : ∀ {es sz}, X.contains (⟨E.lvl, o.dst.getD E.n, 0⟩ : Key) = true → (newArr E (o.dst.getD E.n) sz es s).2.heap E k = s.heap E k := fun {es sz} hX => by
    show (s.put E ⟨E.lvl, o.dst.getD E.n, 0⟩ s.c (.arr sz es)).heap E k = _
    refine put_other ?_
    rintro rfl
    exact hk (by simpa using hX)
  have mv : ∀ {cs}, X.contains (⟨E.lvl, o.dst.getD E.n, 0⟩ : Key) = true → refsL cs = [] → (newVarV E (o.dst.getD E.n) cs s).2.heap E k = s.heap E k := fun {cs} hX hr => by
    unfold newVarV
    rw [settleL_none 0 cs s hr]
    show (s.put E ⟨E.lvl, o.dst.getD E.n, 0⟩ s.c (.var cs)).heap E k = _
    refine put_other ?_
    rintro rfl
    exact hk (by simpa using hX)
  generalize hop : o.op = op at h
  unfold touchOk at ht
  rw [hop] at ht
  split at ht
  · rename_i t p x
    simp only [Bool.and_eq_true, List.isEmpty_iff] at ht
    obtain ⟨ht1, ht2⟩ := ht
    simp only [aop, Option.map_eq_some_iff] at h
    obtain ⟨s', hs', hv⟩ := h
    injection hv with _ hv
    subst hv
    split at ht1
    · rename_i kk ver i off hp
      rw [hp] at hs'
      unfold storeAt at hs'
      split at hs'
      case isFalse => cases hs'
      dsimp only at hs'
      have hkk : k ≠ kk := by rintro rfl; exact hk (by simpa using ht1)
      split at hs'
      · rw [settleL_none _ _ _ ht2] at hs'
        dsimp only at hs'
        split at hs'
        · split at hs'
          · injection hs' with hs'
            subst hs'
            exact put_other hkk
          · cases hs'
        · cases hs'
      · split at hs'
        · rw [ht2] at hs'
          simp only [St.dels] at hs'
          split at hs'
          · split at hs'
            · simp only [Option.map_eq_some_iff] at hs'
              obtain ⟨e', _, hs'⟩ := hs'
              subst hs'
              exact put_other hkk
            · cases hs'
          · cases hs'
        · cases hs'
      · cases hs'
    · cases ht1
  · rename_i x
    simp only [aop, Option.map_eq_some_iff] at h
    obtain ⟨q, hq, hv⟩ := h
    injection hv with hv1 hv
    subst hv
    unfold assignTo at hq
    split at ht
    · cases ht
    · cases ht
    · cases ht
    · rename_i hx
      rw [hx] at hq
      by_cases hf : E.frz.contains (o.dst.getD E.n) = true
      · rw [if_pos hf] at hq
        injection hq with hq
        subst hq
        rfl
      · rw [if_neg hf] at hq
        simp only [Bool.or_eq_true, Bool.not_eq_true'] at ht
        have hp := ht.resolve_left hf
        dsimp only at hq
        rw [if_neg (by rw [hp]; simp)] at hq
        injection hq with hq
        subst hq
        rfl
    · rename_i h1 h2 h4 h3
      split at hq
      · split at hq
        · rename_i hx; exact absurd hx (h1 _ _ _ _)
        · rename_i hx; exact absurd hx (h2 _)
        · injection hq with hq; subst hq; rfl
      · split at hq
        · rename_i hx; exact absurd hx (h1 _ _ _ _)
        · rename_i hx; exact absurd hx (h4 _ _)
        · rename_i hx; exact absurd hx (h2 _)
        · rename_i hx; exact absurd hx h3
        · injection hq with hq; subst hq; rfl
  · simp only [aop] at h
    split at h
    · rename_i z hz
      split at h
      · rename_i hl
        injection h with h
        injection h with _ h
        subst h
        obtain ⟨i, c, h1, h2, rfl⟩ := zeroT_some hz
        exact mv ht (refs_zero c)
      · cases h
    · cases h
  · rename_i t x
    simp only [Bool.and_eq_true, List.isEmpty_iff, Bool.not_eq_true'] at ht
    simp only [aop, boxV, ht.1.1, Bool.false_eq_true, if_false] at h
    split at h
    · injection h with h
      injection h with _ h
      subst h
      exact mv ht.1.2 ht.2
    · cases h
  · rename_i t n ps
    simp only [Bool.and_eq_true, List.all_eq_true] at ht
    simp only [aop] at h
    split at h
    · split at h
      · split at h
        · simp only [Option.map_eq_some_iff] at h
          obtain ⟨es, _, h⟩ := h
          injection h with _ h
          subst h
          have hk2 : k ∉ refsL (evalOs s (ps.toList.map (·.2))) := fun hk2 => hk (by simpa using ht.2 k hk2)
          refine Eq.trans (put_other ?_) (dels_other _ s hk2)
          rintro rfl
          exact hk (by simpa using ht.1)
        · cases h
      · cases h
    · cases h
  · simp only [aop] at h
    split at h
    · split at h
      · split at h
        · injection h with h
          injection h with _ h
          subst h
          exact mk ht
        · cases h
      · cases h
    · cases h
  · rename_i c
    split at ht
    · rename_i hc
      simp only [Bool.and_eq_true, List.all_eq_true] at ht
      obtain ⟨t', t2, r, x, y, _, hargs, _, ha⟩ := aop_append hc h
      obtain ⟨es, sz, ⟨_, hn⟩ | ⟨k', ver, off, len, hx, hn⟩⟩ := appendV_shape ha
      · injection hn with _ hn
        subst hn
        exact mk ht.1
      · injection hn with _ hn
        subst hn
        have hk' : k ≠ k' := by
          rintro rfl
          have := ht.2 k (by rw [hargs]; simp [evalOs, refsL, hx, refs])
          exact hk (by simpa using this)
        show ((s.del E k').put E ⟨E.lvl, o.dst.getD E.n, 0⟩ (s.del E k').c (.arr sz es)).heap E k = _
        rw [put_other, del_other hk']
        rintro rfl
        exact hk (by simpa using ht.1)
    · rename_i f hc; exact absurd hc (hn c f hop)
    · cases ht
  · cases ht
def Ren (E : Env) (X : List Key) (c c' : Nat) (v : V) (s1 : St) (v' : V) (u1 : St) : Prop :=
  (v' = v ∧ s1.c = c ∧ u1.c = c' ∧ ∀ k ∈ X, u1.heap E k = s1.heap E k) ∨
  ∃ k0 ob, k0 ∈ X ∧ k0.lvl ≤ E.lvl ∧ s1.c = c + 1 ∧ u1.c = c' + 1 ∧ s1.heap E k0 = some (c, ob) ∧ u1.heap E k0 = some (c', ob) ∧ (∀ k ∈ X, k ≠ k0 → u1.heap E k = s1.heap E k) ∧
    ((∃ n, v = .ref k0 c 0 n ∧ v' = .ref k0 c' 0 n) ∨ (v = .ptr k0 c 0 0 ∧ v' = .ptr k0 c' 0 0))
theorem ren_arr {E : Env} {X : List Key} {d sz : Nat} {es : List V} {a b : St} {c c' : Nat} (hd : X.contains (⟨E.lvl, d, 0⟩ : Key) = true) (ha : a.c = c) (hb : b.c = c') (h : ∀ k ∈ X, k ≠ ⟨E.lvl, d, 0⟩ → b.heap E k = a.heap E k) :
    Ren E X c c' (newArr E d sz es a).1 (newArr E d sz es a).2 (newArr E d sz es b).1 (newArr E d sz es b).2 := by
  subst ha; subst hb
  refine .inr ⟨⟨E.lvl, d, 0⟩, .arr sz es, by simpa using hd, Nat.le_refl _, rfl, rfl, ?_, ?_, fun k hk hne => ?_, .inl ⟨es.length, rfl, rfl⟩⟩
  · show (a.put E ⟨E.lvl, d, 0⟩ a.c (.arr sz es)).heap E _ = _
    rw [heap_put (Nat.le_refl _)]; simp
  · show (b.put E ⟨E.lvl, d, 0⟩ b.c (.arr sz es)).heap E _ = _
    rw [heap_put (Nat.le_refl _)]; simp
  · show (b.put E ⟨E.lvl, d, 0⟩ b.c (.arr sz es)).heap E k = (a.put E ⟨E.lvl, d, 0⟩ a.c (.arr sz es)).heap E k
    rw [put_other hne, put_other hne, h k hk hne]
theorem ren_var {E : Env} {X : List Key} {d : Nat} {cs : List V} {a b : St} {c c' : Nat} (hd : X.contains (⟨E.lvl, d, 0⟩ : Key) = true) (hr : refsL cs = []) (ha : a.c = c) (hb : b.c = c') (h : ∀ k ∈ X, k ≠ ⟨E.lvl, d, 0⟩ → b.heap E k = a.heap E k) :
    Ren E X c c' (newVarV E d cs a).1 (newVarV E d cs a).2 (newVarV E d cs b).1 (newVarV E d cs b).2 := by
  subst ha; subst hb
  unfold newVarV
  rw [settleL_none 0 cs a hr, settleL_none 0 cs b hr]
  refine .inr ⟨⟨E.lvl, d, 0⟩, .var cs, by simpa using hd, Nat.le_refl _, rfl, rfl, ?_, ?_, fun k hk hne => ?_, .inr ⟨rfl, rfl⟩⟩
  · show (a.put E ⟨E.lvl, d, 0⟩ a.c (.var cs)).heap E _ = _
    rw [heap_put (Nat.le_refl _)]; simp
  · show (b.put E ⟨E.lvl, d, 0⟩ b.c (.var cs)).heap E _ = _
    rw [heap_put (Nat.le_refl _)]; simp
  · show (b.put E ⟨E.lvl, d, 0⟩ b.c (.var cs)).heap E k = (a.put E ⟨E.lvl, d, 0⟩ a.c (.var cs)).heap E k
    rw [put_other hne, put_other hne, h k hk hne]
theorem touch_local0 {E : Env} {call : CallFn} {Cx : FuncId → Option (List V → Option V)} {o : Oper} {s s1 u : St} {v : V} {X : List Key} (hn : ∀ c f, o.op = .call c → c.callee ≠ .value f) (h : aop call E Cx (o.dst.getD E.n) o.op s = some (.val v s1)) (ht : touchOk E o s X = true)
    (hτ : u.τ = s.τ) (hX : ∀ k ∈ X, u.heap E k = s.heap E k) : ∃ v' u1, aop call E Cx (o.dst.getD E.n) o.op u = some (.val v' u1) ∧ Ren E X s.c u.c v s1 v' u1 := by
  generalize hop : o.op = op at h ⊢
  unfold touchOk at ht
  rw [hop] at ht
  split at ht
  · rename_i t p x
    simp only [Bool.and_eq_true, List.isEmpty_iff] at ht
    obtain ⟨ht1, ht2⟩ := ht
    simp only [aop, evalO_congr hτ, Option.map_eq_some_iff] at h ⊢
    obtain ⟨s', hs', hv⟩ := h
    injection hv with hv1 hv
    subst hv1; subst hv
    split at ht1
    · rename_i kk ver i off hp
      have hkk : kk ∈ X := by simpa using ht1
      have ob : ∀ ver, u.obj E kk ver = s.obj E kk ver := fun ver => obj_congr (hX kk hkk)
      have fin : ∀ o', kk.lvl ≤ E.lvl → Ren E X s.c u.c .junk (s.put E kk ver o') .junk (u.put E kk ver o') := fun o' hl => .inl ⟨rfl, put_lc.2, put_lc.2, fun k hk => by rw [heap_put hl, heap_put hl]; dsimp only; rw [hX k hk]⟩
      have lv : ∀ {o'}, s.obj E kk ver = some o' → kk.lvl ≤ E.lvl := fun h => heap_lvl (obj_heap h)
      rw [hp] at hs' ⊢
      unfold storeAt at hs' ⊢
      split at hs'
      case isFalse => cases hs'
      rename_i hcond
      rw [if_pos hcond]
      dsimp only at hs' ⊢
      rw [ob]
      split at hs'
      · rename_i cs0 hob
        simp only [settleL_none _ _ _ ht2, ob, hob] at hs' ⊢
        split at hs'
        · rename_i h2
          injection hs' with hs'
          subst hs'
          rw [if_pos h2]
          exact ⟨_, _, ⟨_, rfl, rfl⟩, fin _ (lv hob)⟩
        · cases hs'
      · rename_i sz0 es0 hob
        have hf : frzs E u (cellsV (evalO s x)) = frzs E s (cellsV (evalO s x)) := frzs_norefs _ ht2
        simp only [ht2, hf, St.dels, ob, hob] at hs' ⊢
        split at hs'
        · rename_i new hnew
          try simp only [hnew]
          split at hs'
          · rename_i e he
            simp only [he, Option.map_eq_some_iff] at hs' ⊢
            obtain ⟨e', he', hs'⟩ := hs'
            subst hs'
            exact ⟨_, _, ⟨_, ⟨e', he', rfl⟩, rfl⟩, fin _ (lv hob)⟩
          · cases hs'
        · cases hs'
      · cases hs'
    · cases ht1
  · rename_i x
    have same : ∀ w, assignTo E (o.dst.getD E.n) w s = some (v, s1) → (match w with | .ref .. | .agg _ | .mref .. => false | .nilS => E.frz.contains (o.dst.getD E.n) || !E.pro.contains (o.dst.getD E.n) | _ => true) = true → v = w ∧ s1 = s ∧ assignTo E (o.dst.getD E.n) w u = some (w, u) := fun w hw hk => by
      unfold assignTo at hw ⊢
      by_cases hf : E.frz.contains (o.dst.getD E.n) = true
      · rw [if_pos hf] at hw ⊢
        cases w <;> first | (cases hk; done) | (injection hw with hw; injection hw with h1 h2; subst h1; subst h2; exact ⟨rfl, rfl, rfl⟩)
      · rw [if_neg hf] at hw ⊢
        cases w <;> first | (cases hk; done) | skip
        case nilS =>
          simp only [Bool.or_eq_true, Bool.not_eq_true'] at hk
          have hp := hk.resolve_left hf
          dsimp only at hw ⊢
          rw [if_neg (by rw [hp]; simp)] at hw ⊢
          injection hw with hw; injection hw with h1 h2; subst h1; subst h2; exact ⟨rfl, rfl, rfl⟩
        all_goals (injection hw with hw; injection hw with h1 h2; subst h1; subst h2; exact ⟨rfl, rfl, rfl⟩)
    simp only [aop, evalO_congr hτ, Option.map_eq_some_iff] at h ⊢
    obtain ⟨q, hq, hv⟩ := h
    injection hv with hv1 hv
    subst hv1; subst hv
    obtain ⟨h1, h2, h3⟩ := same _ hq ht
    exact ⟨_, _, ⟨_, h3, rfl⟩, .inl ⟨h1.symm, by rw [h2], rfl, fun k hk => by rw [h2]; exact hX k hk⟩⟩
  · simp only [aop] at h ⊢
    split at h
    · rename_i z hz
      split at h
      · rename_i hl
        injection h with h
        injection h with h1 h
        subst h1; subst h
        try rw [hz]
        try dsimp only
        rw [if_pos hl]
        obtain ⟨i, c, g1, g2, rfl⟩ := zeroT_some hz
        exact ⟨_, _, rfl, ren_var ht (refs_zero c) rfl rfl fun k hk _ => hX k hk⟩
      · cases h
    · cases h
  · rename_i t x
    simp only [Bool.and_eq_true, List.isEmpty_iff, Bool.not_eq_true'] at ht
    simp only [aop, evalO_congr hτ, boxV, ht.1.1, Bool.false_eq_true, if_false] at h ⊢
    split at h
    · rename_i hl
      injection h with h
      injection h with h1 h
      subst h1; subst h
      rw [if_pos hl]
      exact ⟨_, _, rfl, ren_var ht.1.2 ht.2 rfl rfl fun k hk _ => hX k hk⟩
    · cases h
  · rename_i t n ps
    simp only [Bool.and_eq_true, List.all_eq_true] at ht
    have hf : frzs E u (evalOs s (ps.toList.map (·.2))) = frzs E s (evalOs s (ps.toList.map (·.2))) := frzs_congr _ fun k hk => hX k (by simpa using ht.2 k hk)
    simp only [aop, evalOs_congr hτ, evalPs_congr hτ, hf] at h ⊢
    split at h
    · rename_i e he
      try rw [he]
      try dsimp only
      split at h
      · rename_i z qs hz hq
        try rw [hz, hq]
        try dsimp only
        split at h
        · rename_i hc
          rw [if_pos hc]
          simp only [Option.map_eq_some_iff] at h ⊢
          obtain ⟨es, hes, h⟩ := h
          injection h with h1 h
          subst h1; subst h
          exact ⟨_, _, ⟨es, hes, rfl⟩, ren_arr ht.1 (dels_lc _ _) (dels_lc _ _) fun k hk _ => dels_same _ _ _ (hX k hk)⟩
        · cases h
      · cases h
    · cases h
  · simp only [aop, evalO_congr hτ] at h ⊢
    split at h
    · rename_i e he
      try rw [he]
      try dsimp only
      split at h
      · rename_i z k1 n1 k2 n2 hz h1 h2
        try rw [hz, h1, h2]
        try dsimp only
        split at h
        · rename_i hc
          rw [if_pos hc]
          injection h with h
          injection h with g1 h
          subst g1; subst h
          exact ⟨_, _, rfl, ren_arr ht rfl rfl fun k hk _ => hX k hk⟩
        · cases h
      · cases h
    · cases h
  · rename_i c
    split at ht
    · rename_i hc
      simp only [Bool.and_eq_true, List.all_eq_true] at ht
      obtain ⟨t', t2, r, x, y, hts, hargs, hrow, ha⟩ := aop_append hc h
      have hr : ∀ k ∈ refs (evalO s x) ++ refs (evalO s y), k ∈ X := fun k hk => by
        have := ht.2 k (by rw [hargs]; simpa [evalOs, refsL] using hk)
        simpa using this
      have he : elems E u (evalO s y) = elems E s (evalO s y) := by
        generalize evalO s y = w at hr
        cases w <;> first | rfl | skip
        simp only [elems]
        rw [obj_congr (hX _ (hr _ (by simp [refs])))]
      have hu : ∃ v' u1, appendV E (o.dst.getD E.n) t' (evalO s x) (evalO s y) u = some (v', u1) ∧ Ren E X s.c u.c v s1 v' u1 := by
        unfold appendV at ha ⊢
        try rw [he]
        split at ha
        · cases ha
        rename_i e hel
        try rw [hel]
        try dsimp only
        split at ha
        · cases ha
        rename_i new hnew
        try rw [hnew]
        try dsimp only
        split at ha
        · rename_i hx
          try rw [hx]
          try dsimp only
          split at ha
          · rename_i hc2
            rw [if_pos hc2]
            injection ha with ha
            have e1 := congrArg Prod.fst ha
            have e2 := congrArg Prod.snd ha
            dsimp only at e1 e2
            subst e1; subst e2
            exact ⟨_, _, rfl, ren_arr ht.1 rfl rfl fun k hk _ => hX k hk⟩
          · cases ha
        · rename_i kk ver off len hx
          rw [hx] at hr; try rw [hx]
          try dsimp only
          have hkk : kk ∈ X := hr kk (by simp [refs])
          rw [obj_congr (hX kk hkk)]
          split at ha
          · rename_i sz es hob
            try rw [hob]
            try dsimp only
            split at ha
            · rename_i hc2
              rw [if_pos hc2]
              injection ha with ha
              have e1 := congrArg Prod.fst ha
              have e2 := congrArg Prod.snd ha
              dsimp only at e1 e2
              subst e1; subst e2
              refine ⟨_, _, rfl, ren_arr ht.1 del_lc.2 del_lc.2 fun k hk _ => ?_⟩
              have hl : kk.lvl ≤ E.lvl := heap_lvl (obj_heap hob)
              rw [heap_del hl, heap_del hl]
              try dsimp only
              rw [hX k hk]
            · cases ha
          · cases ha
        · cases ha
      obtain ⟨v', u1, hu1, hren⟩ := hu
      refine ⟨v', u1, ?_, hren⟩
      simp only [aop, hc, hts, hargs, evalOs, builtinV, evalO_congr hτ, hrow, if_true, hu1, Option.map_some]
    · rename_i f hc; exact absurd hc (hn c f hop)
    · cases ht
  · cases ht
theorem dop_not {call : CallFn} {E : Env} {Cx : FuncId → Option (List V → Option V)} {d : Nat} {op : Op} {s : St} (hn : ∀ c f, op = .call c → c.callee ≠ .value f) : dop call E Cx d op s = aop call E Cx d op s := by
  unfold dop
  split
  · rename_i c
    split
    · rename_i f hc; exact absurd hc (hn c f rfl)
    · rfl
  · rfl
theorem touch_val {E : Env} {o : Oper} {s : St} {X : List Key} {c : Call} {f : Operand} (hop : o.op = .call c) (hc : c.callee = .value f) (ht : touchOk E o s X = true) : impCall E (.call c) = false ∧ ∀ k ∈ refs (evalO s f) ++ refsL (evalOs s c.args.toList), k ∈ X := by
  unfold touchOk at ht
  rw [hop] at ht
  dsimp only at ht
  rw [hc] at ht
  dsimp only at ht
  simp only [Bool.and_eq_true, Bool.not_eq_true', List.all_eq_true] at ht
  exact ⟨ht.1, fun k hk => by simpa using ht.2 k hk⟩
theorem touch_sound {E : Env} {call : CallFn} {Cx : FuncId → Option (List V → Option V)} {o : Oper} {s s1 : St} {v : V} {X : List Key} (h : dop call E Cx (o.dst.getD E.n) o.op s = some (.val v s1)) (ht : touchOk E o s X = true) :
    ∀ k, k ∉ X → s1.heap E k = s.heap E k := by
  by_cases hn : ∀ c f, o.op = .call c → c.callee ≠ .value f
  · rw [dop_not hn] at h
    exact touch_sound0 hn h ht
  · obtain ⟨c, f, hop, hc⟩ : ∃ c f, o.op = .call c ∧ c.callee = .value f := Classical.byContradiction fun h' => hn fun c f h1 h2 => h' ⟨c, f, h1, h2⟩
    obtain ⟨hi, hX⟩ := touch_val hop hc ht
    rw [hop] at h
    simp only [dop, hc, hi, Bool.false_eq_true, if_false] at h
    obtain ⟨ks, h1, h2, _⟩ := callS_spec h
    intro k hk
    rw [h2, dels_other ks s fun hks => hk (hX k (h1 k hks))]
theorem touch_local {E : Env} {call : CallFn} {Cx : FuncId → Option (List V → Option V)} {o : Oper} {s s1 u : St} {v : V} {X : List Key} (h : dop call E Cx (o.dst.getD E.n) o.op s = some (.val v s1)) (ht : touchOk E o s X = true)
    (hτ : u.τ = s.τ) (hX : ∀ k ∈ X, u.heap E k = s.heap E k) : ∃ v' u1, dop call E Cx (o.dst.getD E.n) o.op u = some (.val v' u1) ∧ Ren E X s.c u.c v s1 v' u1 := by
  by_cases hn : ∀ c f, o.op = .call c → c.callee ≠ .value f
  · rw [dop_not hn] at h ⊢
    exact touch_local0 hn h ht hτ hX
  · obtain ⟨c, f, hop, hc⟩ : ∃ c f, o.op = .call c ∧ c.callee = .value f := Classical.byContradiction fun h' => hn fun c f h1 h2 => h' ⟨c, f, h1, h2⟩
    obtain ⟨hi, hXr⟩ := touch_val hop hc ht
    rw [hop] at h ⊢
    simp only [dop, hc, hi, Bool.false_eq_true, if_false, evalO_congr hτ, evalOs_congr hτ] at h ⊢
    obtain ⟨ks, h1, h2, h3⟩ := callS_spec h
    refine ⟨v, St.dels E ks u, h3 u fun k hk => hX k (hXr k hk), .inl ⟨rfl, by rw [h2, dels_lc], dels_lc _ _, fun k hk => ?_⟩⟩
    rw [h2]
    exact dels_same ks s u (hX k hk)
theorem touchOk_congr {E : Env} {o : Oper} {s u : St} {X : List Key} (h : u.τ = s.τ) : touchOk E o u X = touchOk E o s X := by
  unfold touchOk
  split <;> simp only [evalO_congr h, evalOs_congr h]
theorem ite_some {c : Prop} [Decidable c] {α : Type} {x : Option α} {y : α} (h : (if c then x else none) = some y) : c ∧ x = some y := by
  split at h
  · exact ⟨by assumption, h⟩
  · cases h
section
variable (call : CallFn) (E : Env) (Cx : FuncId → Option (List V → Option V)) (ops : Array Oper) (T : List (List Nat)) (acts : List Nat)
structure DStep (i : Nat) (o : Oper) (s s' : St) : Prop where
  static : staticOk E ops T acts o i = true
  step : (wantedV ops (focus s (Oper.looksAt ops o)) o.guard = some false ∧ setD E o.dst (.tup []) s = some s') ∨
    (wantedV ops (focus s (Oper.looksAt ops o)) o.guard = some true ∧ acts.contains i = true ∧ ∃ v s1, dop call E Cx (o.dst.getD E.n) o.op (aState (infOf E ops T acts i) (focus s (Oper.looksAt ops o))) = some (.val v s1) ∧ (aState (infOf E ops T acts i) s).c ≤ s1.c ∧
      (watched ops T i = true → ∀ X, estAt E ops i = some X → touchOk E o (focus s (Oper.looksAt ops o)) X = true) ∧ setD E o.dst v { s1 with τ := s.τ } = some s') ∨
    (wantedV ops (focus s (Oper.looksAt ops o)) o.guard = some true ∧ acts.contains i = false ∧ ∃ v, qop call E Cx (o.dst.getD E.n) o.op (qState E (gatherK (estAt E ops) (apartL T acts i)) (focus s (Oper.looksAt ops o))) = some v ∧ setD E o.dst v s = some s')
theorem drawOps_chain : ∀ (l : List Oper) (i : Nat) (I : List Inf) (s s' : St), infs E ops T acts l i = some I → drawOps call E Cx ops l I s = some s' →
    ∃ σ : Nat → St, σ i = s ∧ σ (i + l.length) = s' ∧ ∀ j o, l[j]? = some o → DStep call E Cx ops T acts (i + j) o (σ (i + j)) (σ (i + j + 1))
  | [], i, I, s, s', hI, h => by
    simp only [drawOps] at h
    injection h with h
    subst h
    exact ⟨fun _ => s, rfl, rfl, fun j o hj => by cases hj⟩
  | o :: r, i, I, s, s', hI, h => by
    unfold infs at hI
    obtain ⟨hst, hI⟩ := ite_some hI
    simp only [Option.map_eq_some_iff] at hI
    obtain ⟨I', hI', rfl⟩ := hI
    simp only [drawOps] at h
    have key : ∀ s2, DStep call E Cx ops T acts i o s s2 → drawOps call E Cx ops r I' s2 = some s' →
        ∃ σ : Nat → St, σ i = s ∧ σ (i + (o :: r).length) = s' ∧ ∀ j o', (o :: r)[j]? = some o' → DStep call E Cx ops T acts (i + j) o' (σ (i + j)) (σ (i + j + 1)) := fun s2 hd hr => by
      obtain ⟨σ, h1, h2, h4⟩ := drawOps_chain r (i + 1) I' s2 s' hI' hr
      refine ⟨fun m => if m = i then s else σ m, by simp, ?_, fun j o' hj => ?_⟩
      · simp only [List.length_cons]
        rw [if_neg (by omega), show i + (r.length + 1) = i + 1 + r.length by omega]
        exact h2
      · cases j with
        | zero =>
          simp only [List.getElem?_cons_zero, Option.some.injEq] at hj
          subst hj
          simp only [Nat.add_zero, if_true]
          rw [if_neg (by omega), h1]
          exact hd
        | succ j =>
          simp only [List.getElem?_cons_succ] at hj
          have := h4 j o' hj
          dsimp only
          rw [if_neg (by omega), if_neg (by omega), show i + (j + 1) = i + 1 + j by omega]
          exact this
    split at h
    · cases h
    · rename_i hw
      cases hd : setD E o.dst (.tup []) s with
      | none => rw [hd] at h; cases h
      | some s2 =>
        rw [hd] at h
        exact key s2 ⟨hst, .inl ⟨hw, hd⟩⟩ h
    · rename_i hw
      split at h
      · rename_i ha
        have ha : acts.contains i = true := ha
        split at h
        · rename_i v s1 hop
          obtain ⟨hc, h⟩ := ite_some h
          cases hd : setD E o.dst v { s1 with τ := s.τ } with
          | none => rw [hd] at h; cases h
          | some s2 =>
            rw [hd] at h
            simp only [Bool.and_eq_true, decide_eq_true_eq] at hc
            refine key s2 ⟨hst, .inr (.inl ⟨hw, ha, v, s1, hop, hc.1, fun hwt X hX => ?_, hd⟩)⟩ h
            have h5 := hc.2
            simp only [infOf, ha, hwt, Bool.and_self, if_true, hX] at h5
            exact h5
        · cases h
      · rename_i ha
        have ha : acts.contains i = false := by simpa [infOf] using ha
        split at h
        · rename_i v hq
          cases hd : setD E o.dst v s with
          | none => rw [hd] at h; cases h
          | some s2 =>
            rw [hd] at h
            simp only [infOf, ha, Bool.false_eq_true, if_false] at hq
            exact key s2 ⟨hst, .inr (.inr ⟨hw, ha, v, hq, hd⟩)⟩ h
        · cases h
end
theorem tget_fget (τ : List (Nat × V)) : ∀ (ts : List Nat) (t : Nat), tget (fget τ ts) t = if t ∈ ts then tget τ t else .junk
  | [], t => rfl
  | u :: r, t => by
    simp only [fget, tget, List.mem_cons]
    by_cases h : t = u
    · subst h; simp
    · rw [if_neg h, tget_fget τ r t]
      simp [h]
theorem setD_tau {E : Env} {dst : Option Tmp} {v : V} {s s' : St} (h : setD E dst v s = some s') : (∀ t, dst ≠ some t → tget s'.τ t = tget s.τ t) ∧ ∀ d, dst = some d → d < E.n ∧ tget s'.τ d = v := by
  unfold setD at h
  cases dst with
  | none => injection h with h; subst h; exact ⟨fun _ _ => rfl, fun d hd => by cases hd⟩
  | some d =>
    dsimp only at h
    split at h
    · rename_i hd
      injection h with h
      subst h
      refine ⟨fun t ht => ?_, fun d' hd' => ?_⟩
      · dsimp only
        rw [tget_tset, if_neg]
        rintro rfl
        exact ht rfl
      · injection hd' with hd'
        subst hd'
        exact ⟨hd, by dsimp only; rw [tget_tset, if_pos rfl]⟩
    · cases h
section
variable {call : CallFn} {E : Env} {Cx : FuncId → Option (List V → Option V)} {ops : Array Oper} {T : List (List Nat)} {acts : List Nat} {i : Nat} {o : Oper} {s s' : St}
theorem focus_heap {ts} : (focus s ts).heap E = s.heap E := rfl
theorem aState_heap {q} : (aState q s).heap E = s.heap E := rfl
theorem aState_le {q} : s.c ≤ (aState q s).c := by unfold aState; dsimp only; split <;> omega
theorem DStep.still (d : DStep call E Cx ops T acts i o s s') (h : acts.contains i = false) : s'.heap E = s.heap E ∧ s'.c = s.c := by
  rcases d.step with ⟨_, h1⟩ | ⟨_, h1, _⟩ | ⟨_, _, v, _, h1⟩
  · exact setD_heap h1
  · rw [h] at h1; cases h1
  · exact setD_heap h1
theorem DStep.cnt (d : DStep call E Cx ops T acts i o s s') : s.c ≤ s'.c := by
  rcases d.step with ⟨_, h1⟩ | ⟨_, _, v, s1, _, hc, _, h1⟩ | ⟨_, _, v, _, h1⟩
  · rw [(setD_heap h1).2]; exact Nat.le_refl _
  · rw [(setD_heap h1).2]; exact Nat.le_trans aState_le hc
  · rw [(setD_heap h1).2]; exact Nat.le_refl _
theorem DStep.tau (d : DStep call E Cx ops T acts i o s s') {t : Nat} (h : o.dst ≠ some t) : tget s'.τ t = tget s.τ t := by
  rcases d.step with ⟨_, h1⟩ | ⟨_, _, v, s1, _, hc, _, h1⟩ | ⟨_, _, v, _, h1⟩
  · exact (setD_tau h1).1 t h
  · exact (setD_tau h1).1 t h
  · exact (setD_tau h1).1 t h
theorem DStep.touch (d : DStep call E Cx ops T acts i o s s') (hw : watched ops T i = true) {X} (hX : estAt E ops i = some X) {k : Key} (hk : k ∉ X) : s'.heap E k = s.heap E k := by
  rcases d.step with ⟨_, h1⟩ | ⟨_, _, v, s1, hop, hc, ht, h1⟩ | ⟨_, _, v, _, h1⟩
  · rw [(setD_heap h1).1]
  · rw [(setD_heap h1).1]
    have := touch_sound hop ((touchOk_congr (u := aState (infOf E ops T acts i) (focus s (Oper.looksAt ops o))) (s := focus s (Oper.looksAt ops o)) rfl).trans (ht hw X hX)) k hk
    exact this
  · rw [(setD_heap h1).1]
structure StaticOk (E : Env) (ops : Array Oper) (T : List (List Nat)) (acts : List Nat) (o : Oper) (i : Nat) : Prop where
  looks : ∀ t ∈ Oper.looksAt ops o, ∀ j, j < ops.size → someDst ops j = some t → j ∈ T.getD i [] ∨ i ∈ T.getD j []
  once : ∀ d, o.dst = some d → ∀ j, j < ops.size → j ≠ i → someDst ops j ≠ some d
  edges : ∀ e ∈ o.after, Region.binds .any e = true → e.on < i
  actors : acts.contains i = true → ∀ p ∈ apartL T acts i, ∃ X Y, estAt E ops i = some X ∧ estAt E ops p = some Y ∧ ∀ k ∈ X, k ∉ Y
theorem staticOk_spec (h : staticOk E ops T acts o i = true) : StaticOk E ops T acts o i := by
  unfold staticOk at h
  simp only [Bool.and_eq_true] at h
  obtain ⟨⟨⟨h1, h2⟩, h3⟩, h4⟩ := h
  refine ⟨fun t ht j hj hd => ?_, fun d hd j hj hne hc => ?_, fun e he hb => ?_, fun ha p hp => ?_⟩
  · have := List.all_eq_true.1 (List.all_eq_true.1 h1 t ht) j (List.mem_range.2 hj)
    rw [hd] at this
    simpa using this
  · rw [hd] at h2
    simp only [Option.isNone_some, Bool.false_or] at h2
    have := List.all_eq_true.1 h2 j (List.mem_range.2 hj)
    rw [hc] at this
    simp [hne] at this
  · have := List.all_eq_true.1 h3 e (by simpa using he)
    rw [hb] at this
    simpa using this
  · rw [ha] at h4
    simp only [Bool.not_true, Bool.false_or] at h4
    have := List.all_eq_true.1 h4 p hp
    unfold okPair at this
    split at this
    · rename_i X Y hX hY
      exact ⟨X, Y, hX, hY, fun k hk hkY => by
        have := List.all_eq_true.1 this k hk
        simp [hkY] at this⟩
    · cases this
theorem actorsOf_lt {E : Env} {ops : List Oper} : ∀ (l : List Oper) (i p : Nat), p ∈ actorsOf E ops l i → p < i + l.length
  | [], i, p, h => by cases h
  | o :: r, i, p, h => by
    unfold actorsOf at h
    split at h
    · rcases List.mem_cons.1 h with h | h
      · subst h; simp
      · have := actorsOf_lt r (i + 1) p h; simp; omega
    · have := actorsOf_lt r (i + 1) p h; simp; omega
theorem apartL_mem {p : Nat} : p ∈ apartL T acts i ↔ acts.contains p = true ∧ p ≠ i ∧ p ∉ T.getD i [] ∧ i ∉ T.getD p [] := by
  unfold apartL apartI
  simp only [List.mem_filter, Bool.and_eq_true, bne_iff_ne, ne_eq, Bool.not_eq_true', List.contains_eq_mem, decide_eq_false_iff_not, decide_eq_true_eq]
theorem watched_of {p : Nat} (hi : i < ops.size) (hne : i ≠ p) (h1 : p ∉ T.getD i []) (h2 : i ∉ T.getD p []) : watched ops T p = true := by
  unfold watched
  rw [List.any_eq_true]
  refine ⟨i, List.mem_range.2 hi, ?_⟩
  unfold apartI
  simp only [hne, ne_eq, not_false_eq_true, bne_iff_ne, Bool.and_eq_true, Bool.not_eq_true', List.contains_eq_mem, decide_eq_false_iff_not, true_and]
  exact ⟨h1, h2⟩
theorem DStep.grow (d : DStep call E Cx ops T acts i o s s') (hf : (infOf E ops T acts i).free = true) (hw : watched ops T i = true) {X} (hX : estAt E ops i = some X) : s'.c ≤ s.c + 1 := by
  rcases d.step with ⟨_, h1⟩ | ⟨_, _, v, s1, hop, hc, ht, h1⟩ | ⟨_, _, v, _, h1⟩
  · rw [(setD_heap h1).2]; omega
  · rw [(setD_heap h1).2]
    have ht' := ht hw X hX
    obtain ⟨v', u1, _, hr⟩ := touch_local (u := aState (infOf E ops T acts i) (focus s (Oper.looksAt ops o))) hop ((touchOk_congr (u := aState (infOf E ops T acts i) (focus s (Oper.looksAt ops o))) (s := focus s (Oper.looksAt ops o)) rfl).trans ht') rfl (fun _ _ => rfl)
    have e : (aState (infOf E ops T acts i) (focus s (Oper.looksAt ops o))).c = s.c := by unfold aState; rw [hf]; rfl
    rw [e] at hr
    show s1.c ≤ _
    rcases hr with ⟨_, h2, _⟩ | ⟨_, _, _, _, h2, _⟩ <;> omega
  · rw [(setD_heap h1).2]; omega
end
theorem evalO_c {s : St} {n : Nat} {x : Operand} : evalO { s with c := n } x = evalO s x := evalO_congr (u := { s with c := n }) (s := s) rfl x
theorem evalOs_c {s : St} {n : Nat} {x : List Operand} : evalOs { s with c := n } x = evalOs s x := evalOs_congr (u := { s with c := n }) (s := s) rfl x
theorem evalPs_c {s : St} {n : Nat} {x : List (Nat × Operand)} : evalPs { s with c := n } x = evalPs s x := evalPs_congr (u := { s with c := n }) (s := s) rfl x
theorem obj_c {E : Env} {s : St} {n : Nat} {k : Key} {v : Nat} : St.obj E { s with c := n } k v = St.obj E s k v := rfl
mutual
theorem frz_c {E : Env} {s : St} {n : Nat} : ∀ v : V, frz E { s with c := n } v = frz E s v
  | .agg cs => by simp only [frz]; rw [frzs_c cs]
  | .fn f a b => by simp only [frz]; rw [frzs_c a, frzs_c b]
  | .iface t v => by simp only [frz]; rw [frz_c v]
  | .ref .. => rfl
  | .ptr .. => rfl
  | .mref .. => rfl
  | .tup _ => rfl
  | .own .. => rfl
  | .junk => rfl
  | .int .. => rfl
  | .bool _ => rfl
  | .str _ => rfl
  | .lst _ => rfl
  | .iptr _ => rfl
  | .lmap _ => rfl
  | .nilS => rfl
  | .nilP => rfl
  | .nilI => rfl
  | .nilF => rfl
  | .nilM => rfl
theorem frzs_c {E : Env} {s : St} {n : Nat} : ∀ v : List V, frzs E { s with c := n } v = frzs E s v
  | [] => rfl
  | v :: r => by simp only [frzs]; rw [frz_c v, frzs_c r]
end
def resVal : Option Res → Option V
  | some (.val v _) => some v
  | _ => none
theorem resVal_valOf {s : St} {o : Option V} : resVal (valOf s o) = o := by cases o <;> rfl
theorem cells_c {E : Env} {s : St} {n : Nat} {v : V} : cellsAt E { s with c := n } v = cellsAt E s v := by cases v <;> rfl
theorem lookup_c {E : Env} {s : St} {n : Nat} {t m k ok} : mapGet E t m k ok { s with c := n } = mapGet E t m k ok s := by unfold mapGet; rfl
theorem mapLen_c {E : Env} {s : St} {n : Nat} {m} : mapLen E m { s with c := n } = mapLen E m s := by unfold mapLen; rfl
theorem slice_c {E : Env} {s : St} {n : Nat} {t x lo hi} : sliceA E t x lo hi { s with c := n } = sliceA E t x lo hi s := by unfold sliceA; rfl
theorem convB_c {E : Env} {s : St} {n : Nat} {a b y} : convB E a b y { s with c := n } = convB E a b y s := by unfold convB; simp only [frz_c]
theorem aop_c {call : CallFn} {E : Env} {Cx : FuncId → Option (List V → Option V)} {d : Nat} {op : Op} {s : St} {n : Nat} (h : ∀ c, op ≠ .call c) (hq : quietK op = true) : resVal (aop call E Cx d op { s with c := n }) = resVal (aop call E Cx d op s) := by
  have hl : ∀ x : Option Operand, x.map (evalO { s with c := n }) = x.map (evalO s) := fun x => by cases x <;> simp only [Option.map, evalO_c]
  cases op <;> first | (simp [quietK] at hq; done) | (exact absurd rfl (h _)) | skip
  case slice t x lo hi mx =>
    cases mx with
    | some m => simp [quietK] at hq
    | none => simp only [aop, evalO_c, resVal_valOf, slice_c, hl]
  all_goals simp only [aop, evalO_c, evalOs_c, evalPs_c, resVal_valOf, cells_c, lookup_c, slice_c, convB_c, hl, obj_c]
  all_goals try rfl
  all_goals (repeat' split) <;> first | rfl | simp only [resVal_valOf]
theorem qop_c {call : CallFn} {E : Env} {Cx : FuncId → Option (List V → Option V)} {d : Nat} {op : Op} {s : St} {n : Nat} : qop call E Cx d op { s with c := n } = qop call E Cx d op s := by
  have main : ∀ s, (∀ c, op ≠ .call c) → qop call E Cx d op s = if quietK op = true then resVal (aop call E Cx d op s) else none := fun s h => by
    cases op <;> first | rfl | exact absurd rfl (h _)
  by_cases h : ∀ c, op ≠ .call c
  · rw [main _ h, main _ h]
    by_cases hq : quietK op = true
    · rw [if_pos hq, if_pos hq, aop_c h hq]
    · rw [if_neg hq, if_neg hq]
  · obtain ⟨c, rfl⟩ : ∃ c, op = .call c := Classical.byContradiction fun h' => h fun c e => h' ⟨c, e⟩
    simp only [qop]
    cases hc : c.callee with
    | value f => simp only [evalO_c, evalOs_c, callQ, frzs_c]
    | invoke => rfl
    | builtin b =>
      cases b <;> try rfl
      all_goals
        show resVal (aop call E Cx d (.call c) { s with c := n }) = resVal (aop call E Cx d (.call c) s)
        simp only [aop, hc, evalOs_c]
        unfold builtinV
        simp only [mapLen_c]
        (repeat' split) <;> first | rfl | simp only [resVal_valOf] | (cases lenV _ <;> rfl) | contradiction | (cases mapLen .. <;> rfl)
end Go.Vi
namespace Go.Vi
open Go
theorem qop_nodefer {call : CallFn} {E : Env} {Cx : FuncId → Option (List V → Option V)} {d : Nat} {op : Op} {s : St} {v : V} (h : qop call E Cx d op s = some v) : ∀ c, op ≠ .defer c := by
  rintro c rfl
  simp [qop, quietK] at h
theorem dop_nodefer {call : CallFn} {E : Env} {Cx : FuncId → Option (List V → Option V)} {d : Nat} {op : Op} {s : St} {r : Res} (h : dop call E Cx d op s = some r) : ∀ c, op ≠ .defer c := by
  rintro c rfl
  exact aop_nodefer (show aop call E Cx d (.defer c) s = some r from h) c rfl
theorem gatherK_mem {f : Nat → Option (List Key)} : ∀ {l : List Nat} {X : List Key}, gatherK f l = some X → ∀ p ∈ l, ∃ Y, f p = some Y ∧ ∀ k ∈ Y, k ∈ X
  | [], X, h, p, hp => by cases hp
  | q :: r, X, h, p, hp => by
    unfold gatherK at h
    split at h
    · rename_i a b ha hb
      injection h with h
      subst h
      rcases List.mem_cons.1 hp with e | e
      · subst e; exact ⟨a, ha, fun k hk => by simp [hk]⟩
      · obtain ⟨Y, h1, h2⟩ := gatherK_mem hb p e
        exact ⟨Y, h1, fun k hk => by simp [h2 k hk]⟩
    · cases h
theorem dels_sub {E : Env} : ∀ (X : List Key) (s : St) k p, (St.dels E X s).heap E k = some p → s.heap E k = some p ∧ k ∉ X
  | [], s, k, p, h => ⟨h, by simp⟩
  | q :: r, s, k, p, h => by
    obtain ⟨h1, h2⟩ := dels_sub r (s.del E q) k p h
    have h3 : s.heap E k = some p ∧ k ≠ q := by
      by_cases hq : q.lvl ≤ E.lvl
      · rw [heap_del hq] at h1
        dsimp only at h1
        split at h1
        · cases h1
        · rename_i hne; exact ⟨h1, hne⟩
      · have hl := heap_lvl h1
        have hne : k ≠ q := by rintro rfl; omega
        refine ⟨?_, hne⟩
        have e : s.del E q = { s with O := fun r => if r = q then none else s.O r } := by
          unfold St.del
          rw [if_neg (by omega)]
        rw [e] at h1
        unfold St.heap heapOf at h1 ⊢
        dsimp only at h1
        rw [if_neg hne] at h1
        exact h1
    exact ⟨h3.1, by simp [h3.2, h2]⟩
section
variable {call : CallFn} {E : Env} {Cx : FuncId → Option (List V → Option V)} {ops : Array Oper} {acts : List Nat} {s0 : St} {σ : Nat → St}
structure Chain (call : CallFn) (E : Env) (Cx : FuncId → Option (List V → Option V)) (ops : Array Oper) (acts : List Nat) (s0 : St) (σ : Nat → St) : Prop where
  start : σ 0 = s0
  step : ∀ j o, ops[j]? = some o → DStep call E Cx ops (ancTab ops.toList []) acts j o (σ j) (σ (j + 1))
  few : ops.size ≤ 4096
  acts : ∀ p ∈ acts, p < ops.size
theorem Chain.at_ (h : Chain call E Cx ops acts s0 σ) {j : Nat} (hj : j < ops.size) : ∃ o, ops[j]? = some o ∧ DStep call E Cx ops (ancTab ops.toList []) acts j o (σ j) (σ (j + 1)) ∧ StaticOk E ops (ancTab ops.toList []) acts o j := by
  have e : ops[j]? = some ops[j] := Array.getElem?_eq_getElem hj
  exact ⟨_, e, h.step j _ e, staticOk_spec (h.step j _ e).static⟩
theorem Chain.mono (h : Chain call E Cx ops acts s0 σ) : ∀ {i j : Nat}, i ≤ j → j ≤ ops.size → (σ i).c ≤ (σ j).c := by
  intro i j hij
  induction hij with
  | refl => intro _; exact Nat.le_refl _
  | @step m hm ih =>
    intro hle
    obtain ⟨o, _, hd, _⟩ := h.at_ (j := m) (by omega)
    exact Nat.le_trans (ih (by omega)) hd.cnt
def FreeK (E : Env) (ops : Array Oper) (p : Nat) (k : Key) : Prop := watched ops (ancTab ops.toList []) p = true ∧ ∃ X, estAt E ops p = some X ∧ k ∉ X
theorem Chain.thin (h : Chain call E Cx ops acts s0 σ) {k : Key} : ∀ {i j : Nat}, i ≤ j → j ≤ ops.size → (∀ p, i ≤ p → p < j → acts.contains p = true → FreeK E ops p k) →
    (σ j).heap E k = (σ i).heap E k := by
  intro i j hij
  induction hij with
  | refl => intro _ _; rfl
  | @step m hm ih =>
    intro hle hp
    obtain ⟨o, _, hd, _⟩ := h.at_ (j := m) (by omega)
    have g1 := ih (by omega) (fun p h1 h2 => hp p h1 (by omega))
    cases ha : acts.contains m with
    | false => rw [(hd.still ha).1]; exact g1
    | true =>
      obtain ⟨hw, X, hX, hk⟩ := hp m hm (by omega) ha
      exact (hd.touch hw hX hk).trans g1
theorem Chain.tau (h : Chain call E Cx ops acts s0 σ) {t : Nat} : ∀ {i j : Nat}, i ≤ j → j ≤ ops.size → (∀ p, i ≤ p → p < j → someDst ops p ≠ some t) → tget (σ j).τ t = tget (σ i).τ t := by
  intro i j hij
  induction hij with
  | refl => intro _ _; rfl
  | @step m hm ih =>
    intro hle hp
    obtain ⟨o, ho, hd, _⟩ := h.at_ (j := m) (by omega)
    have g1 := ih (by omega) (fun p h1 h2 => hp p h1 (by omega))
    have := hp m hm (by omega)
    unfold someDst at this
    rw [ho] at this
    exact (hd.tau this).trans g1
theorem Chain.lt (h : Chain call E Cx ops acts s0 σ) : ∀ i, ∀ j ∈ (ancTab ops.toList []).getD i [], j < i :=
  ancTab_lt ops.toList [] (fun j => by simp) (fun j o ho e he hb => (staticOk_spec (h.step j o ho).static).edges e he hb) (fun i j hj => by simp at hj)
theorem Chain.tab {listed : Array Bool} (hc : ClosedL ops listed) : TabOk ops listed (ancTab ops.toList []) :=
  ancTab_ok hc ops.toList [] (fun j => by simp) (fun i o _ _ j hj => by simp at hj)
abbrev freeA (E : Env) (ops : Array Oper) (acts : List Nat) (i : Nat) : Bool := (infOf E ops (ancTab ops.toList []) acts i).free
theorem freeA_iff {E : Env} {ops : Array Oper} {acts : List Nat} {i : Nat} : freeA E ops acts i = true ↔ acts.contains i = true ∧ apartL (ancTab ops.toList []) acts i ≠ [] := by
  simp only [freeA, infOf, Bool.and_eq_true, Bool.not_eq_true', List.isEmpty_eq_false_iff]
theorem Chain.free_spec (h : Chain call E Cx ops acts s0 σ) {i : Nat} (hi : i < ops.size) (hf : freeA E ops acts i = true) : watched ops (ancTab ops.toList []) i = true ∧ ∃ X, estAt E ops i = some X := by
  obtain ⟨ha, hne⟩ := freeA_iff.1 hf
  obtain ⟨p, hp⟩ := List.exists_mem_of_ne_nil _ hne
  obtain ⟨o, ho, _, hst⟩ := h.at_ hi
  obtain ⟨X, Y, hX, _, _⟩ := hst.actors ha p hp
  obtain ⟨h1, h2, h3, h4⟩ := apartL_mem.1 hp
  exact ⟨watched_of (h.acts p (by simpa using h1)) h2 h4 h3, X, hX⟩
theorem Chain.seg (h : Chain call E Cx ops acts s0 σ) {b : Nat} : ∀ {i : Nat}, b ≤ i → i ≤ ops.size → (∀ p, b ≤ p → p < i → acts.contains p = true → freeA E ops acts p = true) → (σ i).c ≤ (σ b).c + (i - b) := by
  intro i hbi
  induction hbi with
  | refl => intro _ _; omega
  | @step m hm ih =>
    intro hle hp
    obtain ⟨o, _, hd, _⟩ := h.at_ (j := m) (by omega)
    have g1 := ih (by omega) (fun p h1 h2 => hp p h1 (by omega))
    have hm' : b ≤ m := hm
    show (σ (m + 1)).c ≤ (σ b).c + (m + 1 - b)
    cases ha : acts.contains m with
    | false => rw [(hd.still ha).2]; omega
    | true =>
      have hf := hp m hm (by omega) ha
      obtain ⟨hw, X, hX⟩ := h.free_spec (by omega) hf
      have := hd.grow hf hw hX
      omega
theorem Chain.jump (h : Chain call E Cx ops acts s0 σ) {b : Nat} : ∀ {i : Nat}, b ≤ i → i ≤ ops.size → (σ i).c ≤ (σ b).c + (i - b) ∨ (σ b).c + (slack + slack) ≤ (σ i).c := by
  intro i hbi
  induction hbi with
  | refl => intro _; exact .inl (by omega)
  | @step m hm ih =>
    intro hle
    obtain ⟨o, _, hd, _⟩ := h.at_ (j := m) (by omega)
    have hm' : b ≤ m := hm
    show (σ (m + 1)).c ≤ (σ b).c + (m + 1 - b) ∨ _ ≤ (σ (m + 1)).c
    have hcnt := hd.cnt
    rcases ih (by omega) with g1 | g1
    · have hbm := h.mono (i := b) (j := m) hm' (by omega)
      rcases hd.step with ⟨_, h1⟩ | ⟨_, ha, v, s1, hop, hc, _, h1⟩ | ⟨_, ha, v, _, h1⟩
      · left; rw [(setD_heap h1).2]; omega
      · cases hf : freeA E ops acts m with
        | true =>
          obtain ⟨hw, X, hX⟩ := h.free_spec (by omega) hf
          have := hd.grow hf hw hX
          left; omega
        | false =>
          right
          have e : (aState (infOf E ops (ancTab ops.toList []) acts m) (σ m)).c = (σ m).c + (slack + slack) := by
            unfold aState; rw [show (infOf E ops (ancTab ops.toList []) acts m).free = false from hf]; rfl
          rw [(setD_heap h1).2]
          rw [e] at hc
          show _ ≤ s1.c
          omega
      · left; rw [(setD_heap h1).2]; omega
    · right; omega
theorem HR.alias {w A β c H} {k0 : Key} {v1 v0 : Nat} {ob : Obj} (h : HR w A β c H) (hk : H k0 = some (v1, ob)) (hn : β k0 v0 = none) (hv : v0 < c) :
    HR w A (fun k v => if k = k0 ∧ v = v0 then β k0 v1 else β k v) c (fun q => if q = k0 then some (v0, ob) else H q) ∧ (∀ k v i, β k v = some i → (if k = k0 ∧ v = v0 then β k0 v1 else β k v) = some i) ∧
    ∀ b, Mt (fun q => if q = k0 then some (v0, ob) else H q) (fun k v => if k = k0 ∧ v = v0 then β k0 v1 else β k v) b → Mt H β b := by
  have mono : ∀ k v i, β k v = some i → (if k = k0 ∧ v = v0 then β k0 v1 else β k v) = some i := fun k v i hi => by
    rw [if_neg]
    · exact hi
    · rintro ⟨rfl, rfl⟩; rw [hn] at hi; cases hi
  have back : ∀ k v o i, (if k = k0 then some (v0, ob) else H k) = some (v, o) → (if k = k0 ∧ v = v0 then β k0 v1 else β k v) = some i → ∃ v', H k = some (v', o) ∧ β k v' = some i := fun k v o i h1 h2 => by
    by_cases e : k = k0
    · subst e
      rw [if_pos rfl] at h1
      injection h1 with h1
      injection h1 with e1 e2
      subst e1; subst e2
      rw [if_pos ⟨rfl, rfl⟩] at h2
      exact ⟨v1, hk, h2⟩
    · rw [if_neg e] at h1
      rw [if_neg (fun h => e h.1)] at h2
      exact ⟨v, h1, h2⟩
  have mt : ∀ b, Mt (fun q => if q = k0 then some (v0, ob) else H q) (fun k v => if k = k0 ∧ v = v0 then β k0 v1 else β k v) b → Mt H β b := fun b ⟨k, v, o, i, h1, h2, h3⟩ => by
    obtain ⟨v', g1, g2⟩ := back k v o i h1 h2
    exact ⟨k, v', o, i, g1, g2, h3⟩
  refine ⟨⟨fun k v o h1 => ?_, fun k k' v v' o o' i i' b h1 h2 h3 h4 h5 h6 => ?_, fun b hb => ⟨(h.imm b hb).1, fun hm => (h.imm b hb).2 (mt b hm)⟩, fun k v hle => ?_, h.laid⟩, mono, mt⟩
  · have key : ∃ v', H k = some (v', o) ∧ (if k = k0 ∧ v = v0 then β k0 v1 else β k v) = β k v' := by
      by_cases e : k = k0
      · subst e
        rw [if_pos rfl] at h1
        injection h1 with h1
        injection h1 with e1 e2
        subst e1; subst e2
        exact ⟨v1, hk, if_pos ⟨rfl, rfl⟩⟩
      · rw [if_neg e] at h1
        exact ⟨v, h1, if_neg (fun h => e h.1)⟩
    obtain ⟨v', g1, g2⟩ := key
    obtain ⟨i, g3, g4⟩ := h.obj k v' o g1
    exact ⟨i, by rw [← g3]; exact g2, g4.mono (fun _ h => h) (fun _ _ => rfl) mono (fun _ _ => rfl)⟩
  · obtain ⟨u, g1, g2⟩ := back k v o i h1 h3
    obtain ⟨u', g3, g4⟩ := back k' v' o' i' h2 h4
    exact h.sep k k' u u' o o' i i' b g1 g3 g2 g4 h5 h6
  · rw [if_neg (fun h => by omega)]
    exact h.fresh k v hle
theorem HR.up {w A β c c' H} (h : HR w A β c H) (hc : c ≤ c') : HR w A β c' H := ⟨h.obj, h.sep, h.imm, fun k v hv => h.fresh k v (by omega), h.laid⟩
theorem Tr.weak {w A β c H w' A' β' c' H' d d'} (h : Tr w A β c H w' A' β' c' H') (h1 : d ≤ c) (h2 : d ≤ d') : Tr w A β d H w' A' β' d' H' := ⟨h.size, h.os, h.tape, h.output, h.old, fun k v hv => h.beta k v (by omega), h2, h.imm, h.newA, h.newM⟩
theorem Tr.then {w A β c H w1 A1 β1 c1 H1 w2 A2 β2 c2 H2} (h : Tr w A β c H w1 A1 β1 c1 H1) (k : Tr w1 A1 β1 c H1 w2 A2 β2 c2 H2) : Tr w A β c H w2 A2 β2 c2 H2 where
  size := Nat.le_trans h.size k.size
  os := k.os.trans h.os
  tape := k.tape.trans h.tape
  output := k.output.trans h.output
  old b hb hm := by
    have h1 := h.old b hb hm
    refine (k.old b (Nat.lt_of_lt_of_le hb h.size) fun hm1 => ?_).trans h1
    rcases h.newM b hm1 with h2 | h2
    · exact hm h2
    · omega
  beta a v hv := (k.beta a v hv).trans (h.beta a v hv)
  cnt := k.cnt
  imm b hb := k.imm b (h.imm b hb)
  newA b hb := by
    rcases k.newA b hb with h1 | h1 | h1
    · exact h.newA b h1
    · rcases h.newM b h1 with h2 | h2
      · exact .inr (.inl h2)
      · exact .inr (.inr h2)
    · exact .inr (.inr (Nat.le_trans h.size h1))
  newM b hb := by
    rcases k.newM b hb with h1 | h1
    · exact h.newM b h1
    · exact .inr (Nat.le_trans h.size h1)
structure DInv (E : Env) (ops : Array Oper) (acts : List Nat) (s0 : St) (σ : Nat → St) (w0 : World) (A0 : Nat → Prop) (β0 : Beta) (fuel : Nat) (listed : Array Bool) (a : Act) (w : World) (A : Nat → Prop) (β : Beta) (f : St) (C b : Nat) (un : List Nat) (a0 : Act) : Prop where
  size : listed.size = ops.size
  closed : ClosedL ops listed
  nodup : un.Nodup
  len : un.length ≤ fuel
  unle : un.length ≤ ops.size
  done : ∀ j, j < ops.size → j ∉ un → listed.getD j false = true
  fheap : ∀ k i, i ≤ ops.size → (∀ p, p < ops.size → acts.contains p = true → ¬ FreeK E ops p k → (listed.getD p false = true ↔ p < i)) → f.heap E k = (σ i).heap E k
  free : ∀ p, p < ops.size → freeA E ops acts p = true → listed.getD p false = false → (σ p).c < (σ (p + 1)).c → ∀ k, β k (σ p).c = none
  ble : b ≤ ops.size
  base : ∀ p, p < ops.size → acts.contains p = true → freeA E ops acts p = false → (listed.getD p false = true ↔ p < b)
  base2 : b = 0 ∨ (acts.contains (b - 1) = true ∧ freeA E ops acts (b - 1) = false)
  low : (σ b).c + slack ≤ C
  high : C + un.length ≤ (σ b).c + slack + ops.size
  tr : Tr w0 A0 β0 s0.c (s0.heap E) w A β C (f.heap E)
  hr : HR w A β C (f.heap E)
  tmps : a.tmps.size = E.n
  defers : MarksOk w A a.defers
  same : a.defers = a0.defers
  val : ∀ t, (∀ j, j < ops.size → someDst ops j = some t → listed.getD j false = true) → IC w A β (tget (σ ops.size).τ t) (a.tmps.getD t undef)
  old : ∀ t, (∀ j, j < ops.size → someDst ops j = some t → listed.getD j false = false) → IC w A β (tget (σ 0).τ t) (a.tmps.getD t undef)
theorem getD_tf {l : Array Bool} {j : Nat} (hj : j < l.size) : l.getD j true = l.getD j false := by
  simp [hj]
theorem put_get {a : Act} {dst : Option Tmp} {c : Value} {t : Nat} (h : dst ≠ some t) : (a.put dst c).tmps.getD t undef = a.tmps.getD t undef := by
  cases dst with
  | none => rfl
  | some d =>
    simp only [Act.put]
    rw [Array.getD_eq_getD_getElem?, Array.getElem?_setIfInBounds_ne (by rintro rfl; exact h rfl), ← Array.getD_eq_getD_getElem?]
theorem put_self {a : Act} {d : Nat} {c : Value} (h : d < a.tmps.size) : (a.put (some d) c).tmps.getD d undef = c := by
  simp only [Act.put]
  rw [Array.getD_eq_getD_getElem?, Array.getElem?_setIfInBounds_self_of_lt h]
  rfl
theorem put_size {a : Act} {dst : Option Tmp} {c : Value} : (a.put dst c).tmps.size = a.tmps.size ∧ (a.put dst c).defers = a.defers := by
  cases dst <;> simp [Act.put]
theorem rep_false (m j : Nat) : (Array.replicate m false).getD j false = false := by
  rcases Nat.lt_or_ge j m with h | h
  · simp [h]
  · simp [h]
theorem Chain.anyOrder (a0 : Act) (ro : Option Nat) (n : Nat) (hch : Chain call E Cx ops acts s0 σ) (hcall : SoundCall E.P call) (hhand : SoundHand E.P Cx) (hG : ∀ g ∈ E.ok, GoodF E.P g) {w0 : World} {A0 : Nat → Prop} {β0 : Beta} {Q : Exit → Act → World → Prop}
    (hQ : ∀ a' w' A' β', Tr w0 A0 β0 s0.c (s0.heap E) w' A' β' ((σ ops.size).c + (slack + slack)) ((σ ops.size).heap E) → SR E w' A' β' { σ ops.size with c := (σ ops.size).c + (slack + slack) } a' → a'.defers = a0.defers → Q .normal a' w') :
    ∀ (fuel : Nat) (listed : Array Bool) (a : Act) (w : World) (A : Nat → Prop) (β : Beta) (f : St) (C b : Nat) (un : List Nat), DInv E ops acts s0 σ w0 A0 β0 fuel listed a w A β f C b un a0 → wpAnyIn (Fi ro) n E.P .any ops Q fuel listed a w := by
  have hfew := hch.few
  have hsl : slack = 4096 := rfl
  have fin : ∀ fuel listed a w A β f C b un, DInv E ops acts s0 σ w0 A0 β0 fuel listed a w A β f C b un a0 → (∀ j, j < ops.size → listed.getD j false = true) → Q .normal a w := by
    intro fuel listed a w A β f C b un inv hall
    have hs : f.heap E = (σ ops.size).heap E := funext fun k => inv.fheap k ops.size (Nat.le_refl _) fun p hp _ _ => ⟨fun _ => hp, fun _ => hall p hp⟩
    have hC : C ≤ (σ ops.size).c + (slack + slack) := by
      have := inv.high
      have := hch.mono (i := b) (j := ops.size) inv.ble (Nat.le_refl _)
      omega
    have h0 := hch.mono (i := 0) (j := ops.size) (Nat.zero_le _) (Nat.le_refl _)
    rw [hch.start] at h0
    refine hQ a w A β ?_ ⟨fun t => inv.val t (fun j hj _ => hall j hj), inv.tmps, ?_, inv.defers⟩ inv.same
    · rw [← hs]; exact inv.tr.weak (Nat.le_refl _) (by omega)
    · show HR w A β _ ((σ ops.size).heap E)
      rw [← hs]; exact inv.hr.up hC
  intro fuel
  induction fuel with
  | zero =>
    intro listed a w A β f C b un inv
    have hun : un = [] := List.eq_nil_of_length_eq_zero (by have := inv.len; omega)
    have hall : ∀ j, j < ops.size → listed.getD j false = true := fun j hj => inv.done j hj (by rw [hun]; simp)
    refine ⟨?_, fin _ _ _ _ _ _ _ _ _ _ inv hall⟩
    rw [List.eq_nil_iff_forall_not_mem]
    intro i hi
    obtain ⟨h1, o, ho, _⟩ := mem_ready.1 hi
    have hlt : i < ops.size := by
      rcases Nat.lt_or_ge i ops.size with h | h
      · exact h
      · rw [Array.getElem?_eq_none h] at ho; cases ho
    rw [getD_tf (by rw [inv.size]; exact hlt), hall i hlt] at h1
    cases h1
  | succ fuel ih =>
    intro listed a w A β f C b un inv
    refine ⟨fun hnil => fin _ _ _ _ _ _ _ _ _ _ inv ?_, fun i hi => ?_⟩
    · intro j
      induction j using Nat.strongRecOn with
      | _ j ihj =>
        intro hj
        cases hl : listed.getD j false with
        | true => rfl
        | false =>
          exfalso
          obtain ⟨o, ho, hd, hst⟩ := hch.at_ hj
          have : j ∈ Region.ready .any ops listed := mem_ready.2 ⟨by rw [getD_tf (by rw [inv.size]; exact hj)]; exact hl, o, ho, fun e he hb => ihj e.on (hst.edges e he hb) (Nat.lt_trans (hst.edges e he hb) hj)⟩
          rw [hnil] at this
          cases this
    obtain ⟨hun, o, ho, hafter⟩ := mem_ready.1 hi
    have hlt : i < ops.size := by
      rcases Nat.lt_or_ge i ops.size with h | h
      · exact h
      · rw [Array.getElem?_eq_none h] at ho; cases ho
    have hul : listed.getD i false = false := by rw [← getD_tf (by rw [inv.size]; exact hlt)]; exact hun
    have hd := hch.step i o ho
    have hst := staticOk_spec hd.static
    have tab := Chain.tab inv.closed
    have hanc : ∀ j ∈ (ancTab ops.toList []).getD i [], listed.getD j false = true := tab i o ho hafter
    have hdesc : ∀ p, p < ops.size → listed.getD p false = true → i ∉ (ancTab ops.toList []).getD p [] := fun p hp hlp hmem => by
      obtain ⟨op, hop, _, _⟩ := hch.at_ hp
      have := tab p op hop (fun e he hb => inv.closed p op hop hlp e he hb) i hmem
      rw [hul] at this
      cases this
    have s0le : s0.c ≤ (σ i).c := by have := hch.mono (i := 0) (j := i) (Nat.zero_le _) (by omega); rw [hch.start] at this; exact this
    have hval : ∀ t ∈ Oper.looksAt ops o, IC w A β (tget (σ i).τ t) (a.tmps.getD t undef) := fun t ht => by
      by_cases hw : ∃ j, j < ops.size ∧ someDst ops j = some t
      · obtain ⟨j, hj, hdj⟩ := hw
        obtain ⟨oj, hoj, _, hsj⟩ := hch.at_ hj
        have hdj' : oj.dst = some t := by unfold someDst at hdj; rw [hoj] at hdj; exact hdj
        have uniq : ∀ p, p < ops.size → someDst ops p = some t → p = j := fun p hp hd => by
          refine Classical.byContradiction fun hne => ?_
          exact hsj.once t hdj' p hp hne hd
        rcases hst.looks t ht j hj hdj with hb | hb
        · have hji : j < i := hch.lt i j hb
          have h1 := inv.val t (fun p hp hdp => by rw [uniq p hp hdp]; exact hanc j hb)
          have e := hch.tau (t := t) (i := i) (j := ops.size) (by omega) (Nat.le_refl _) (fun p h1 h2 hdp => by have := uniq p h2 hdp; omega)
          rw [← e]
          exact h1
        · have hij : i < j := hch.lt j i hb
          have hjl : listed.getD j false = false := by
            cases hl : listed.getD j false with
            | false => rfl
            | true => exact absurd hb (hdesc j hj hl)
          have h1 := inv.old t (fun p hp hdp => by rw [uniq p hp hdp]; exact hjl)
          have e := hch.tau (t := t) (i := 0) (j := i) (Nat.zero_le _) (by omega) (fun p h1 h2 hdp => by have := uniq p (by omega) hdp; omega)
          rw [e]
          exact h1
      · have h1 := inv.val t (fun j hj hdj => absurd ⟨j, hj, hdj⟩ hw)
        have e := hch.tau (t := t) (i := i) (j := ops.size) (by omega) (Nat.le_refl _) (fun p h1 h2 hp => hw ⟨p, h2, hp⟩)
        rw [← e]
        exact h1
    have hfoc : ∀ t, IC w A β (tget (focus (σ i) (Oper.looksAt ops o)).τ t) (a.tmps.getD t undef) := fun t => by
      show IC w A β (tget (fget (σ i).τ (Oper.looksAt ops o)) t) _
      rw [tget_fget]
      split
      · exact hval t (by assumption)
      · exact IC_junk
    have hsr : ∀ u : St, u.τ = (focus (σ i) (Oper.looksAt ops o)).τ → HR w A β u.c (u.heap E) → SR E w A β u a := fun u hu hh => ⟨fun t => by rw [hu]; exact hfoc t, inv.tmps, hh, inv.defers⟩
    have set_i : (listed.setIfInBounds i true).getD i false = true := by
      rw [Array.getD_eq_getD_getElem?, Array.getElem?_setIfInBounds_self_of_lt (by rw [inv.size]; exact hlt)]; rfl
    have set_ne : ∀ j, j ≠ i → (listed.setIfInBounds i true).getD j false = listed.getD j false := fun j hj => getD_set_ne false (Ne.symm hj)
    have hmem : i ∈ un := by
      by_cases h : i ∈ un
      · exact h
      · have := inv.done i hlt h; rw [hul] at this; cases this
    have hlen : (un.erase i).length + 1 = un.length := by
      rw [List.length_erase_of_mem hmem]
      have := List.length_pos_of_mem hmem
      omega
    have rel : ∀ p, p < ops.size → p ≠ i → (p < i ∧ listed.getD p false = true) ∨ (i < p ∧ listed.getD p false = false) ∨ (p ∉ (ancTab ops.toList []).getD i [] ∧ i ∉ (ancTab ops.toList []).getD p []) := fun p hp hne => by
      by_cases h1 : p ∈ (ancTab ops.toList []).getD i []
      · exact .inl ⟨hch.lt i p h1, hanc p h1⟩
      · by_cases h2 : i ∈ (ancTab ops.toList []).getD p []
        · refine .inr (.inl ⟨hch.lt p i h2, ?_⟩)
          cases hl : listed.getD p false with
          | false => rfl
          | true => exact absurd h2 (hdesc p hp hl)
        · exact .inr (.inr ⟨h1, h2⟩)
    have at_i : ∀ k, (∀ p, p < ops.size → acts.contains p = true → p ≠ i → p ∉ (ancTab ops.toList []).getD i [] → i ∉ (ancTab ops.toList []).getD p [] → FreeK E ops p k) → f.heap E k = (σ i).heap E k := fun k hk =>
      inv.fheap k i (by omega) fun p hp hpa hnf => by
        by_cases hne : p = i
        · subst hne; rw [hul]; exact ⟨fun h => (by cases h), fun h => (by omega)⟩
        · rcases rel p hp hne with ⟨h1, h2⟩ | ⟨h1, h2⟩ | ⟨h1, h2⟩
          · exact ⟨fun _ => h1, fun _ => h2⟩
          · rw [h2]; exact ⟨fun h => (by cases h), fun h => (by omega)⟩
          · exact absurd (hk p hp hpa hne h1 h2) hnf
    have next : ∀ (v : V) (cv : Value) (w' : World) (A' : Nat → Prop) (β' : Beta) (f' : St) (C' b' : Nat), Tr w A β s0.c (f.heap E) w' A' β' C' (f'.heap E) → (∀ k v i, β k v = some i → β' k v = some i) → HR w' A' β' C' (f'.heap E) → IC w' A' β' v cv →
        (∀ d, o.dst = some d → d < E.n ∧ tget (σ (i + 1)).τ d = v) →
        (acts.contains i = true → (∀ k, (∀ p, p < ops.size → acts.contains p = true → p ≠ i → p ∉ (ancTab ops.toList []).getD i [] → i ∉ (ancTab ops.toList []).getD p [] → FreeK E ops p k) → f'.heap E k = (σ (i + 1)).heap E k) ∧ ∀ k, FreeK E ops i k → f'.heap E k = f.heap E k) →
        (acts.contains i = false → f'.heap E = f.heap E) →
        (∀ p, p < ops.size → p ≠ i → freeA E ops acts p = true → listed.getD p false = false → (σ p).c < (σ (p + 1)).c → ∀ k, β' k (σ p).c = none) →
        ((b' = b ∧ (acts.contains i = true → freeA E ops acts i = true)) ∨ (b' = i + 1 ∧ acts.contains i = true ∧ freeA E ops acts i = false)) → (σ b').c + slack ≤ C' → C' + (un.erase i).length ≤ (σ b').c + slack + ops.size →
        wpAnyIn (Fi ro) n E.P .any ops Q fuel (listed.setIfInBounds i true) (a.put o.dst cv) w' := by
      intro v cv w' A' β' f' C' b' t hβ hr' hv hdst hheap hquiet hfree hb' hlow hhigh
      have carry : ∀ {x : V} {c : Value}, IC w A β x c → IC w' A' β' x c := fun {x c} h => IC.mono t.imm (fun b hb => sameC (t.old b (inv.hr.imm b hb).1 (inv.hr.imm b hb).2)) hβ x c h
      refine ih _ _ w' A' β' f' C' b' (un.erase i) ⟨by simp [inv.size], fun j oj hoj hlj e he hb => ?_, inv.nodup.erase i, by have := inv.len; omega, by have := inv.unle; omega, fun j hj hju => ?_, fun k j hj hat => ?_, fun p hp hpf hpl hpc => ?_, ?_, fun p hp hpa hpf => ?_, ?_, hlow, hhigh, inv.tr.then t, hr', by rw [put_size.1]; exact inv.tmps, by rw [put_size.2]; exact inv.defers.mono t.imm (fun b hb => t.old b (inv.hr.imm b hb).1 (inv.hr.imm b hb).2), by rw [put_size.2]; exact inv.same, fun t' ht' => ?_, fun t' ht' => ?_⟩
      · by_cases hji : j = i
        · subst hji
          rw [ho] at hoj
          injection hoj with hoj
          subst hoj
          exact getD_set_true (hafter e he hb)
        · rw [set_ne j hji] at hlj
          exact getD_set_true (inv.closed j oj hoj hlj e he hb)
      · by_cases hji : j = i
        · subst hji; exact set_i
        · rw [set_ne j hji]
          exact inv.done j hj (fun h => hju ((List.mem_erase_of_ne hji).2 h))
      ·
        have same : (acts.contains i = true → FreeK E ops i k) → f'.heap E k = f.heap E k → f'.heap E k = (σ j).heap E k := fun hfr e => by
          rw [e]
          refine inv.fheap k j hj fun p hp hpa hnf => ?_
          have hpi : p ≠ i := by rintro rfl; exact hnf (hfr hpa)
          have := hat p hp hpa hnf
          rwa [set_ne p hpi] at this
        cases hact : acts.contains i with
        | false => exact same (fun h => by rw [hact] at h; cases h) (by rw [hquiet hact])
        | true =>
          obtain ⟨h1, h2⟩ := hheap hact
          by_cases hfk : FreeK E ops i k
          · exact same (fun _ => hfk) (h2 k hfk)
          ·
            have hap : ∀ p, p < ops.size → acts.contains p = true → p ≠ i → p ∉ (ancTab ops.toList []).getD i [] → i ∉ (ancTab ops.toList []).getD p [] → FreeK E ops p k := fun p hp hpa hne g1 g2 => by
              obtain ⟨X, Y, hX, hY, hXY⟩ := hst.actors hact p (apartL_mem.2 ⟨hpa, hne, g1, g2⟩)
              have hkX : k ∈ X := Classical.byContradiction fun hkX => hfk ⟨watched_of hp hne g2 g1, X, hX, hkX⟩
              exact ⟨watched_of hlt (Ne.symm hne) g1 g2, Y, hY, hXY k hkX⟩
            have hij : i < j := (hat i hlt hact hfk).1 set_i
            rw [h1 k hap]
            refine (hch.thin (k := k) (i := i + 1) (j := j) (by omega) hj fun p g1 g2 hpa => ?_).symm
            refine Classical.byContradiction fun hnf => ?_
            have hpi : p ≠ i := by omega
            have hlp := (hat p (by omega) hpa hnf).2 g2
            rw [set_ne p hpi] at hlp
            rcases rel p (by omega) hpi with ⟨h3, _⟩ | ⟨_, h4⟩ | ⟨h3, h4⟩
            · omega
            · rw [h4] at hlp; cases hlp
            · exact hnf (hap p (by omega) hpa hpi h3 h4)
      · have hpi : p ≠ i := by rintro rfl; rw [set_i] at hpl; cases hpl
        rw [set_ne p hpi] at hpl
        exact hfree p hp hpi hpf hpl hpc
      · rcases hb' with ⟨h1, _⟩ | ⟨h1, _⟩
        · rw [h1]; exact inv.ble
        · omega
      · rcases hb' with ⟨h1, h2⟩ | ⟨h1, h2, h3⟩
        · have hpi : p ≠ i := by rintro rfl; rw [h2 hpa] at hpf; cases hpf
          rw [set_ne p hpi, h1]
          exact inv.base p hp hpa hpf
        · by_cases hpi : p = i
          · rw [hpi, set_i, h1]; exact ⟨fun _ => Nat.lt_succ_self i, fun _ => rfl⟩
          · rw [set_ne p hpi, h1]
            rcases rel p hp hpi with ⟨g1, g2⟩ | ⟨g1, g2⟩ | ⟨g1, g2⟩
            · exact ⟨fun _ => by omega, fun _ => g2⟩
            · rw [g2]; exact ⟨fun h => (by cases h), fun h => (by omega)⟩
            · exfalso
              have := (freeA_iff (E := E)).2 ⟨h2, List.ne_nil_of_mem (apartL_mem.2 ⟨hpa, hpi, g1, g2⟩)⟩
              rw [h3] at this; cases this
      · rcases hb' with ⟨h1, _⟩ | ⟨h1, h2, h3⟩
        · rw [h1]; exact inv.base2
        · rw [h1]; exact .inr ⟨h2, h3⟩
      · by_cases hdt : o.dst = some t'
        · obtain ⟨hn, he⟩ := hdst t' hdt
          have e := hch.tau (t := t') (i := i + 1) (j := ops.size) (by omega) (Nat.le_refl _) (fun p h1 h2 => hst.once t' hdt p h2 (by omega))
          rw [e, he, hdt, put_self (by rw [inv.tmps]; exact hn)]
          exact hv
        · rw [put_get hdt]
          refine carry (inv.val t' (fun j hj hdj => ?_))
          have hji : j ≠ i := by
            rintro rfl
            unfold someDst at hdj
            rw [ho] at hdj
            exact hdt hdj
          have := ht' j hj hdj
          rwa [set_ne j hji] at this
      · have hdt : o.dst ≠ some t' := fun hdt => by
          have := ht' i hlt (by unfold someDst; rw [ho]; exact hdt)
          rw [set_i] at this; cases this
        rw [put_get hdt]
        refine carry (inv.old t' (fun j hj hdj => ?_))
        have hji : j ≠ i := by
          rintro rfl
          unfold someDst at hdj
          rw [ho] at hdj
          exact hdt hdj
        have := ht' j hj hdj
        rwa [set_ne j hji] at this
    have hs0C : s0.c ≤ C := inv.tr.cnt
    have keepB : ∀ p, p < ops.size → p ≠ i → freeA E ops acts p = true → listed.getD p false = false → (σ p).c < (σ (p + 1)).c → ∀ k, β k (σ p).c = none := fun p hp _ => inv.free p hp
    have bp : ∀ p, p < ops.size → acts.contains p = true → listed.getD p false = false → b ≤ p := fun p hp hpa hpl => by
      rcases inv.base2 with h | ⟨h1, h2⟩
      · omega
      · have hb1 : b - 1 < ops.size := hch.acts _ (by simpa using h1)
        by_cases hb0 : b = 0
        · omega
        · have hl : listed.getD (b - 1) false = true := (inv.base (b - 1) hb1 h1 h2).2 (by omega)
          have hne : b - 1 ≠ p := by intro e; rw [e, hpl] at hl; cases hl
          by_cases g1 : p ∈ (ancTab ops.toList []).getD (b - 1) []
          · exfalso
            obtain ⟨op, hop, _, _⟩ := hch.at_ hb1
            have := tab (b - 1) op hop (fun e he hb => inv.closed (b - 1) op hop hl e he hb) p g1
            rw [hpl] at this; cases this
          · by_cases g2 : (b - 1) ∈ (ancTab ops.toList []).getD p []
            · have := hch.lt p _ g2; omega
            · exfalso
              have := (freeA_iff (E := E)).2 ⟨h1, List.ne_nil_of_mem (apartL_mem.2 ⟨hpa, Ne.symm hne, g1, g2⟩)⟩
              rw [h2] at this; cases this
    have bi : acts.contains i = true → b ≤ i := fun hact => bp i hlt hact hul
    unfold wpOpIn
    rw [ho]
    dsimp only
    have hup := inv.high
    have hlo := inv.low
    rcases hd.step with ⟨hw, hset⟩ | ⟨hw, hact, v, s1, hop, hc, htch, hset⟩ | ⟨hw, hact, v, hq, hset⟩
    · rw [wanted_sound hfoc hw, if_neg (by simp)]
      refine ⟨fun _ _ => trivial, ?_⟩
      have hh := setD_heap hset
      have huv : IC w A β (.tup []) undef := by simp [IC, ICs, undef]
      have heapI : acts.contains i = true → (∀ k, (∀ p, p < ops.size → acts.contains p = true → p ≠ i → p ∉ (ancTab ops.toList []).getD i [] → i ∉ (ancTab ops.toList []).getD p [] → FreeK E ops p k) → f.heap E k = (σ (i + 1)).heap E k) ∧ ∀ k, FreeK E ops i k → f.heap E k = f.heap E k := fun _ =>
        ⟨fun k hk => by rw [hh.1]; exact at_i k hk, fun _ _ => rfl⟩
      by_cases hnf : acts.contains i = true ∧ freeA E ops acts i = false
      · have hbi := bi hnf.1
        have hbc := hch.mono (i := b) (j := i) hbi (by omega)
        have hun2 := inv.unle
        refine next _ undef w A β f (max C ((σ (i + 1)).c + slack)) (i + 1) ((Tr.refl w A β C (f.heap E)).weak hs0C (by omega)) (fun _ _ _ h => h) (inv.hr.up (Nat.le_max_left ..)) huv (setD_tau hset).2 heapI (fun _ => rfl) keepB (.inr ⟨rfl, hnf.1, hnf.2⟩) (Nat.le_max_right ..) ?_
        rw [hh.2]
        omega
      · refine next _ undef w A β f C b ((Tr.refl w A β C (f.heap E)).weak hs0C hs0C) (fun _ _ _ h => h) inv.hr huv (setD_tau hset).2 heapI (fun _ => rfl) keepB (.inl ⟨rfl, fun h => ?_⟩) inv.low (by omega)
        cases hf : freeA E ops acts i with
        | true => rfl
        | false => exact absurd ⟨h, hf⟩ hnf
    · rw [wanted_sound hfoc hw, if_pos rfl]
      have hh := setD_heap hset
      have hbi := bi hact
      have hbc := hch.mono (i := b) (j := i) hbi (by omega)
      cases hf : freeA E ops acts i with
      | false =>
        have hnil : apartL (ancTab ops.toList []) acts i = [] := Classical.byContradiction fun h => by
          have := (freeA_iff (E := E)).2 ⟨hact, h⟩
          rw [hf] at this; cases this
        have hF : f.heap E = (σ i).heap E := funext fun k => at_i k fun p hp hpa hne g1 g2 => by
          have : p ∈ apartL (ancTab ops.toList []) acts i := apartL_mem.2 ⟨hpa, hne, g1, g2⟩
          rw [hnil] at this; cases this
        have huc : (aState (infOf E ops (ancTab ops.toList []) acts i) (focus (σ i) (Oper.looksAt ops o))).c = (σ i).c + (slack + slack) := by
          unfold aState; rw [show (infOf E ops (ancTab ops.toList []) acts i).free = false from hf]; rfl
        have hheap : (σ (i + 1)).heap E = s1.heap E := hh.1
        have hcc : (σ (i + 1)).c = s1.c := hh.2
        have hhr : HR w A β ((σ i).c + (slack + slack)) (f.heap E) := inv.hr.up (by omega)
        refine oper_in ro n (dop_nodefer hop) (dop_sound (hsr (aState (infOf E ops (ancTab ops.toList []) acts i) (focus (σ i) (Oper.looksAt ops o))) rfl (by rw [huc, aState_heap, focus_heap, ← hF]; exact hhr)) hcall hhand hG hop ?_)
        · rintro cv w' A' β' st hv
          have t1 := st.1
          rw [huc, aState_heap, focus_heap, ← hF] at t1
          have hle := t1.cnt
          refine next v cv w' A' β' (σ (i + 1)) ((σ (i + 1)).c + slack) (i + 1) ?_ (hhr.ext t1) ?_ hv (setD_tau hset).2 (fun _ => ⟨fun _ _ => rfl, fun k hk => ?_⟩) (fun h => by rw [hact] at h; cases h) (fun p hp hne hpf hpl hpc k => ?_) (.inr ⟨rfl, hact, hf⟩) (Nat.le_refl _) ?_
          · rw [hheap]; exact t1.weak (by omega) (by omega)
          · rw [hheap]; exact st.2.1.up (by omega)
          · obtain ⟨hwt, X, hX, hkX⟩ := hk
            rw [hd.touch hwt hX hkX, hF]
          · have hpa := (freeA_iff.1 hpf).1
            rcases rel p hp hne with ⟨_, h2⟩ | ⟨h1, _⟩ | ⟨h1, h2⟩
            · rw [hpl] at h2; cases h2
            · have := hch.mono (i := i + 1) (j := p) (by omega) (by omega)
              exact st.2.1.fresh k _ (by omega)
            · have : p ∈ apartL (ancTab ops.toList []) acts i := apartL_mem.2 ⟨hpa, hne, h1, h2⟩
              rw [hnil] at this; cases this
          · have := inv.unle; omega
      | true =>
        obtain ⟨hwt, X, hX⟩ := hch.free_spec hlt hf
        have htX := htch hwt X hX
        have huc : (aState (infOf E ops (ancTab ops.toList []) acts i) (focus (σ i) (Oper.looksAt ops o))).c = (σ i).c := by
          unfold aState; rw [show (infOf E ops (ancTab ops.toList []) acts i).free = true from hf]; rfl
        have apK : ∀ k ∈ X, ∀ p, p < ops.size → acts.contains p = true → p ≠ i → p ∉ (ancTab ops.toList []).getD i [] → i ∉ (ancTab ops.toList []).getD p [] → FreeK E ops p k := fun k hk p hp hpa hne g1 g2 => by
          obtain ⟨X', Y, hX', hY, hXY⟩ := hst.actors hact p (apartL_mem.2 ⟨hpa, hne, g1, g2⟩)
          rw [hX] at hX'
          injection hX' with hX'
          subst hX'
          exact ⟨watched_of hlt (Ne.symm hne) g1 g2, Y, hY, hXY k hk⟩
        obtain ⟨v', u1, hu1, hren⟩ := touch_local (u := { f with τ := (focus (σ i) (Oper.looksAt ops o)).τ, c := C }) hop ((touchOk_congr (u := aState (infOf E ops (ancTab ops.toList []) acts i) (focus (σ i) (Oper.looksAt ops o))) (s := focus (σ i) (Oper.looksAt ops o)) rfl).trans htX) rfl (fun k hk => at_i k (apK k hk))
        rw [huc] at hren
        have htu : ∀ k, k ∉ X → u1.heap E k = f.heap E k := touch_sound (s := { f with τ := (focus (σ i) (Oper.looksAt ops o)).τ, c := C }) hu1 ((touchOk_congr (u := { f with τ := (focus (σ i) (Oper.looksAt ops o)).τ, c := C }) (s := focus (σ i) (Oper.looksAt ops o)) rfl).trans htX)
        have hheap : (σ (i + 1)).heap E = s1.heap E := hh.1
        have hcc : (σ (i + 1)).c = s1.c := hh.2
        have hseg : (σ i).c ≤ (σ b).c + (i - b) := hch.seg hbi (by omega) fun p g1 g2 hpa => by
          cases hpf : freeA E ops acts p with
          | true => rfl
          | false =>
            exfalso
            have hpi : p ≠ i := by omega
            have hnl := inv.base p (by omega) hpa hpf
            rcases rel p (by omega) hpi with ⟨_, h2⟩ | ⟨h1, _⟩ | ⟨h1, h2⟩
            · have := hnl.1 h2; omega
            · omega
            · have := (freeA_iff (E := E)).2 ⟨hpa, List.ne_nil_of_mem (apartL_mem.2 ⟨hact, Ne.symm hpi, h2, h1⟩)⟩
              rw [hpf] at this; cases this
        have far : ∀ k, k ∉ X → (∀ p, p < ops.size → acts.contains p = true → p ≠ i → p ∉ (ancTab ops.toList []).getD i [] → i ∉ (ancTab ops.toList []).getD p [] → FreeK E ops p k) → f.heap E k = (σ (i + 1)).heap E k := fun k hk hap => by
          rw [at_i k hap, hd.touch hwt hX hk]
        refine oper_in ro n (dop_nodefer hop) (dop_sound (hsr { f with τ := (focus (σ i) (Oper.looksAt ops o)).τ, c := C } rfl inv.hr) hcall hhand hG hu1 ?_)
        · rintro cv w' A' β1 st hv
          have t1 : Tr w A β C (f.heap E) w' A' β1 u1.c (u1.heap E) := st.1
          have h1 : HR w' A' β1 u1.c (u1.heap E) := st.2.1
          have ext1 := inv.hr.ext t1
          have fr1 : ∀ p, p < ops.size → p ≠ i → freeA E ops acts p = true → listed.getD p false = false → (σ p).c < (σ (p + 1)).c → ∀ k, (u1.c ≤ C + 1) → β1 k (σ p).c = none := fun p hp hne hpf hpl hpc k huC => by
            have hbp := bp p hp (freeA_iff.1 hpf).1 hpl
            rcases hch.jump (b := b) (i := p) hbp (by omega) with g | g
            · have hlC : (σ p).c < C := by omega
              rw [t1.beta k _ hlC]; exact inv.free p hp hpf hpl hpc k
            · exact h1.fresh k _ (by omega)
          rcases hren with ⟨hv', hs1, hcu, hXe⟩ | ⟨k0, ob, hk0, hl0, hs1, hcu, hso, huo, hXe, hvv⟩
          · subst hv'
            have hcu' : u1.c = C := hcu
            refine next _ cv w' A' β1 u1 C b ?_ ext1 (by rw [← hcu']; exact h1) hv (setD_tau hset).2 (fun _ => ⟨fun k hap => ?_, fun k hk => ?_⟩) (fun h => by rw [hact] at h; cases h) (fun p hp hne hpf hpl hpc k => fr1 p hp hne hpf hpl hpc k (by omega)) (.inl ⟨rfl, fun _ => hf⟩) inv.low (by omega)
            · rw [hcu'] at t1; exact t1.weak hs0C hs0C
            · by_cases hkX : k ∈ X
              · rw [hXe k hkX, hheap]
              · rw [htu k hkX]; exact far k hkX hap
            · obtain ⟨_, X', hX', hkX⟩ := hk
              rw [hX] at hX'
              injection hX' with hX'
              subst hX'
              exact htu k hkX
          · have hcu' : u1.c = C + 1 := hcu
            have hiC : (σ i).c < C := by omega
            have hnone : β1 k0 (σ i).c = none := by
              rw [t1.beta k0 _ hiC]
              exact inv.free i hlt hf hul (by rw [hcc, hs1]; omega) k0
            have huo' : u1.heap E k0 = some (C, ob) := huo
            obtain ⟨h2, mono, mt⟩ := HR.alias h1 huo' hnone (by omega)
            have hput : (u1.put E k0 (σ i).c ob).heap E = fun q => if q = k0 then some ((σ i).c, ob) else u1.heap E q := heap_put hl0
            have v2 : IC w' A' (fun k v => if k = k0 ∧ v = (σ i).c then β1 k0 C else β1 k v) v cv := by
              rcases hvv with ⟨m, e1, e2⟩ | ⟨e1, e2⟩
              · rw [e2] at hv; rw [e1]
                have hv2 : IC w' A' β1 (.ref k0 C 0 m) cv := hv
                simp only [IC] at hv2 ⊢
                obtain ⟨j, g1, g2⟩ := hv2
                exact ⟨j, by rw [if_pos ⟨trivial, trivial⟩]; exact g1, g2⟩
              · rw [e2] at hv; rw [e1]
                have hv2 : IC w' A' β1 (.ptr k0 C 0 0) cv := hv
                simp only [IC] at hv2 ⊢
                obtain ⟨j, bb, g1, g2⟩ := hv2
                exact ⟨j, bb, by rw [if_pos ⟨trivial, trivial⟩]; exact g1, g2⟩
            refine next v cv w' A' _ (u1.put E k0 (σ i).c ob) (C + 1) b ?_ (fun k v j hj => mono k v j (ext1 k v j hj)) (by rw [hput, ← hcu']; exact h2) v2 (setD_tau hset).2 (fun _ => ⟨fun k hap => ?_, fun k hk => ?_⟩) (fun h => by rw [hact] at h; cases h) (fun p hp hne hpf hpl hpc k => ?_) (.inl ⟨rfl, fun _ => hf⟩) (by omega) (by omega)
            · rw [hput]
              exact ⟨t1.size, t1.os, t1.tape, t1.output, t1.old, fun k v hv => by rw [if_neg (fun h => by omega)]; exact t1.beta k v (by omega), by omega, t1.imm, t1.newA, fun bb hb => t1.newM bb (mt bb hb)⟩
            · rw [hput, hheap]
              dsimp only
              by_cases hkk : k = k0
              · subst hkk; rw [if_pos rfl, hso]
              · rw [if_neg hkk]
                by_cases hkX : k ∈ X
                · exact hXe k hkX hkk
                · rw [htu k hkX, ← hheap]; exact far k hkX hap
            · obtain ⟨_, X', hX', hkX⟩ := hk
              rw [hX] at hX'
              injection hX' with hX'
              subst hX'
              rw [hput]
              dsimp only
              rw [if_neg (by rintro rfl; exact hkX hk0)]
              exact htu k hkX
            · rw [if_neg]
              · exact fr1 p hp hne hpf hpl hpc k (by omega)
              · rintro ⟨_, e⟩
                have hic : (σ i).c < (σ (i + 1)).c := by rw [hcc, hs1]; omega
                rcases Nat.lt_or_ge p i with h | h
                · have := hch.mono (i := p + 1) (j := i) (by omega) (by omega); omega
                · have := hch.mono (i := i + 1) (j := p) (by omega) (by omega); omega
    · rw [wanted_sound hfoc hw, if_pos rfl]
      have hunder : ∀ k p, (qState E (gatherK (estAt E ops) (apartL (ancTab ops.toList []) acts i)) (focus (σ i) (Oper.looksAt ops o))).heap E k = some p → f.heap E k = some p := by
        unfold qState
        split
        · rename_i X hX
          have hg := gatherK_mem hX
          intro k p hk
          obtain ⟨k1, k2⟩ := dels_sub X (focus (σ i) (Oper.looksAt ops o)) k p hk
          rw [focus_heap] at k1
          rw [at_i k fun p hp hpa hne g1 g2 => ?_]
          · exact k1
          · obtain ⟨Y, hY, hYX⟩ := hg p (apartL_mem.2 ⟨hpa, hne, g1, g2⟩)
            exact ⟨watched_of hlt (Ne.symm hne) g1 g2, Y, hY, fun hkY => k2 (hYX k hkY)⟩
        · intro k p hk
          exfalso
          unfold St.heap heapOf at hk
          dsimp only at hk
          split at hk
          · simp [lget] at hk
          · split at hk <;> cases hk
      have hτ : (qState E (gatherK (estAt E ops) (apartL (ancTab ops.toList []) acts i)) (focus (σ i) (Oper.looksAt ops o))).τ = (focus (σ i) (Oper.looksAt ops o)).τ := by
        have hdk : ∀ ks (u : St), (St.dels E ks u).τ = u.τ := fun ks => by
          induction ks with
          | nil => intro u; rfl
          | cons k r ihk => intro u; unfold St.dels; rw [ihk]; exact del_lc.1
        unfold qState
        split
        · exact hdk _ _
        · rfl
      have hq2 := (qop_c (n := C)).trans hq
      generalize qState E (gatherK (estAt E ops) (apartL (ancTab ops.toList []) acts i)) (focus (σ i) (Oper.looksAt ops o)) = u at hq2 hunder hτ
      have hu : HR w A β C (u.heap E) := inv.hr.under hunder (Nat.le_refl _)
      refine oper_in ro n (qop_nodefer hq2) (qop_sound (s := { u with c := C }) (hsr { u with c := C } hτ hu) hcall hhand hG hq2 (fun cv w' A' β' st hv => ?_))
      obtain ⟨f1, f2⟩ := inv.hr.frame hunder (Nat.le_refl _) st.1 st.2.1
      refine next v cv w' A' β' f C b (f1.weak hs0C hs0C) (inv.hr.ext f1) f2 hv (setD_tau hset).2 (fun h => by rw [hact] at h; cases h) (fun _ => rfl) (fun p hp hne hpf hpl hpc k => ?_) (.inl ⟨rfl, fun h => by rw [hact] at h; cases h⟩) inv.low (by omega)
      by_cases hv : (σ p).c < C
      · rw [f1.beta k _ hv]; exact inv.free p hp hpf hpl hpc k
      · exact f2.fresh k _ (by omega)
theorem drawR_sound (ro : Option Nat) (n : Nat) (hm : E.P.follows .mixedOrders = true) (hcall : SoundCall E.P call) (hhand : SoundHand E.P Cx) (hG : ∀ g ∈ E.ok, GoodF E.P g) {id : Nat} {s s' : St} (h : drawR call E Cx ops s = some s') :
    Runs E s .norm s' (fun Q a w => (Code.region id ops true).wpIn (Fi ro) n E.P Q a w) := by
  intro w A β a hs Q hQ
  unfold drawR at h
  split at h
  case h_2 => cases h
  rename_i I hI
  simp only [Option.map_eq_some_iff] at h
  obtain ⟨s'', h, rfl⟩ := h
  unfold regionInf at hI
  obtain ⟨hfew, hI⟩ := ite_some hI
  obtain ⟨σ, h1, h2, h4⟩ := drawOps_chain call E Cx ops _ _ ops.toList 0 I s s'' hI h
  have hn : 0 + ops.toList.length = ops.size := by simp
  rw [hn] at h2
  have hch : Chain call E Cx ops (actorsOf E ops.toList ops.toList 0) s σ := ⟨h1, fun j o hj => by have := h4 j o (by simpa using hj); simpa using this, hfew, fun p hp => by have := actorsOf_lt _ _ _ hp; simpa using this⟩
  refine wpIn_region_any hm ?_
  have hsame : ∀ v c, IC w A β v c → IC { w with drawn := w.drawn + 1 } A β v c := fun v c hv => IC.mono (w := w) (w' := { w with drawn := w.drawn + 1 }) (fun _ h => h) (fun _ _ => rfl) (fun _ _ _ h => h) v c hv
  have hOC : ∀ i o, OC w A β i o → OC { w with drawn := w.drawn + 1 } A β i o := fun i o ho => OC.mono (w := w) (w' := { w with drawn := w.drawn + 1 }) (fun _ h => h) (fun _ _ => rfl) (fun _ _ _ h => h) (fun _ _ => rfl) ho
  have hrf := rep_false ops.size
  refine hch.anyOrder a ro n hcall hhand hG (w0 := w) (A0 := A) (β0 := β) (Q := Q) (fun a' w' A' β' t hs' hd => ?_) ops.size _ a _ A β s (s.c + slack) 0 (List.range ops.size) ⟨by simp, fun j oj _ hl => ?_, List.nodup_range, by simp, by simp, fun j hj hju => absurd (List.mem_range.2 hj) hju, fun k i hi hat => ?_, fun p hp _ _ _ k => ?_, Nat.zero_le _, fun p hp _ _ => ?_, .inl rfl, ?_, ?_, ?_, ?_, hs.size, hs.defers.mono (fun _ h => h) (fun _ _ => rfl), rfl, fun t ht => ?_, fun t _ => ?_⟩
  · rw [h2] at t hs'
    exact hQ a' w' A' β' ⟨t, [], by rw [hd]; rfl, fun _ h => by cases h⟩ hs'
  · rw [hrf] at hl; cases hl
  · have := hch.thin (k := k) (i := 0) (j := i) (Nat.zero_le _) hi (fun p _ hp hpa => Classical.byContradiction fun hnf => by
      have := (hat p (by omega) hpa hnf).2 hp
      rw [hrf] at this; cases this)
    rw [this, h1]
  · have := hch.mono (i := 0) (j := p) (Nat.zero_le _) (by omega)
    rw [h1] at this
    exact hs.heap.fresh k _ this
  · rw [hrf]; exact ⟨fun h => (by cases h), fun h => (by omega)⟩
  · rw [h1]; exact Nat.le_refl _
  · rw [h1]; simp
  · exact ⟨Nat.le_refl _, rfl, rfl, rfl, fun _ _ _ => rfl, fun _ _ _ => rfl, Nat.le_add_right .., fun _ h => h, fun _ h => .inl h, fun _ h => .inl h⟩
  · exact HR.up ⟨fun k v o hk => let ⟨i, e, ho⟩ := hs.heap.obj k v o hk; ⟨i, e, hOC i o ho⟩, hs.heap.sep, hs.heap.imm, hs.heap.fresh, hs.heap.laid.step (fun _ _ => rfl) (fun _ h => h)⟩ (Nat.le_add_right ..)
  · have e := hch.tau (t := t) (i := 0) (j := ops.size) (Nat.zero_le _) (Nat.le_refl _) (fun p _ hp hd => by
      have := ht p hp hd
      rw [hrf] at this; cases this)
    rw [e, h1]
    exact hsame _ _ (hs.tmp t)
  · rw [h1]
    exact hsame _ _ (hs.tmp t)
end
end Go.Vi
namespace Go.Vi
open Go
def LoopAt (ro : Option Nat) (n : Nat) (P : Program) (c : Code) (Q : Exit → Act → World → Prop) (a : Act) (w : World) : Prop :=
  ∀ (b : Frame) (k : List Item) (cs : List Frame), b.roundOf = ro → ∃ e a' w', Q e a' w' ∧ ArrivesIn (Machine.fenced P (Fi ro)) P (lone (b.atR a (.code c :: .inLoop c :: k)) cs w) b k cs e a' w'
theorem LoopAt.wp {ro n P c Q a w} (h : LoopAt ro n P c Q a w) : (Code.loop c).wpIn (Fi ro) n P Q a w := fun b k cs hro _ _ =>
  let ⟨e, a', w', q, r⟩ := h b k cs hro
  ⟨e, a', w', q, .of_steps (.one (Fi.fenced _) stepR_loop) r⟩
theorem LoopAt.round {ro n P c Q a w} (h : c.wpIn (Fi ro) n P (Exit.then (LoopAt ro n P c Q) Q) a w) : LoopAt ro n P c Q a w := by
  intro b k cs hro
  obtain ⟨e, a₁, w₁, hq, harr⟩ := h b (.inLoop c :: k) cs hro trivial Fi.room
  cases e with
  | normal =>
    obtain ⟨e₂, a₂, w₂, hq₂, harr₂⟩ := hq b k cs hro
    exact ⟨e₂, a₂, w₂, hq₂, .of_steps (StepsIn.trans harr (.one (Fi.fenced _) stepR_inLoop)) harr₂⟩
  | exit id => exact ⟨_, a₁, w₁, hq, .pass (x := .inLoop c) rfl (fun _ _ => .inl (by simp)) harr⟩
  | goto l => exact ⟨_, a₁, w₁, hq, .pass (x := .inLoop c) rfl (fun _ _ => .inl (by simp)) harr⟩
  | ret => exact ⟨_, a₁, w₁, hq, .pass (x := .inLoop c) rfl (fun _ _ => .inl (by simp)) harr⟩
  | panic ch => exact ⟨_, a₁, w₁, hq, .pass (x := .inLoop c) rfl (fun _ _ => .inl (by simp)) harr⟩
  | outgrown => exact ⟨_, a₁, w₁, hq, .pass (x := .inLoop c) rfl (fun _ _ => .inl (by simp)) harr⟩
theorem stepR_scope {P : Program} {b : Frame} {a : Act} {k : List Item} {cs : List Frame} {w : World} {c : Code} : step P (lone (b.atR a (.code (.scope c) :: k)) cs w) = .next (lone (b.atR a (.code c :: .inScope c :: k)) cs w) :=
  step_lone_go (by simp [stepG, stepG.exec, Frame.atR])
theorem stepR_inScope {P : Program} {b : Frame} {a : Act} {k : List Item} {cs : List Frame} {w : World} {c : Code} : step P (lone (b.atR a (.inScope c :: k)) cs w) = .next (lone (b.atR a k) cs w) :=
  step_lone_go (by simp [stepG, stepG.exec, Frame.atR])
theorem scope_in {ro n P Q a w} {c : Code} (h : c.wpIn (Fi ro) n P (Exit.noGoto Q) a w) : (Code.scope c).wpIn (Fi ro) n P Q a w := by
  intro b k cs hro hb hr
  obtain ⟨e, a₁, w₁, hq, harr⟩ := h b (.inScope c :: k) cs hro hb hr
  have h0 := Fi.fenced (P := P) (ro := ro) (lone (b.atR a (.code (.scope c) :: k)) cs w)
  cases e with
  | normal => exact ⟨.normal, a₁, w₁, hq, .head h0 stepR_scope (StepsIn.trans harr (.one (Fi.fenced _) stepR_inScope))⟩
  | exit id =>
    have hx : exitTo id (.inScope c :: k) = exitTo id k := by simp [exitTo]
    exact ⟨.exit id, a₁, w₁, hq, fun k' hk => .head h0 stepR_scope (harr.1 k' (by rw [hx]; exact hk)), fun hr' hk => let ⟨k₁, h1, h2⟩ := harr.2 hr' (by rw [hx]; exact hk); ⟨k₁, h1, .head h0 stepR_scope h2⟩⟩
  | goto l => exact hq.elim
  | ret => exact ⟨_, a₁, w₁, hq, .of_steps (.one h0 stepR_scope) harr⟩
  | panic ch => exact ⟨_, a₁, w₁, hq, .of_steps (.one h0 stepR_scope) harr⟩
  | outgrown => exact ⟨_, a₁, w₁, hq, .of_steps (.one h0 stepR_scope) harr⟩
theorem iter_sound {ro : Option Nat} {m : Nat} {E : Env} {f : St → Option (Ex × St)} {c : Code} (hf : ∀ s e s', f s = some (e, s') → Runs E s e s' (fun Q a w => c.wpIn (Fi ro) m E.P Q a w)) :
    ∀ (n : Nat) (s : St) (e : Ex) (s' : St), iter f n s = some (e, s') → Runs E s e s' (fun Q a w => LoopAt ro m E.P c Q a w)
  | 0, s, e, s', h => by cases h
  | n + 1, s, e, s', h => by
    intro w A β a hs Q hQ
    unfold iter at h
    apply LoopAt.round
    split at h
    · rename_i s1 h1
      refine hf s _ _ h1 w A β a hs _ (fun a' w' A' β' t hs' => ?_)
      exact iter_sound hf n s1 e s' h w' A' β' a' hs' Q (fun a'' w'' A'' β'' t' hs'' => hQ a'' w'' A'' β'' (t.trans t') hs'')
    · rename_i hne
      refine hf s e s' h w A β a hs _ (fun a' w' A' β' t hs' => ?_)
      have := hQ a' w' A' β' t hs'
      cases e with
      | norm => exact absurd h (hne s')
      | exit id => exact this
      | ret => exact this
      | pan v => exact this
theorem HR.drop {w w' : World} {A β c H H' k v o i l} (h : HR w A β c H) (hk : H k = some (v, o)) (hi : β k v = some i) (hl : i.b = some l) (hs : ∀ q p, H' q = some p → H q = some p ∧ q ≠ k) (hw : ∀ b, b ≠ l → w'.heap[b]? = w.heap[b]?) (hsz : w.heap.size ≤ w'.heap.size) : HR w' A β c H' := by
  have hne : ∀ b, A b → b ≠ l := fun b hb e => (h.imm b hb).2 ⟨k, v, o, i, hk, hi, by rw [e]; exact hl⟩
  refine ⟨fun q u p hq => ?_, fun q q' u u' p p' j j' b h1 h2 => h.sep q q' u u' p p' j j' b (hs q _ h1).1 (hs q' _ h2).1, fun b hb => ⟨Nat.lt_of_lt_of_le (h.imm b hb).1 hsz, fun hm => (h.imm b hb).2 (hm.mono fun q p hq => (hs q p hq).1)⟩, h.fresh, h.laid.step (fun b hb => hw b (hne b hb)) (fun _ h => h)⟩
  obtain ⟨j, e, ho⟩ := h.obj q u p (hs q _ hq).1
  refine ⟨j, e, ho.mono (fun _ h => h) (fun b hb => sameC (hw b (hne b hb))) (fun _ _ _ h => h) (fun b hb => hw b ?_)⟩
  rintro rfl
  exact (hs q _ hq).2 (h.sep q k u v p o j i b (hs q _ hq).1 hk e hi hb hl)
theorem rangeV_sound {E : Env} {call : CallFn} (hcall : SoundCall E.P call) (hG : ∀ g ∈ E.ok, GoodF E.P g) {ro : Option Nat} (hro : E.inr = false → ro = none) (n : Nat) {f : Operand} {ps : Array Tmp} {as bd : Code} {s s' : St} {e : Ex} {w A β a Q} (hs : SR E w A β s a) (h : rangeV call E (evalO s f) ps.toList as bd s = some (e, s'))
    (hQ : ∀ a' w' A' β', TrA w A β s.c (s.heap E) w' A' β' s'.c (s'.heap E) a a' → SR E w' A' β' s' a' → ExQ e Q w' A' β' a') : (Code.rangeFunc f ps as bd).wpIn (Fi ro) n E.P Q a w := by
  unfold rangeV at h
  split at h
  case h_2 => cases h
  rename_i g first caps hf
  obtain ⟨⟨hok, hinr⟩, h⟩ := ite_some' h
  have hro := hro hinr
  subst hro
  have hfv := hs.eval f
  rw [hf] at hfv
  simp only [IC] at hfv
  obtain ⟨x, y, hcf, hx, hy⟩ := hfv
  refine wpIn_rangeFunc fun fn _ => ?_
  generalize hr0 : ({ state := .ready, pending := none, fn := fn, tmps := a.tmps, params := ps, assign := as, body := bd, defers := w.heap.size } : Loop) = r0
  let w1 := w.alloc (.deferred (some []))
  let w2 := w1.alloc (.loop r0)
  have p1 : Pushed w w1 (.deferred (some [])) := ⟨rfl, rfl, rfl, rfl⟩
  have p2 : Pushed w1 w2 (.loop r0) := ⟨rfl, rfl, rfl, rfl⟩
  have z1 : w1.heap.size = w.heap.size + 1 := p1.size
  let A1 : Nat → Prop := fun b => A b ∨ b = w.heap.size
  have t1 : Tr w A β s.c (s.heap E) w1 A1 β s.c (s.heap E) := ⟨by omega, rfl, rfl, rfl, fun b hb _ => p1.old hb, fun _ _ _ => rfl, Nat.le_refl _, fun _ h => .inl h, fun b hb => hb.elim .inl (fun h => .inr (.inr (by omega))), fun b hb => .inl hb⟩
  have h1 : HR w1 A1 β s.c (s.heap E) := by
    refine ⟨fun k v o hk => ?_, hs.heap.sep, fun b hb => ?_, hs.heap.fresh, hs.heap.laid.step (fun b hb => p1.old (hs.heap.imm b hb).1) (fun _ hb => .inl hb)⟩
    · obtain ⟨i, e, ho⟩ := hs.heap.obj k v o hk
      exact ⟨i, e, ho.mono (fun _ h => .inl h) (fun b hb => sameC (p1.old (hs.heap.imm b hb).1)) (fun _ _ _ h => h) (fun b hb => p1.old (hs.heap.lt ⟨k, v, o, i, hk, e, hb⟩))⟩
    · rcases hb with hb | rfl
      · exact ⟨by have := (hs.heap.imm b hb).1; omega, (hs.heap.imm b hb).2⟩
      · exact ⟨by omega, fun hm => by have := hs.heap.lt hm; omega⟩
  have s1 : SR E w1 A1 β s a := ⟨fun t => hs.heap.carry t1 (hs.tmp t), hs.size, h1, hs.defers.mono t1.imm (hs.heap.keep t1)⟩
  generalize hS1 : ({ s.put E (loopKey E) s.c (.loop (lpOf E) s.τ ps.toList as bd .ready none) with c := s.c + 1 } : St) = S1 at h
  have hh : S1.heap E = fun q => if q = loopKey E then some (s.c, .loop (lpOf E) s.τ ps.toList as bd .ready none) else s.heap E q := by
    rw [← hS1]
    show (s.put E (loopKey E) s.c _).heap E = _
    rw [heap_put (Nat.le_refl _)]
  have hSc : S1.c = s.c + 1 := by rw [← hS1]
  have hSτ : S1.τ = s.τ := by rw [← hS1]; exact put_lc.1
  have hβ : ∀ q v j, β q v = some j → (if q = loopKey E ∧ v = s.c then some (⟨some (w.heap.size + 1), 0, 1, 1⟩ : Info) else β q v) = some j := fun q v j hj => by
    rw [if_neg]; exact hj
    rintro ⟨_, rfl⟩
    rw [h1.fresh q s.c (Nat.le_refl _)] at hj
    cases hj
  have st2 : Step E w1 A1 β s w2 A1 (fun q v => if q = loopKey E ∧ v = s.c then some (⟨some (w.heap.size + 1), 0, 1, 1⟩ : Info) else β q v) S1 := by
    refine Step.new (k := loopKey E) (o := .loop (lpOf E) s.τ ps.toList as bd .ready none) (i := ⟨some (w.heap.size + 1), 0, 1, 1⟩) h1 hSτ hSc ?_ ?_ p2.os p2.tape p2.output (by rw [p2.size]; omega) (fun b hb => .inl (p2.old hb)) ?_ ?_
    · intro q p hq hp
      rw [hh] at hp
      simpa only [if_neg hq] using hp
    · rw [hh]; simp
    · intro b hb
      injection hb with hb
      subst hb
      refine ⟨.inl (by omega), fun q v p j hq hp hj hjb => ?_⟩
      rw [hh] at hp
      simp only [if_neg hq] at hp
      have := h1.lt ⟨q, v, p, j, hp, hj, hjb⟩
      omega
    · unfold OC
      refine ⟨w.heap.size + 1, r0, rfl, rfl, by rw [← z1]; exact p2.new, ?_⟩
      subst hr0
      exact ⟨rfl, rfl, rfl, rfl, rfl, hs.size, fun t => IC.mono (fun _ h => h) (fun b hb => sameC (p2.old (h1.imm b hb).1)) hβ _ _ (s1.tmp t)⟩
  generalize hβ1 : (fun q v => if q = loopKey E ∧ v = s.c then some (⟨some (w.heap.size + 1), 0, 1, 1⟩ : Info) else β q v) = β1 at st2
  have hβk : β1 (loopKey E) s.c = some ⟨some (w.heap.size + 1), 0, 1, 1⟩ := by rw [← hβ1]; simp
  have tw2 : Tr w A β s.c (s.heap E) w2 A1 β1 S1.c (S1.heap E) := t1.trans st2.1
  refine ⟨w.heap.size + 1, [markD w.heap.size], w2, { target := .fn (.func g) y, args := x ++ #[.func (.yield (w.heap.size + 1)) #[] #[]] }, w2, g, x ++ #[.func (.yield (w.heap.size + 1)) #[] #[]] ++ y, w2, ?_, ?_, fun _ _ => trivial, ?_, fun h => (by cases h), ?_⟩
  · subst hr0
    exact run_enterLoop_outer ..
  · show (Deferred.ofValue (a.eval f) (#[Operand.const (.func (.yield (w.heap.size + 1)) #[] #[])].map a.eval)).run E.P w2 = _
    rw [hcf]
    simp [Deferred.ofValue, Act.eval]
  · simp only [invoke]
    exact callFunc_run (hG g (by simpa using hok))
  · have hargs : ICs w2 A1 β1 (first ++ [.mref (loopKey E) s.c] ++ caps) (x ++ #[Value.func (.yield (w.heap.size + 1)) #[] #[]] ++ y).toList := by
      simp only [Array.toList_append]
      refine ((hs.heap.carrys tw2 hx).app ?_).app (hs.heap.carrys tw2 hy)
      simp only [ICs, IC]
      exact ⟨_, [], rfl, ⟨_, _, hβk, rfl, by simp [mrefC]⟩, rfl⟩
    obtain ⟨⟨o3, c', O'⟩, hcl, h⟩ := Option.bind_eq_some_iff.1 h
    dsimp only at h
    unfold rangeEnd at h
    split at h
    case h_2 => cases h
    obtain ⟨_, hC⟩ := hcall.fn g _ (E.lvl + 1) S1.c (S1.heap E) _ c' O' hcl heap_above
    refine calls_in.2 ((hC w2 A1 β1 _ st2.2.1 hargs).mono ?_)
    rintro e3 w3 ⟨A3, β3, cv, l', rfl, _, tk⟩
    have st3 := back_step (E := E) (s := S1) tk.tr tk.hr
    split at h
    case h_2 => cases h
    rename_i hh' τ' ps' as' bd' stt pend hob
    split at h
    · cases h
    rename_i hnb
    simp only [Option.map_eq_some_iff, Prod.mk.injEq] at h
    obtain ⟨ex, hex, rfl, rfl⟩ := h
    have hobh := obj_heap hob
    obtain ⟨i, hi, hoc⟩ := st3.2.1.obj _ _ _ hobh
    have hi2 : i = ⟨some (w.heap.size + 1), 0, 1, 1⟩ := by
      have := tk.tr.beta (loopKey E) s.c (by omega)
      rw [this, hβk] at hi
      injection hi with hi
      exact hi.symm
    unfold OC at hoc
    obtain ⟨b, r, hb, _, hwb, _, _, _, hst, hpend, _, _⟩ := hoc
    have hbl : b = w.heap.size + 1 := by rw [hi2] at hb; injection hb with hb; exact hb.symm
    subst hbl
    have hnbusy : r.state ≠ .busy := by
      rw [hst]
      cases stt <;> simp [lsC] at hnb ⊢
    refine ⟨r.pending, _, run_endLoop hwb hnbusy, ?_⟩
    generalize hw4 : w3.putObj (w.heap.size + 1) (.loop { r with state := .exhausted }) = w4
    have hoth : ∀ b2, b2 ≠ w.heap.size + 1 → w4.heap[b2]? = w3.heap[b2]? := fun b2 hb2 => by rw [← hw4]; exact World.putObj_heap_other hb2
    have hsz4 : w4.heap.size = w3.heap.size := by rw [← hw4]; simp
    have hdel : ∀ q p, ((back E S1 c' O').del E (loopKey E)).heap E q = some p → (back E S1 c' O').heap E q = some p ∧ q ≠ loopKey E := fun q p hq => by
      rw [heap_del (Nat.le_refl _)] at hq
      dsimp only at hq
      split at hq
      · cases hq
      · rename_i hne; exact ⟨hq, hne⟩
    have hcd : ((back E S1 c' O').del E (loopKey E)).c = (back E S1 c' O').c := del_lc.2
    have h4 : HR w4 A3 β3 (back E S1 c' O').c (((back E S1 c' O').del E (loopKey E)).heap E) := st3.2.1.drop hobh hi hb hdel hoth (by omega)
    have t4 : Tr w3 A3 β3 (back E S1 c' O').c ((back E S1 c' O').heap E) w4 A3 β3 (back E S1 c' O').c (((back E S1 c' O').del E (loopKey E)).heap E) :=
      ⟨by omega, by rw [← hw4]; rfl, by rw [← hw4]; rfl, by rw [← hw4]; rfl, fun b2 _ hm => hoth b2 (by rintro rfl; exact hm ⟨_, _, _, i, hobh, hi, hb⟩), fun _ _ _ => rfl, Nat.le_refl _, fun _ h => h, fun _ h => .inl h, fun b2 hm => .inl (hm.mono fun q p hq => (hdel q p hq).1)⟩
    have tall : Tr w A β s.c (s.heap E) w4 A3 β3 (back E S1 c' O').c (((back E S1 c' O').del E (loopKey E)).heap E) := tw2.trans (st3.1.trans t4)
    have t14 : Tr w1 A1 β s.c (s.heap E) w4 A3 β3 (back E S1 c' O').c (((back E S1 c' O').del E (loopKey E)).heap E) := st2.1.trans (st3.1.trans t4)
    have hdτ : ((back E S1 c' O').del E (loopKey E)).τ = s.τ := del_lc.1.trans hSτ
    have hsr : SR E w4 A3 β3 ((back E S1 c' O').del E (loopKey E)) { a with defers := [markD w.heap.size] ++ a.defers } := by
      refine ⟨fun t => ?_, hs.size, by rw [hcd]; exact h4, ⟨fun d hd => ?_, ?_⟩⟩
      · rw [hdτ]; exact hs.heap.carry tall (hs.tmp t)
      · rcases List.mem_cons.1 hd with rfl | hd
        · exact .inr ⟨w.heap.size, rfl, t14.imm _ (.inr rfl), (h1.keep t14 _ (.inr rfl)).trans p1.new⟩
        · exact (hs.defers.mono tall.imm (hs.heap.keep tall)).each d hd
      · refine List.nodup_cons.2 ⟨fun hd => ?_, hs.defers.nodup⟩
        rcases hs.defers.each _ hd with ⟨fv, cap, e0⟩ | ⟨r', e1, e2, _⟩
        · cases e0
        have : w.heap.size = r' := by injection e1 with e1; injection e1
        have := (hs.heap.imm _ e2).1
        omega
    have hta : TrA w A β s.c (s.heap E) w4 A3 β3 ((back E S1 c' O').del E (loopKey E)).c (((back E S1 c' O').del E (loopKey E)).heap E) a { a with defers := [markD w.heap.size] ++ a.defers } :=
      ⟨by rw [hcd]; exact tall, [markD w.heap.size], rfl, fun d hd => ⟨_, List.mem_singleton.1 hd, Nat.le_refl _⟩⟩
    have fin := hQ _ w4 A3 β3 hta hsr
    rw [hpend]
    unfold jumpEx at hex
    split at hex
    · injection hex with hex; subst hex; exact fin
    · injection hex with hex; subst hex; exact wpIn_exit fin
    · injection hex with hex; subst hex; exact wpIn_ret fin
    · cases hex
section
variable {E : Env} {call : CallFn} {Cx : FuncId → Option (List V → Option V)} (hcall : SoundCall E.P call) (hhand : SoundHand E.P Cx) (hG : ∀ g ∈ E.ok, GoodF E.P g) (hm : E.P.follows .mixedOrders = true)
include hcall hhand hG hm
theorem evC_sound (ro : Option Nat) (hro : E.inr = false → ro = none) (n : Nat) (fuel : Nat) : ∀ (c : Code) (s : St) (e : Ex) (s' : St), evC call E Cx fuel c s = some (e, s') → Runs E s e s' (fun Q a w => c.wpIn (Fi ro) n E.P Q a w)
  | .skip, s, e, s', h => by
    simp only [evC, Option.some.injEq, Prod.mk.injEq] at h
    obtain ⟨rfl, rfl⟩ := h
    intro w A β a hs Q hQ
    exact wpIn_skip (hQ a w A β (TrA.refl ..) hs)
  | .label l, s, e, s', h => by
    simp only [evC, Option.some.injEq, Prod.mk.injEq] at h
    obtain ⟨rfl, rfl⟩ := h
    intro w A β a hs Q hQ
    exact wpIn_label (hQ a w A β (TrA.refl ..) hs)
  | .ret, s, e, s', h => by
    simp only [evC, Option.some.injEq, Prod.mk.injEq] at h
    obtain ⟨rfl, rfl⟩ := h
    intro w A β a hs Q hQ
    exact wpIn_ret (hQ a w A β (TrA.refl ..) hs)
  | .exit id, s, e, s', h => by
    simp only [evC, Option.some.injEq, Prod.mk.injEq] at h
    obtain ⟨rfl, rfl⟩ := h
    intro w A β a hs Q hQ
    exact wpIn_exit (hQ a w A β (TrA.refl ..) hs)
  | .region id ops false, s, e, s', h => by
    simp only [evC, Option.map_eq_some_iff, Prod.mk.injEq] at h
    obtain ⟨⟨e1, s1⟩, h, rfl, rfl⟩ := h
    intro w A β a hs Q hQ
    refine wpIn_region_list (evOps_sound hcall hhand hG ro n ops _ _ _ _ h w A β a hs Q (fun a' w' A' β' t hs' => ?_))
    exact hQ a' w' A' β' (t.thin rfl (fun k p hk => tidy_heap hk)) hs'.tidy
  | .region id ops true, s, e, s', h => by
    simp only [evC, Option.map_eq_some_iff, Prod.mk.injEq] at h
    obtain ⟨s1, h, rfl, rfl⟩ := h
    intro w A β a hs Q hQ
    refine drawR_sound ro n hm hcall hhand hG h w A β a hs Q (fun a' w' A' β' t hs' => ?_)
    exact hQ a' w' A' β' (t.thin rfl (fun k p hk => tidy_heap hk)) hs'.tidy
  | .seq x y, s, e, s', h => by
    simp only [evC] at h
    intro w A β a hs Q hQ
    apply wpIn_seq
    split at h
    · rename_i s1 h1
      refine evC_sound ro hro n fuel x s _ _ h1 w A β a hs _ (fun a' w' A' β' t hs' => ?_)
      exact evC_sound ro hro n fuel y s1 e s' h w' A' β' a' hs' Q (fun a'' w'' A'' β'' t' hs'' => hQ a'' w'' A'' β'' (t.trans t') hs'')
    · rename_i hne
      refine evC_sound ro hro n fuel x s e s' h w A β a hs _ (fun a' w' A' β' t hs' => ?_)
      have := hQ a' w' A' β' t hs'
      cases e with
      | norm => exact absurd h (hne s')
      | exit id => exact this
      | ret => exact this
      | pan v => exact this
  | .cond c x y, s, e, s', h => by
    simp only [evC] at h
    intro w A β a hs Q hQ
    split at h
    · rename_i t ht
      have hc := hs.eval c
      rw [ht] at hc
      obtain ⟨p1, p2, p3⟩ := hs.passed (c := c)
      refine wpIn_cond hc.bool_ ?_
      cases t
      · exact evC_sound ro hro n fuel y _ e s' h w A β a p1 Q (fun a' w' A' β' t hs' => hQ a' w' A' β' (by rw [← p2, ← p3]; exact t) hs')
      · exact evC_sound ro hro n fuel x _ e s' h w A β a p1 Q (fun a' w' A' β' t hs' => hQ a' w' A' β' (by rw [← p2, ← p3]; exact t) hs')
    · cases h
  | .block id b, s, e, s', h => by
    simp only [evC] at h
    intro w A β a hs Q hQ
    apply wpIn_block
    split at h
    · rename_i i s1 h1
      simp only [Option.some.injEq, Prod.mk.injEq] at h
      obtain ⟨he, rfl⟩ := h
      refine evC_sound ro hro n fuel b s _ _ h1 w A β a hs _ (fun a' w' A' β' t hs' => ?_)
      have := hQ a' w' A' β' t hs'
      subst he
      show (if i = id then Q .normal a' w' else Q (.exit i) a' w')
      by_cases hi : i = id
      · rw [if_pos hi] at this ⊢; exact this
      · rw [if_neg hi] at this ⊢; exact this
    · rename_i hne
      refine evC_sound ro hro n fuel b s e s' h w A β a hs _ (fun a' w' A' β' t hs' => ?_)
      have := hQ a' w' A' β' t hs'
      cases e with
      | norm => exact this
      | exit id => exact absurd h (hne id s')
      | ret => exact this
      | pan v => exact this
  | .scope b, s, e, s', h => by
    simp only [evC] at h
    intro w A β a hs Q hQ
    apply scope_in
    refine evC_sound ro hro n fuel b s e s' h w A β a hs _ (fun a' w' A' β' t hs' => ?_)
    have := hQ a' w' A' β' t hs'
    cases e with
    | norm => exact this
    | exit id => exact this
    | ret => exact this
    | pan v => exact this
  | .loop b, s, e, s', h => by
    simp only [evC] at h
    intro w A β a hs Q hQ
    exact (iter_sound (fun s e s' h => evC_sound ro hro n fuel b s e s' h) fuel s e s' h w A β a hs Q hQ).wp
  | .goto _, s, e, s', h => by simp [evC] at h
  | .rangeFunc f ps as bd, s, e, s', h => by
    simp only [evC] at h
    intro w A β a hs Q hQ
    exact rangeV_sound hcall hG hro n hs h hQ
  | .refuse _, s, e, s', h => by simp [evC] at h
end
end Go.Vi
namespace Go.Vi
open Go
theorem params_get : ∀ (vs : List V) (j t : Nat), tget (params j vs) t = if j ≤ t then (vs[t - j]?).getD .junk else .junk
  | [], j, t => by simp [params, tget]
  | v :: r, j, t => by
    simp only [params, tget]
    by_cases h : t = j
    · subst h; simp
    · rw [if_neg h, params_get r (j + 1) t]
      by_cases hj : j ≤ t
      · rw [if_pos hj, if_pos (by omega)]
        obtain ⟨m, rfl⟩ : ∃ m, t = j + 1 + m := ⟨t - (j + 1), by omega⟩
        rw [show j + 1 + m - (j + 1) = m by omega, show j + 1 + m - j = m + 1 by omega]
        rfl
      · rw [if_neg hj, if_neg (by omega)]
def resRun (tmps : Array Value) : ResultVar → Sem Value
  | .tmp t => pure (tmps.getD t undef)
  | .cell a t => do loadVar t (← asAddr (tmps.getD a undef))
theorem lower_took {E : Env} {s : St} {w0 A0 β0 c0 O w A β} (h : HR w A β s.c (s.heap E)) (t : Tr w0 A0 β0 c0 O w A β s.c (s.heap E)) : Took w0 A0 β0 c0 O w A β s.c (lower E.lvl s.O) [] := by
  have hsub : ∀ k p, lower E.lvl s.O k = some p → s.heap E k = some p := fun k p hk => (lower_heap hk).1
  exact ⟨t.trans (Tr.forget hsub (fun _ h => h) (fun b hb => .inl hb)), h.forget hsub (fun _ h => h) (fun b hb => ⟨(h.imm b hb).1, fun hm => (h.imm b hb).2 (hm.mono hsub)⟩), (fun i hi => by cases hi), List.Pairwise.nil⟩
theorem result_run {E : Env} {s : St} {w A β a} (hs : SR E w A β s a) {t : ResultVar} {vs : List V} {r : List ResultVar} (h : resV E s (t :: r) = some vs) :
    ∃ v vs', vs = v :: vs' ∧ resV E s r = some vs' ∧ ∃ c, (resRun a.tmps t).run E.P w = .ok c w ∧ IC w A β v c := by
  cases t with
  | tmp t =>
    simp only [resV, Option.map_eq_some_iff] at h
    obtain ⟨vs', h, rfl⟩ := h
    exact ⟨_, _, rfl, h, _, rfl, hs.tmp t⟩
  | cell x t =>
    simp only [resV] at h
    split at h
    · rename_i v r' h1 h2
      injection h with h
      subst h
      refine ⟨v, r', rfl, h2, ?_⟩
      cases hcs : cellsAt E s (tget s.τ x) with
      | none => rw [hcs] at h1; cases h1
      | some cs =>
        rw [hcs] at h1
        obtain ⟨b, o, e, hi⟩ := cellsAt_sound hs hcs (hs.tmp x)
        obtain ⟨cv, h3, h4⟩ := readT_sound h1 hi
        refine ⟨cv, ?_, h4⟩
        show (do loadVar t (← asAddr (a.tmps.getD x undef)) : Sem Value).run E.P w = _
        rw [e]
        simp only [asAddr, Sem.run_bind, Sem.run_pure, Result.andThen_ok, h3]
    · cases h
theorem results_run {E : Env} {s : St} {w A β a} (hs : SR E w A β s a) : ∀ (rs : List ResultVar) (vs : List V), resV E s rs = some vs →
    ∃ cs : List Value, (rs.mapM (resRun a.tmps)).run E.P w = .ok cs w ∧ ICs w A β vs cs
  | [], vs, h => by
    simp only [resV, Option.some.injEq] at h
    subst h
    exact ⟨[], rfl, by simp [ICs]⟩
  | t :: r, vs, h => by
    obtain ⟨v, vs', rfl, h2, c, h3, h4⟩ := result_run hs h
    obtain ⟨cs, h5, h6⟩ := results_run hs r vs' h2
    refine ⟨c :: cs, ?_, ?_⟩
    · rw [List.mapM_cons]
      simp only [Sem.run_bind, h3, Result.andThen_ok, h5, Sem.run_pure]
    · simp only [ICs]; exact ⟨c, cs, rfl, h4, h6⟩
theorem RC_tup {w A β} {vs : List V} {cs : List Value} {l : List Info} (h : RCs w A β vs cs l) : RC w A β (tupV vs) (if h : cs.toArray.size = 1 then cs.toArray[0] else .tuple cs.toArray) l := by
  match vs, cs, h with
  | [], cs, h =>
    simp only [RCs] at h
    obtain ⟨rfl, rfl⟩ := h
    simp [tupV, RC, RCs]
  | [v], cs, h =>
    simp only [RCs] at h
    obtain ⟨x, d, l1, l2, rfl, rfl, h1, rfl, rfl⟩ := h
    simpa [tupV] using h1
  | v :: u :: r, cs, h =>
    have h' := h
    simp only [RCs] at h
    obtain ⟨x, d, l1, l2, rfl, rfl, h1, x2, d2, l3, l4, rfl, rfl, h2, h3⟩ := h
    rw [dif_neg (by simp)]
    simp only [tupV, RC]
    exact ⟨_, rfl, h'⟩
theorem leave_marks {E : Env} {s : St} {w0 A0 β0 c0 O A β} {P : Program} {fn : Func} {tmps : Array Value} {R : Ending → World → Prop} {u : FrameMode} (hu : u ≠ .run) (ds0 : List Deferred) : ∀ (ds : List Deferred) (w : World), HR w A β s.c (s.heap E) → MarksOk w A (ds ++ ds0) → (∀ d ∈ ds, ∃ r, d = markD r ∧ w0.heap.size ≤ r) →
    Tr w0 A0 β0 c0 O w A β s.c (s.heap E) → (∀ w2, Tr w0 A0 β0 c0 O w2 A β s.c (s.heap E) → HR w2 A β s.c (s.heap E) → MarksOk w2 A ds0 → (∀ v c, IC w A β v c → IC w2 A β v c) → LeavesInM (Fi none) 0 P fn tmps R ds0 u w2) → LeavesInM (Fi none) 0 P fn tmps R (ds ++ ds0) u w
  | [], w, h, hm, _, t, k => k w t h hm (fun _ _ h => h)
  | d :: ds, w, h, hm, hb, t, k => by
    obtain ⟨r, rfl, hr⟩ := hb d (List.mem_cons_self ..)
    obtain ⟨hA, hw⟩ : A r ∧ w.heap[r]? = some (.deferred (some [])) := by
      rcases hm.each (markD r) (by simp) with ⟨fv, cap, e0⟩ | ⟨r', e, hA, hw⟩
      · cases e0
      · have e0 : r = r' := by simpa [markD] using e
        subst e0
        exact ⟨hA, hw⟩
    have hlt : r < w.heap.size := (h.imm r hA).1
    have hoth : ∀ b, b ≠ r → (w.putObj r (.deferred none)).heap[b]? = w.heap[b]? := fun b hb => World.putObj_heap_other hb
    have hsame : ∀ b, SameC w (w.putObj r (.deferred none)) b := fun b => by
      by_cases e : b = r
      · subst e
        funext o
        simp only [World.cell?, mapC, World.putObj_heap_same hlt, hw]
      · exact sameC (hoth b e)
    have hIC : ∀ v c, IC w A β v c → IC (w.putObj r (.deferred none)) A β v c := fun v c hv => IC.mono (fun _ h => h) (fun b _ => hsame b) (fun _ _ _ h => h) v c hv
    have hMt : ∀ b, Mt (s.heap E) β b → b ≠ r := fun b hm e => (h.imm r hA).2 (by rw [← e]; exact hm)
    have h' : HR (w.putObj r (.deferred none)) A β s.c (s.heap E) := by
      refine ⟨fun q v o hq => ?_, h.sep, fun b hb => ⟨by simpa using (h.imm b hb).1, (h.imm b hb).2⟩, h.fresh, fun q hq => by
        obtain ⟨ha, cs, t, f, hc, hp⟩ := h.laid q hq
        exact ⟨ha, cs, t, f, (hoth q.1 (fun e => by rw [e, hw] at hc; cases hc)).trans hc, hp⟩⟩
      obtain ⟨i, e, ho⟩ := h.obj q v o hq
      exact ⟨i, e, ho.mono (fun _ h => h) (fun b _ => hsame b) (fun _ _ _ h => h) (fun b hb => hoth b (hMt b ⟨q, v, o, i, hq, e, hb⟩))⟩
    have t' : Tr w0 A0 β0 c0 O (w.putObj r (.deferred none)) A β s.c (s.heap E) :=
      ⟨by simpa using t.size, t.os, t.tape, t.output, fun b hb hm => (hoth b (by omega)).trans (t.old b hb hm), t.beta, t.cnt, t.imm, t.newA, t.newM⟩
    have hm' : MarksOk (w.putObj r (.deferred none)) A (ds ++ ds0) := by
      refine ⟨fun d hd => ?_, (List.nodup_cons.1 hm.nodup).2⟩
      rcases hm.each d (by simp at hd ⊢; exact .inr hd) with h0 | ⟨r2, e2, h2, h3⟩
      · exact .inl h0
      refine .inr ⟨r2, e2, h2, (hoth r2 ?_).trans h3⟩
      rintro rfl
      exact (List.nodup_cons.1 hm.nodup).1 (by rw [← e2]; exact hd)
    refine ⟨hu, .inl ⟨r, _, rfl, run_takeDeferred hw, leave_marks hu ds0 ds _ h' hm' (fun d hd => hb d (by simp [hd])) t' (fun w2 t2 h2 hm2 k2 => k w2 t2 h2 hm2 (fun v c hv => k2 v c (hIC v c hv)))⟩⟩
def fnV (call : CallFn) (C : Ctx) (n : Nat) : FuncId → List V → Nat → Nat → Heap → Option (COut × Nat × Heap) := fun f args lvl c O => match C.P.funcs[f]? with
    | none => none
    | some fn => match fn.body with
      | none => none
      | some b =>
        if args.length ≤ fn.ntmps then
          match evC call (envOf C f fn lvl) C.hand n b { τ := params 0 args, L := [], O, c } with
          | some (.norm, s) | some (.ret, s) => match (resV (envOf C f fn lvl) s fn.results.toList).bind (exports (envOf C f fn lvl) s) with
            | some vs => some (.ret (tupV vs), s.c, lower lvl s.O)
            | none => none
          | some (.pan v, s) => some (.pan v, s.c, lower lvl s.O)
          | _ => none
        else none
theorem fn_any {C : Ctx} (hhand : SoundHand C.P C.hand) (hG : ∀ g ∈ C.ok, GoodF C.P g) (hm : C.P.follows .mixedOrders = true) {n : Nat} {call : CallFn} (ih : SoundCall C.P call) : SoundFn C.P ⟨fnV call C n, fun _ _ _ _ _ _ => none⟩ := by
    intro f args lvl c O out c' O' h hO
    dsimp only [fnV] at h
    split at h
    case h_1 => cases h
    rename_i fn hfn
    split at h
    case h_1 => cases h
    rename_i body hbody
    split at h
    case isFalse => cases h
    rename_i hlen
    generalize hE : envOf C f fn lvl = E at h
    have hEP : E.P = C.P := by rw [← hE]; rfl
    have hEl : E.lvl = lvl := by rw [← hE]; rfl
    have hEn : E.n = fn.ntmps := by rw [← hE]; rfl
    have hEok : E.ok = C.ok := by rw [← hE]; rfl
    have hheap : St.heap E { τ := params 0 args, L := [], O := O, c := c } = O := by
      funext k
      unfold St.heap heapOf
      rw [hEl]
      by_cases h1 : k.lvl = lvl
      · rw [if_pos h1, hO k (by omega)]; rfl
      · rw [if_neg h1]
        by_cases h2 : k.lvl < lvl
        · rw [if_pos h2]
        · rw [if_neg h2, hO k (by omega)]
    have low : ∀ (O : Heap) k, lvl ≤ k.lvl → lower lvl O k = none := fun O k hk => by unfold lower; rw [if_neg (by omega)]
    have start : ∀ (w : World) (A : Nat → Prop) (β : Beta) (cs : Array Value), HR w A β c O → ICs w A β args cs.toList →
        SR E w A β { τ := params 0 args, L := [], O := O, c := c } { tmps := cs ++ Array.replicate (fn.ntmps - cs.size) undef, defers := [] } := fun w A β cs hH hA => by
      have hcs : cs.size = args.length := by have := hA.length; simpa using this
      refine ⟨fun t => ?_, by rw [hEn]; simp; omega, by rw [hheap]; exact hH, MarksOk.nil⟩
      rw [params_get]
      simp only [Nat.zero_le, if_true, Nat.sub_zero]
      cases ht : args[t]? with
      | none => exact IC_junk
      | some v =>
        obtain ⟨x, h1, h2⟩ := hA.get ht
        obtain ⟨hl, _⟩ := List.getElem?_eq_some_iff.1 h1
        have hl' : t < cs.size := by simpa using hl
        have : (cs ++ Array.replicate (fn.ntmps - cs.size) undef).getD t undef = x := by
          rw [Array.getD_eq_getD_getElem?, Array.getElem?_append_left hl', ← Array.getElem?_toList, h1]
          rfl
        rw [this]
        exact h2
    have hbodyS := fun e s' hh => evC_sound (E := E) (by rw [hEP]; exact ih) (by rw [hEP]; exact hhand) (by rw [hEok, hEP]; exact hG) (by rw [hEP]; exact hm) none (fun _ => rfl) 0 n body { τ := params 0 args, L := [], O := O, c := c } e s' hh
    have retCase : ∀ (e : Ex) (s : St), e = .norm ∨ e = .ret → evC call E C.hand n body { τ := params 0 args, L := [], O := O, c := c } = some (e, s) →
        (match (resV E s fn.results.toList).bind (exports E s) with | some vs => some (COut.ret (tupV vs), s.c, lower lvl s.O) | none => none) = some (out, c', O') →
        (∀ k, lvl ≤ k.lvl → O' k = none) ∧ ∀ (w : World) (A : Nat → Prop) (β : Beta) (cs : Array Value), HR w A β c O → ICs w A β args cs.toList → Calls C.P f cs w (CallOut w A β c O out c' O') := by
      intro e s he hev h
      cases hres : resV E s fn.results.toList with
      | none => rw [hres] at h; cases h
      | some vs =>
        rw [hres] at h
        simp only [Option.bind_some] at h
        cases hex : exports E s vs with
        | none => rw [hex] at h; cases h
        | some vs' =>
          rw [hex] at h
          simp only [Option.some.injEq, Prod.mk.injEq] at h
          obtain ⟨rfl, rfl, rfl⟩ := h
          refine ⟨low _, fun w A β cs hH hA => calls_in.1 (callsIn_of_wp_marks (F := Fi none) (n := 0) hfn hbody trivial ?_)⟩
          have := hbodyS e s hev w A β _ (start w A β cs hH hA) (bodyPostM (Fi none) 0 C.P fn (CallOut w A β c O (.ret (tupV vs')) s.c (lower lvl s.O))) (fun a' w' A' β' tA hs' => by
            have t := tA.tr
            rw [hheap] at t
            have key : LeavesInM (Fi none) 0 C.P fn a'.tmps (CallOut w A β c O (.ret (tupV vs')) s.c (lower lvl s.O)) a'.defers .returning w' := by
              obtain ⟨ms, ems, hms⟩ := tA.ext
              have hdf := hs'.defers
              rw [ems] at hdf ⊢
              refine leave_marks (by simp) [] ms w' hs'.heap hdf hms t (fun w2 t2 h2 _ k2 => ?_)
              have hs2 : SR E w2 A' β' s { a' with defers := [] } := ⟨fun t => k2 _ _ (hs'.tmp t), hs'.size, h2, MarksOk.nil⟩
              obtain ⟨cvs, h1, h2'⟩ := results_run hs2 fn.results.toList vs hres
              obtain ⟨A'', l, h3, h4⟩ := exports_sound hs2.heap t2 hex h2'
              rw [hEl] at h4
              have hr : (results fn a'.tmps).run C.P w2 = .ok (if h : cvs.toArray.size = 1 then cvs.toArray[0] else .tuple cvs.toArray) w2 := by
                rw [← hEP]
                unfold results
                rw [Array.mapM_eq_mapM_toList]
                simp only [Sem.run_bind, map_eq_pure_bind]
                erw [h1]
                simp
              exact ⟨_, hr, A'', β', _, l, rfl, RC_tup h3, h4⟩
            rcases he with rfl | rfl
            · exact key
            · exact key)
          rw [hEP] at this
          exact this
    split at h
    · rename_i s hev
      exact retCase _ s (.inl rfl) hev h
    · rename_i s hev
      exact retCase _ s (.inr rfl) hev h
    · rename_i v s hev
      simp only [Option.some.injEq, Prod.mk.injEq] at h
      obtain ⟨rfl, rfl, rfl⟩ := h
      refine ⟨low _, fun w A β cs hH hA => calls_in.1 (callsIn_of_wp_marks (F := Fi none) (n := 0) hfn hbody trivial ?_)⟩
      have := hbodyS _ s hev w A β _ (start w A β cs hH hA) (bodyPostM (Fi none) 0 C.P fn (CallOut w A β c O (.pan v) s.c (lower lvl s.O))) (fun a' w' A' β' tA hs' => by
        have t := tA.tr
        rw [hheap] at t
        intro cv hcv
        obtain ⟨ms, ems, hms⟩ := tA.ext
        have hdf := hs'.defers
        show LeavesInM _ _ _ _ _ _ a'.defers _ _
        rw [ems] at hdf ⊢
        refine leave_marks (by simp) [] ms w' hs'.heap hdf hms t (fun w2 t2 h2 _ k2 => ?_)
        have h4 := lower_took h2 t2
        rw [hEl] at h4
        exact ⟨A', β', cv, rfl, k2 _ _ hcv, h4⟩)
      rw [hEP] at this
      exact this
    · cases h
theorem fn_step {C : Ctx} (hhand : SoundHand C.P C.hand) (hG : ∀ g ∈ C.ok, GoodF C.P g) (hm : C.P.follows .mixedOrders = true) {n : Nat} (ih : SoundCall C.P (evF C n)) : SoundFn C.P (evF C (n + 1)) := fun f args lvl c O out c' O' h hO =>
  fn_any hhand hG hm (n := n) ih f args lvl c O out c' O' h hO
theorem setLoop_sound {E : Env} {k : Key} {ver : Nat} {st0 st : Ls} {pend : Option (Option Code)} {s s' : St} {w A β} {i : Info} {l : Nat} (h : HR w A β s.c (s.heap E)) (hi : β k ver = some i) (hl : i.b = some l) (he : setLoop E k ver st0 st pend s = some s') :
    ∃ r : Loop, w.heap[l]? = some (.loop r) ∧ r.state = lsC st0 ∧ ∀ w', w' = w.putObj l (.loop { r with state := lsC st, pending := pend.getD r.pending }) → Step E w A β s w' A β s' := by
  unfold setLoop at he
  split at he
  case h_2 => cases he
  rename_i hh τ ps as bd st' p ho
  obtain ⟨hst, he⟩ := ite_some' he
  injection he with he
  subst he
  subst hst
  have hoh := obj_heap ho
  obtain ⟨i', hi', hoc⟩ := h.obj _ _ _ hoh
  rw [hi] at hi'
  injection hi' with hi'
  subst hi'
  have hoc' := hoc
  unfold OC at hoc
  obtain ⟨b, r, hb, hz, hw, h1, h2, h3, h4, h5, h6, h7⟩ := hoc
  rw [hl] at hb
  injection hb with hb
  subst hb
  refine ⟨r, hw, h4, ?_⟩
  rintro w' rfl
  have hlt : l < w.heap.size := (Array.getElem?_eq_some_iff.1 hw).1
  have hoth : ∀ b, b ≠ l → (w.putObj l (.loop { r with state := lsC st, pending := pend.getD r.pending })).heap[b]? = w.heap[b]? := fun b hb => World.putObj_heap_other hb
  refine Step.upd (o' := .loop hh τ ps as bd st (pend.getD p)) h hoh hi rfl rfl rfl (by simp) (fun b hb => hoth b (by rintro rfl; exact hb hl)) ?_
  unfold OC
  refine ⟨l, _, hl, hz, World.putObj_heap_same hlt, h1, h2, h3, rfl, by simp only [h5], h6, fun t => IC.mono (fun _ h => h) (fun b hb => sameC (hoth b ?_)) (fun _ _ _ h => h) _ _ (h7 t)⟩
  rintro rfl
  exact (h.imm _ hb).2 ⟨k, ver, _, i, hoh, hi, hl⟩
theorem setPs_sound {w A β} : ∀ (ps : List Nat) (args : List V) (cs : List Value) (τ : List (Nat × V)) (tmps : Array Value), ICs w A β args cs → args.length = ps.length → (∀ p ∈ ps, p < tmps.size) → (∀ t, IC w A β (tget τ t) (tmps.getD t undef)) →
    ∃ tm : Array Value, tm = (ps.zip cs).foldl (fun tm (x : Nat × Value) => tm.setIfInBounds x.1 x.2) tmps ∧ tm.size = tmps.size ∧ ∀ t, IC w A β (tget (setPs τ ps args) t) (tm.getD t undef)
  | [], [], cs, τ, tmps, hc, _, _, h => ⟨_, rfl, rfl, h⟩
  | [], _ :: _, _, _, _, _, hl, _, _ => by simp at hl
  | p :: ps, [], _, _, _, _, hl, _, _ => by simp at hl
  | p :: ps, v :: vs, cs, τ, tmps, hc, hl, hp, h => by
    simp only [ICs] at hc
    obtain ⟨c, d, rfl, h1, h2⟩ := hc
    obtain ⟨tm, e, hs, ht⟩ := setPs_sound ps vs d (tset τ p v) (tmps.setIfInBounds p c) h2 (by simpa using hl) (fun q hq => by simpa using hp q (by simp [hq])) (fun t => by
      rw [tget_tset]
      by_cases e : t = p
      · subst e
        rw [if_pos rfl, Array.getD_eq_getD_getElem?, Array.getElem?_setIfInBounds_self_of_lt (hp _ (by simp))]
        exact h1
      · rw [if_neg e, Array.getD_eq_getD_getElem?, Array.getElem?_setIfInBounds_ne (Ne.symm e), ← Array.getD_eq_getD_getElem?]
        exact h t)
    exact ⟨tm, by rw [e]; rfl, by rw [hs]; simp, ht⟩
theorem rnd_step {C : Ctx} (hhand : SoundHand C.P C.hand) (hG : ∀ g ∈ C.ok, GoodF C.P g) (hm : C.P.follows .mixedOrders = true) {n : Nat} (ih : SoundCall C.P (evF C n)) : SoundRnd C.P (evF C (n + 1)) := by
  intro k ver args lvl c O b c' O' h hO
  change roundV (evF C n) C n k ver args lvl c O = some (b, c', O') at h
  unfold roundV at h
  split at h
  case h_2 => cases h
  rename_i v hh τ ps as bd p hk
  obtain ⟨⟨rfl, hlen, hlv, hok, hps⟩, h⟩ := ite_some' h
  generalize hE : envLp C.P hh lvl = E at h
  have hEP : E.P = C.P := by rw [← hE]; rfl
  have hEl : E.lvl = lvl := by rw [← hE]; rfl
  have hEn : E.n = hh.n := by rw [← hE]; rfl
  have hEok : E.ok = hh.ok := by rw [← hE]; rfl
  have hEr : E.inr = true := by rw [← hE]; rfl
  split at h
  case h_2 => cases h
  rename_i s1 ha
  split at h
  case h_2 => cases h
  rename_i s2 hs2
  split at h
  case h_2 => cases h
  rename_i e s3 hb
  split at h
  case h_2 => cases h
  rename_i j hj
  simp only [Option.map_eq_some_iff, Prod.mk.injEq] at h
  obtain ⟨s4, hs4, rfl, rfl, rfl⟩ := h
  refine ⟨fun q hq => by unfold lower; rw [if_neg (by omega)], fun w A β cs hH hA => ?_⟩
  have hheap : St.heap E { τ := setPs τ ps args, L := [], O := O, c := c } = O := by
    funext q
    unfold St.heap heapOf
    rw [hEl]
    by_cases h1 : q.lvl = lvl
    · rw [if_pos h1, hO q (by omega)]; rfl
    · rw [if_neg h1]
      by_cases h2 : q.lvl < lvl
      · rw [if_pos h2]
      · rw [if_neg h2, hO q (by omega)]
  obtain ⟨i, hi, hoc⟩ := hH.obj _ _ _ hk
  unfold OC at hoc
  obtain ⟨l, r, hl, hz, hw, q1, q2, q3, q4, q5, q6, q7⟩ := hoc
  have hvc : v < c := by
    refine Nat.lt_of_not_le fun hle => ?_
    rw [hH.fresh k v hle] at hi
    cases hi
  obtain ⟨tm, etm, hts, htv⟩ := setPs_sound ps args cs.toList τ r.tmps hA hlen (fun p hp => by rw [q6]; simpa using List.all_eq_true.1 hps p hp) q7
  have etm2 : (r.params.zip cs).foldl (fun tmps (x : Nat × Value) => tmps.setIfInBounds x.1 x.2) r.tmps = tm := by
    rw [etm, ← q1, ← Array.foldl_toList, Array.toList_zip]
  refine ⟨i, l, r.fn, tm, r.assign, r.body, hi, hl, hz, ?_, fun m => roundIn_of_wpIn (F := Fi none) trivial ?_⟩
  · have := run_yield (P := C.P) (args := cs) hw (by rw [← Array.length_toList, hA.length, hlen, ← q1, Array.length_toList])
    rw [this, ← etm2]
  · rw [q2, q3]
    have hEG : ∀ g ∈ E.ok, GoodF E.P g := fun g hg => by
      rw [hEP]
      rw [hEok] at hg
      exact hG g (by simpa using List.all_eq_true.1 hok g hg)
    have hev := fun cd s e s' hh => evC_sound (E := E) (by rw [hEP]; exact ih) (by rw [hEP]; exact hhand) hEG (by rw [hEP]; exact hm) (some l) (by rw [hEr]; simp) m n cd s e s' hh
    have hs0 : SR E w A β { τ := setPs τ ps args, L := [], O := O, c := c } { tmps := tm, defers := [] } := ⟨htv, by rw [hts, q6, hEn], by rw [hheap]; exact hH, MarksOk.nil⟩
    have := hev as _ _ s1 ha w A β _ hs0 (Exit.then (fun a₁ w₁ => ∃ w₂, (Instr.beginRound l).run C.P w₁ = .ok () w₂ ∧ bd.wpIn ((Fi none).inRound l) m C.P (roundPost C.P l (fun e w' => ∃ A' β', e = .returned (.bool j.isNone) ∧ Tr w A β c O w' A' β' s4.c (lower lvl s4.O) ∧ HR w' A' β' s4.c (lower lvl s4.O))) a₁ w₂) (fun _ _ _ => False)) (fun a1 w1 A1 β1 t1 hs1 => by
      have hi1 : β1 k v = some i := by rw [t1.tr.beta k v hvc]; exact hi
      obtain ⟨r1, hw1, hst1, hstep1⟩ := setLoop_sound hs1.heap hi1 hl hs2
      have st1 := hstep1 _ rfl
      refine ⟨_, run_beginRound hw1 hst1, ?_⟩
      have hs2' := hs1.step st1
      have := hev bd _ _ s3 hb _ A1 β1 a1 hs2' (roundPost C.P l (fun e w' => ∃ A' β', e = .returned (.bool j.isNone) ∧ Tr w A β c O w' A' β' s4.c (lower lvl s4.O) ∧ HR w' A' β' s4.c (lower lvl s4.O))) (fun a3 w3 A3 β3 t3 hs3 => by
        have t03 := t1.tr.trans (st1.1.trans t3.tr)
        rw [hheap] at t03
        have hi3 : β3 k v = some i := by rw [t03.beta k v hvc]; exact hi
        obtain ⟨r3, hw3, hst3, hstep3⟩ := setLoop_sound hs3.heap hi3 hl hs4
        have st3 := hstep3 _ rfl
        have fin : ∀ jj, j = jj → ∃ v' w', (Instr.endRound l jj).run C.P w3 = .ok v' w' ∧ ∃ A' β', Ending.returned v' = .returned (.bool j.isNone) ∧ Tr w A β c O w' A' β' s4.c (lower lvl s4.O) ∧ HR w' A' β' s4.c (lower lvl s4.O) := fun jj hjj => by
          subst hjj
          refine ⟨_, _, run_endRound j hw3, A3, β3, rfl, ?_⟩
          have e : (w3.putObj l (.loop { r3 with state := if j.isNone then .ready else .done, pending := j })) = w3.putObj l (.loop { r3 with state := lsC (if j.isNone then .ready else .done), pending := (some j).getD r3.pending }) := by
            cases j <;> rfl
          rw [e]
          have tk := lower_took st3.2.1 (t03.trans st3.1)
          rw [hEl] at tk
          exact ⟨tk.tr, tk.hr⟩
        unfold jumpOf at hj
        split at hj
        · injection hj with hj; exact fin none hj.symm
        · injection hj with hj; exact fin (some .ret) hj.symm
        · injection hj with hj; exact fin _ hj.symm
        · cases hj)
      rw [hEP] at this
      exact this)
    rw [hEP] at this
    exact this
theorem evF_sound {C : Ctx} (hhand : SoundHand C.P C.hand) (hG : ∀ g ∈ C.ok, GoodF C.P g) (hm : C.P.follows .mixedOrders = true) : ∀ n, SoundCall C.P (evF C n)
  | 0 => { fn := fun f args lvl c O out c' O' h _ => (by cases h), rnd := fun k ver args lvl c O b c' O' h _ => (by cases h) }
  | n + 1 => { fn := fn_step hhand hG hm (evF_sound hhand hG hm n), rnd := rnd_step hhand hG hm (evF_sound hhand hG hm n) }
end Go.Vi
