/-
  THE VALUE-LEVEL INTERPRETER 'Vi', part 14: what a call hands back, and how the caller takes it.
-/
import Derived.Test.YtpibnnopnhmijaaGreatDoorVA
import Derived.RangeFuncIn
import Derived.RangeFuncCalls
import Derived.RangeFuncLeaves
import Derived.TacticsIn
import Derived.OrdersIn
import Derived.Laws.MakeOwn
import Derived.DeepKeys3
import Derived.Laws.StructEq
import Derived.Laws.IdiomStrings
import Derived.Scope
set_option linter.unusedSimpArgs false
set_option linter.unusedVariables false
namespace Go.Vi
open Go
mutual
def RC (w : World) (A : Nat → Prop) (β : Beta) : V → Value → List Info → Prop
  | .own sz es, c, l => ∃ i, l = [i] ∧ SliceC i 0 es.length c ∧ OC w A β i (.arr sz es)
  | .agg cs, c, l => ∃ a, c = .agg a ∧ RCs w A β cs a.toList l
  | .tup vs, c, l => ∃ a, c = .tuple a ∧ RCs w A β vs a.toList l
  | .ref k ver off len, c, l => l = [] ∧ IC w A β (.ref k ver off len) c
  | .ptr k ver j off, c, l => l = [] ∧ IC w A β (.ptr k ver j off) c
  | .mref k ver, c, l => l = [] ∧ IC w A β (.mref k ver) c
  | .junk, _, l => l = []
  | .iface t v, c, l => l = [] ∧ IC w A β (.iface t v) c
  | .fn f a b, c, l => l = [] ∧ IC w A β (.fn f a b) c
  | .int k n, c, l => l = [] ∧ IC w A β (.int k n) c
  | .bool b, c, l => l = [] ∧ IC w A β (.bool b) c
  | .str s, c, l => l = [] ∧ IC w A β (.str s) c
  | .lst es, c, l => l = [] ∧ IC w A β (.lst es) c
  | .iptr cs, c, l => l = [] ∧ IC w A β (.iptr cs) c
  | .lmap cs, c, l => l = [] ∧ IC w A β (.lmap cs) c
  | .nilS, c, l => l = [] ∧ IC w A β .nilS c
  | .nilP, c, l => l = [] ∧ IC w A β .nilP c
  | .nilI, c, l => l = [] ∧ IC w A β .nilI c
  | .nilF, c, l => l = [] ∧ IC w A β .nilF c
  | .nilM, c, l => l = [] ∧ IC w A β .nilM c
def RCs (w : World) (A : Nat → Prop) (β : Beta) : List V → List Value → List Info → Prop
  | [], c, l => c = [] ∧ l = []
  | v :: r, c, l => ∃ x d l1 l2, c = x :: d ∧ l = l1 ++ l2 ∧ RC w A β v x l1 ∧ RCs w A β r d l2
end
def OwnL (l : List Info) : Prop := l.Pairwise fun i j => ∀ b, i.b = some b → j.b ≠ some b
structure Took (w : World) (A : Nat → Prop) (β : Beta) (c : Nat) (H : Heap) (w' : World) (A' : Nat → Prop) (β' : Beta) (c' : Nat) (H' : Heap) (l : List Info) : Prop where
  tr : Tr w A β c H w' A' β' c' H'
  hr : HR w' A' β' c' H'
  own : ∀ i ∈ l, ∀ b, i.b = some b → (w.heap.size ≤ b ∨ Mt H β b) ∧ b < w'.heap.size ∧ ¬ A' b ∧ ¬ Mt H' β' b
  dist : OwnL l
mutual
theorem RC.mono {w : World} {A A' : Nat → Prop} {β β' : Beta} (hA : ∀ b, A b → A' b) (hβ : ∀ k v i, β k v = some i → β' k v = some i) : ∀ (v : V) (c : Value) (l : List Info), RC w A β v c l → RC w A' β' v c l
  | .own sz es, c, l, h => by
    simp only [RC] at h ⊢
    obtain ⟨i, h1, h2, h3⟩ := h
    exact ⟨i, h1, h2, h3.mono hA (fun _ _ => rfl) hβ (fun _ _ => rfl)⟩
  | .agg cs, c, l, h => by
    simp only [RC] at h ⊢
    obtain ⟨a, h1, h2⟩ := h
    exact ⟨a, h1, RCs.mono hA hβ cs _ l h2⟩
  | .tup cs, c, l, h => by
    simp only [RC] at h ⊢
    obtain ⟨a, h1, h2⟩ := h
    exact ⟨a, h1, RCs.mono hA hβ cs _ l h2⟩
  | .junk, _, _, h => by simpa only [RC] using h
  | .ref .., _, _, h => by simp only [RC] at h ⊢; exact ⟨h.1, IC.mono hA (fun _ _ => rfl) hβ _ _ h.2⟩
  | .ptr .., _, _, h => by simp only [RC] at h ⊢; exact ⟨h.1, IC.mono hA (fun _ _ => rfl) hβ _ _ h.2⟩
  | .mref .., _, _, h => by simp only [RC] at h ⊢; exact ⟨h.1, IC.mono hA (fun _ _ => rfl) hβ _ _ h.2⟩
  | .iface .., _, _, h => by simp only [RC] at h ⊢; exact ⟨h.1, IC.mono hA (fun _ _ => rfl) hβ _ _ h.2⟩
  | .fn .., _, _, h => by simp only [RC] at h ⊢; exact ⟨h.1, IC.mono hA (fun _ _ => rfl) hβ _ _ h.2⟩
  | .int .., _, _, h => by simp only [RC] at h ⊢; exact ⟨h.1, IC.mono hA (fun _ _ => rfl) hβ _ _ h.2⟩
  | .bool _, _, _, h => by simp only [RC] at h ⊢; exact ⟨h.1, IC.mono hA (fun _ _ => rfl) hβ _ _ h.2⟩
  | .str _, _, _, h => by simp only [RC] at h ⊢; exact ⟨h.1, IC.mono hA (fun _ _ => rfl) hβ _ _ h.2⟩
  | .lst _, _, _, h => by simp only [RC] at h ⊢; exact ⟨h.1, IC.mono hA (fun _ _ => rfl) hβ _ _ h.2⟩
  | .iptr _, _, _, h => by simp only [RC] at h ⊢; exact ⟨h.1, IC.mono hA (fun _ _ => rfl) hβ _ _ h.2⟩
  | .lmap _, _, _, h => by simp only [RC] at h ⊢; exact ⟨h.1, IC.mono hA (fun _ _ => rfl) hβ _ _ h.2⟩
  | .nilS, _, _, h => by simp only [RC] at h ⊢; exact ⟨h.1, IC.mono hA (fun _ _ => rfl) hβ _ _ h.2⟩
  | .nilP, _, _, h => by simp only [RC] at h ⊢; exact ⟨h.1, IC.mono hA (fun _ _ => rfl) hβ _ _ h.2⟩
  | .nilI, _, _, h => by simp only [RC] at h ⊢; exact ⟨h.1, IC.mono hA (fun _ _ => rfl) hβ _ _ h.2⟩
  | .nilF, _, _, h => by simp only [RC] at h ⊢; exact ⟨h.1, IC.mono hA (fun _ _ => rfl) hβ _ _ h.2⟩
  | .nilM, _, _, h => by simp only [RC] at h ⊢; exact ⟨h.1, IC.mono hA (fun _ _ => rfl) hβ _ _ h.2⟩
theorem RCs.mono {w : World} {A A' : Nat → Prop} {β β' : Beta} (hA : ∀ b, A b → A' b) (hβ : ∀ k v i, β k v = some i → β' k v = some i) : ∀ (v : List V) (c : List Value) (l : List Info), RCs w A β v c l → RCs w A' β' v c l
  | [], _, _, h => by simpa only [RCs] using h
  | v :: r, c, l, h => by
    simp only [RCs] at h ⊢
    obtain ⟨x, d, l1, l2, h1, h2, h3, h4⟩ := h
    exact ⟨x, d, l1, l2, h1, h2, RC.mono hA hβ v x l1 h3, RCs.mono hA hβ r d l2 h4⟩
end
theorem Took.add {w A β c H w' A' β' c' H' H'' l} {k : Key} {o : Obj} {i : Info} (t : Took w A β c H w' A' β' c' H' (i :: l)) (ho : OC w' A' β' i o)
    (hs : ∀ q p, q ≠ k → H'' q = some p → H' q = some p) (hk : H'' k = some (c', o)) :
    Took w A β c H w' A' (fun q v => if q = k ∧ v = c' then some i else β' q v) (c' + 1) H'' l ∧ (∀ q v j, β' q v = some j → (if q = k ∧ v = c' then some i else β' q v) = some j) := by
  have hβ : ∀ q v j, β' q v = some j → (if q = k ∧ v = c' then some i else β' q v) = some j := fun q v j hj => by
    rw [if_neg]; exact hj
    rintro ⟨_, e⟩
    rw [t.hr.fresh q v (by omega)] at hj
    cases hj
  have hown := t.own i (by simp)
  have hM : ∀ b, Mt H'' (fun q v => if q = k ∧ v = c' then some i else β' q v) b → i.b = some b ∨ Mt H' β' b := by
    rintro b ⟨q, v, p, j, h1, h2, h3⟩
    by_cases e : q = k
    · subst e
      rw [hk] at h1
      injection h1 with h1
      injection h1 with h1 _
      subst h1
      simp at h2
      subst h2
      exact .inl h3
    · dsimp only at h2
      rw [if_neg (fun (x : q = k ∧ v = c') => e x.1)] at h2
      exact .inr ⟨q, v, p, j, hs q _ e h1, h2, h3⟩
  refine ⟨⟨?_, ?_, ?_, (List.pairwise_cons.1 t.dist).2⟩, hβ⟩
  · exact ⟨t.tr.size, t.tr.os, t.tr.tape, t.tr.output, t.tr.old, fun q v hv => by
      try dsimp only
      rw [if_neg (by rintro ⟨_, rfl⟩; have := t.tr.cnt; omega)]
      exact t.tr.beta q v hv, Nat.le_succ_of_le t.tr.cnt, t.tr.imm, t.tr.newA, fun b hb => by
      rcases hM b hb with h1 | h1
      · exact (hown b h1).1.symm
      · exact t.tr.newM b h1⟩
  · have h1 : HR w' A' β' c' (fun q => if q = k then none else H'' q) := by
      have hsub : ∀ q p, (if q = k then none else H'' q) = some p → H' q = some p := fun q p hq => by
        split at hq
        · cases hq
        · rename_i hne; exact hs q p hne hq
      exact t.hr.forget hsub (fun _ h => h) (fun b hA => ⟨(t.hr.imm b hA).1, fun hm => (t.hr.imm b hA).2 (hm.mono hsub)⟩)
    refine HR.new h1 (fun q p hq hp => by rw [if_neg hq]; exact hp) hk (Nat.le_refl _) (fun _ _ _ => rfl) (fun b hm => h1.lt hm) (fun b hb => ⟨(hown b hb).2.2.1, fun q v p j hq hp hj hjb => ?_⟩) (ho.mono (fun _ h => h) (fun _ _ => rfl) hβ (fun _ _ => rfl))
    exact (hown b hb).2.2.2 ⟨q, v, p, j, hs q _ hq hp, hj, hjb⟩
  · intro j hj b hb
    obtain ⟨h1, h2, h3, h4⟩ := t.own j (by simp [hj]) b hb
    refine ⟨h1, h2, h3, fun hm => ?_⟩
    rcases hM b hm with h5 | h5
    · exact (List.pairwise_cons.1 t.dist).1 j hj b h5 hb
    · exact h4 h5
theorem import1_sound {E : Env} {d off : Nat} {w A β c H w' A' β' l1 l2} {v : V} {x : Value} {s : St} (t : Took w A β c H w' A' β' s.c (s.heap E) (l1 ++ l2)) (hv : RC w' A' β' v x l1) (hshape : ∀ cs, v ≠ .agg cs ∧ v ≠ .tup cs) :
    ∃ β'', Took w A β c H w' A' β'' (import1 E d off v s).2.c ((import1 E d off v s).2.heap E) l2 ∧ IC w' A' β'' (import1 E d off v s).1 x ∧ (∀ q v j, β' q v = some j → β'' q v = some j) ∧ (import1 E d off v s).2.τ = s.τ := by
  cases v
  case own sz es =>
    simp only [RC] at hv
    obtain ⟨i, rfl, h2, h3⟩ := hv
    have hh : ({ s.put E ⟨E.lvl, d, off⟩ s.c (.arr sz es) with c := s.c + 1 } : St).heap E = fun q => if q = (⟨E.lvl, d, off⟩ : Key) then some (s.c, .arr sz es) else s.heap E q := by
      show (s.put E ⟨E.lvl, d, off⟩ s.c (.arr sz es)).heap E = _
      rw [heap_put (Nat.le_refl _)]
    obtain ⟨g1, g2⟩ := Took.add (k := ⟨E.lvl, d, off⟩) (H'' := ({ s.put E ⟨E.lvl, d, off⟩ s.c (.arr sz es) with c := s.c + 1 } : St).heap E) t h3 (fun q p hq hp => by rw [hh] at hp; simpa only [if_neg hq] using hp) (by rw [hh]; simp)
    refine ⟨_, g1, ?_, g2, put_lc.1⟩
    simp only [import1, IC]
    exact ⟨i, by simp, h2⟩
  case agg cs => exact absurd rfl (hshape cs).1
  case tup cs => exact absurd rfl (hshape cs).2
  case junk =>
    simp only [RC] at hv
    subst hv
    exact ⟨β', t, by simp [import1, IC], fun _ _ _ h => h, rfl⟩
  all_goals
    simp only [RC] at hv
    obtain ⟨rfl, h2⟩ := hv
    exact ⟨β', t, h2, fun _ _ _ h => h, rfl⟩
def flatShape : List V → Prop := fun vs => ∀ v ∈ vs, ∀ cs, v ≠ .agg cs ∧ v ≠ .tup cs
theorem importL_sound {E : Env} {d : Nat} {w A β c H w' A' l2} : ∀ (j : Nat) (vs : List V) (xs : List Value) (l1 : List Info) (β' : Beta) (s : St), Took w A β c H w' A' β' s.c (s.heap E) (l1 ++ l2) → RCs w' A' β' vs xs l1 → flatShape vs →
    ∃ β'', Took w A β c H w' A' β'' (importL E d j vs s).2.c ((importL E d j vs s).2.heap E) l2 ∧ ICs w' A' β'' (importL E d j vs s).1 xs ∧ (∀ q v j, β' q v = some j → β'' q v = some j) ∧ (importL E d j vs s).2.τ = s.τ
  | j, [], xs, l1, β', s, t, hv, _ => by
    simp only [RCs] at hv
    obtain ⟨rfl, rfl⟩ := hv
    exact ⟨β', t, by simp [importL, ICs], fun _ _ _ h => h, rfl⟩
  | j, v :: r, xs, l1, β', s, t, hv, hf => by
    simp only [RCs] at hv
    obtain ⟨x, dd, la, lb, rfl, rfl, h1, h2⟩ := hv
    rw [List.append_assoc] at t
    obtain ⟨β1, t1, i1, e1, τ1⟩ := import1_sound (d := d) (off := j) t h1 (hf v (by simp))
    obtain ⟨β2, t2, i2, e2, τ2⟩ := importL_sound (j + 1) r dd lb β1 _ t1 (RCs.mono (fun _ h => h) e1 r dd lb h2) (fun v hv => hf v (by simp [hv]))
    refine ⟨β2, t2, ?_, fun q v j h => e2 q v j (e1 q v j h), τ2.trans τ1⟩
    simp only [importL, ICs]
    exact ⟨x, dd, rfl, IC.mono (fun _ h => h) (fun _ _ => rfl) e2 _ _ i1, i2⟩
def tupShape : List V → Prop := fun vs => ∀ v ∈ vs, (∀ cs, v ≠ .tup cs) ∧ ∀ cs, v = .agg cs → flatShape cs
theorem importT_sound {E : Env} {d : Nat} {w A β c H w' A' l2} : ∀ (j : Nat) (vs : List V) (xs : List Value) (l1 : List Info) (β' : Beta) (s : St), Took w A β c H w' A' β' s.c (s.heap E) (l1 ++ l2) → RCs w' A' β' vs xs l1 → tupShape vs →
    ∃ β'', Took w A β c H w' A' β'' (importT E d j vs s).2.c ((importT E d j vs s).2.heap E) l2 ∧ ICs w' A' β'' (importT E d j vs s).1 xs ∧ (∀ q v j, β' q v = some j → β'' q v = some j) ∧ (importT E d j vs s).2.τ = s.τ
  | j, [], xs, l1, β', s, t, hv, _ => by
    simp only [RCs] at hv
    obtain ⟨rfl, rfl⟩ := hv
    exact ⟨β', t, by simp [importT, ICs], fun _ _ _ h => h, rfl⟩
  | j, v :: r, xs, l1, β', s, t, hv, hf => by
    simp only [RCs] at hv
    obtain ⟨x, dd, la, lb, rfl, rfl, h1, h2⟩ := hv
    rw [List.append_assoc] at t
    have hfv := hf v (by simp)
    have hstep : ∃ β1, Took w A β c H w' A' β1 (match v with | .agg cs => let q := importL E d (1000 * (j + 1)) cs s; (V.agg q.1, q.2) | _ => import1 E d (j + 1) v s).2.c ((match v with | .agg cs => let q := importL E d (1000 * (j + 1)) cs s; (V.agg q.1, q.2) | _ => import1 E d (j + 1) v s).2.heap E) (lb ++ l2) ∧
        IC w' A' β1 (match v with | .agg cs => let q := importL E d (1000 * (j + 1)) cs s; (V.agg q.1, q.2) | _ => import1 E d (j + 1) v s).1 x ∧ (∀ q v j, β' q v = some j → β1 q v = some j) ∧ (match v with | .agg cs => let q := importL E d (1000 * (j + 1)) cs s; (V.agg q.1, q.2) | _ => import1 E d (j + 1) v s).2.τ = s.τ := by
      split
      · rename_i cs
        simp only [RC] at h1
        obtain ⟨a, rfl, h1⟩ := h1
        obtain ⟨β1, t1, i1, e1, τ1⟩ := importL_sound (d := d) (1000 * (j + 1)) cs _ la β' s t h1 (hfv.2 cs rfl)
        exact ⟨β1, t1, by simp only [IC]; exact ⟨a, rfl, i1⟩, e1, τ1⟩
      · rename_i hne
        exact import1_sound t h1 (fun cs => ⟨fun e => hne cs e, hfv.1 cs⟩)
    obtain ⟨β1, t1, i1, e1, τ1⟩ := hstep
    obtain ⟨β2, t2, i2, e2, τ2⟩ := importT_sound (j + 1) r dd lb β1 _ t1 (RCs.mono (fun _ h => h) e1 r dd lb h2) (fun v hv => hf v (by simp [hv]))
    refine ⟨β2, t2, ?_, fun q v j h => e2 q v j (e1 q v j h), τ2.trans τ1⟩
    simp only [importT, ICs]
    exact ⟨x, dd, rfl, IC.mono (fun _ h => h) (fun _ _ => rfl) e2 _ _ i1, i2⟩
end Go.Vi
namespace Go.Vi
open Go
def noB : Beta := fun _ _ => none
def noH : Heap := fun _ => none
theorem noM {β b} : ¬ Mt noH β b := by rintro ⟨_, _, _, _, h, _⟩; cases h
def PureOut (w : World) (A : Nat → Prop) (out : COut) (e : Ending) (w' : World) : Prop :=
  ∃ A', Tr w A noB 0 noH w' A' noB 0 noH ∧ (∀ b, A' b → b < w'.heap.size) ∧
    match out with
    | .ret v => ∃ cv l, e = .returned cv ∧ RC w' A' noB v cv l ∧ (∀ i ∈ l, ∀ b, i.b = some b → w.heap.size ≤ b ∧ b < w'.heap.size ∧ ¬ A' b) ∧ OwnL l
    | .pan v => ∃ cv, e = .panicked [{ v := cv, recovered := false }] ∧ PC w' A' v cv
def SoundPure (P : Program) (g : FuncId) (args : List V) (out : COut) : Prop :=
  ∀ (w : World) (A : Nat → Prop) (cs : Array Value), JA w A → (∀ b, A b → b < w.heap.size) → PCs w A args cs.toList → Calls P g cs w (PureOut w A out)
def CallOut (w : World) (A : Nat → Prop) (β : Beta) (c : Nat) (O : Heap) (out : COut) (c' : Nat) (O' : Heap) (e : Ending) (w' : World) : Prop :=
  ∃ A' β', match out with
    | .ret v => ∃ cv l, e = .returned cv ∧ RC w' A' β' v cv l ∧ Took w A β c O w' A' β' c' O' l
    | .pan v => ∃ cv, e = .panicked [{ v := cv, recovered := false }] ∧ IC w' A' β' v cv ∧ Took w A β c O w' A' β' c' O' []
def SoundFn (P : Program) (call : CallFn) : Prop :=
  ∀ f args lvl c O out c' O', call f args lvl c O = some (out, c', O') → (∀ k, lvl ≤ k.lvl → O k = none) →
    (∀ k, lvl ≤ k.lvl → O' k = none) ∧ ∀ (w : World) (A : Nat → Prop) (β : Beta) (cs : Array Value), HR w A β c O → ICs w A β args cs.toList → Calls P f cs w (CallOut w A β c O out c' O')
def Fi (ro : Option Nat) : Fence := { fn := fun _ => True, depth := none, alive := false, round := ro }
def SoundRnd (P : Program) (call : CallFn) : Prop :=
  ∀ k ver args lvl c O b c' O', call.rnd k ver args lvl c O = some (b, c', O') → (∀ q, lvl ≤ q.lvl → O q = none) →
    (∀ q, lvl ≤ q.lvl → O' q = none) ∧ ∀ (w : World) (A : Nat → Prop) (β : Beta) (cs : Array Value), HR w A β c O → ICs w A β args cs.toList →
      ∃ i l f tmps as bd, β k ver = some i ∧ i.b = some l ∧ i.csz = 1 ∧ (Instr.yield l cs).run P w = .ok (.round l f tmps as bd) w ∧
        ∀ m, RoundIn (Fi none) m P l f tmps as bd w (fun e w' => ∃ A' β', e = .returned (.bool b) ∧ Tr w A β c O w' A' β' c' O' ∧ HR w' A' β' c' O')
structure SoundCall (P : Program) (call : CallFn) : Prop where
  fn : SoundFn P call
  rnd : SoundRnd P call
mutual
theorem PC.any {w A A'} : ∀ (v : V) (c : Value), PC w A v c → (shares v = true → ∀ b, A b → A' b) → PC w A' v c
  | .int .., _, h, _ => by simpa [PC] using h
  | .bool _, _, h, _ => by simpa [PC] using h
  | .str _, _, h, _ => by simpa [PC] using h
  | .agg cs, c, h, hs => by
    simp only [PC] at h ⊢
    obtain ⟨a, e, h⟩ := h
    exact ⟨a, e, PCs.any cs _ h (by simpa [shares] using hs)⟩
  | .tup cs, c, h, hs => by
    simp only [PC] at h ⊢
    obtain ⟨a, e, h⟩ := h
    exact ⟨a, e, PCs.any cs _ h (by simpa [shares] using hs)⟩
  | .lst es, c, h, hs => PC.mono (hs rfl) (fun _ _ => rfl) _ _ h
  | .iptr es, c, h, hs => PC.mono (hs rfl) (fun _ _ => rfl) _ _ h
  | .lmap es, c, h, hs => PC.mono (hs rfl) (fun _ _ => rfl) _ _ h
  | .nilS, _, h, _ => by simpa [PC] using h
  | .nilP, _, h, _ => by simpa [PC] using h
  | .nilI, _, h, _ => by simpa [PC] using h
  | .nilF, _, h, _ => by simpa [PC] using h
  | .nilM, _, h, _ => by simpa [PC] using h
  | .iface t v, c, h, hs => by
    simp only [PC] at h ⊢
    obtain ⟨a, e, h⟩ := h
    exact ⟨a, e, PC.any v _ h (by simpa [shares] using hs)⟩
  | .fn f a b, c, h, hs => by
    simp only [PC] at h ⊢
    obtain ⟨x, y, e, h1, h2⟩ := h
    simp only [shares, Bool.or_eq_true] at hs
    exact ⟨x, y, e, PCs.any a _ h1 (fun e => hs (.inl e)), PCs.any b _ h2 (fun e => hs (.inr e))⟩
  | .ref .., _, h, _ => by simp [PC] at h
  | .ptr .., _, h, _ => by simp [PC] at h
  | .mref .., _, h, _ => by simp [PC] at h
  | .junk, _, h, _ => by simp [PC] at h
  | .own .., _, h, _ => by simp [PC] at h
theorem PCs.any {w A A'} : ∀ (v : List V) (c : List Value), PCs w A v c → (sharesL v = true → ∀ b, A b → A' b) → PCs w A' v c
  | [], _, h, _ => by simpa [PCs] using h
  | v :: r, c, h, hs => by
    simp only [PCs] at h ⊢
    obtain ⟨x, d, e, h1, h2⟩ := h
    simp only [sharesL, Bool.or_eq_true] at hs
    exact ⟨x, d, e, PC.any v x h1 (fun e => hs (.inl e)), PCs.any r d h2 (fun e => hs (.inr e))⟩
end
theorem sharesL_app : ∀ (a b : List V), sharesL (a ++ b) = (sharesL a || sharesL b)
  | [], b => by simp [sharesL]
  | v :: r, b => by simp [sharesL, sharesL_app r b, Bool.or_assoc]
theorem shares_cells (v : V) : sharesL (cellsV v) = shares v := by cases v <;> simp [cellsV, sharesL, shares]
theorem sharesL_flat : ∀ es : List V, sharesL (flat es) = sharesL es
  | [] => rfl
  | e :: r => by
    show sharesL (cellsV e ++ flat r) = _
    rw [sharesL_app, shares_cells, sharesL_flat r]; rfl
theorem PEs.any {w A A' b o sz es} (h : PEs w A b o sz es) (hs : sharesL es = true → ∀ b, A b → A' b) : PEs w A' b o sz es := by
  obtain ⟨h1, vs, h2, h3⟩ := PEs_vals h
  have h4 := PCs.any (A' := A') _ _ h2 (by rw [sharesL_flat]; exact hs)
  exact PEs_mk (w := w) h1 h4 (fun _ _ h => h) h3
mutual
theorem RC.any {w A β A' β'} : ∀ (v : V) (c : Value) (l : List Info), pureR v = true → RC w A β v c l → (shares v = true → ∀ b, A b → A' b) → RC w A' β' v c l
  | .own sz es, c, l, _, h, hs => by
    simp only [RC] at h ⊢
    obtain ⟨i, h1, h2, h3⟩ := h
    refine ⟨i, h1, h2, ?_⟩
    unfold OC at h3 ⊢
    cases e : i.b with
    | none => rw [e] at h3; exact h3
    | some b =>
      rw [e] at h3
      exact ⟨h3.1, h3.2.1, h3.2.2.1, h3.2.2.2.1, h3.2.2.2.2.any hs⟩
  | .agg cs, c, l, hp, h, hs => by
    simp only [RC] at h ⊢
    obtain ⟨a, e, h⟩ := h
    exact ⟨a, e, RCs.any cs _ l (by simpa [pureR] using hp) h (by simpa [shares] using hs)⟩
  | .tup cs, c, l, hp, h, hs => by
    simp only [RC] at h ⊢
    obtain ⟨a, e, h⟩ := h
    exact ⟨a, e, RCs.any cs _ l (by simpa [pureR] using hp) h (by simpa [shares] using hs)⟩
  | .ref .., _, _, hp, _, _ => by simp [pureR] at hp
  | .ptr .., _, _, hp, _, _ => by simp [pureR] at hp
  | .mref .., _, _, hp, _, _ => by simp [pureR] at hp
  | .junk, _, _, hp, _, _ => by simp [pureR] at hp
  | .iface .., _, _, hp, h, hs => by simp only [RC] at h ⊢; exact ⟨h.1, IC.of_pure _ _ (IC.pure_of _ _ hp h.2 hs)⟩
  | .fn .., _, _, hp, h, hs => by simp only [RC] at h ⊢; exact ⟨h.1, IC.of_pure _ _ (IC.pure_of _ _ hp h.2 hs)⟩
  | .int .., _, _, hp, h, hs => by simp only [RC] at h ⊢; exact ⟨h.1, IC.of_pure _ _ (IC.pure_of _ _ hp h.2 hs)⟩
  | .bool _, _, _, hp, h, hs => by simp only [RC] at h ⊢; exact ⟨h.1, IC.of_pure _ _ (IC.pure_of _ _ hp h.2 hs)⟩
  | .str _, _, _, hp, h, hs => by simp only [RC] at h ⊢; exact ⟨h.1, IC.of_pure _ _ (IC.pure_of _ _ hp h.2 hs)⟩
  | .lst _, _, _, hp, h, hs => by simp only [RC] at h ⊢; exact ⟨h.1, IC.of_pure _ _ (IC.pure_of _ _ hp h.2 hs)⟩
  | .iptr _, _, _, hp, h, hs => by simp only [RC] at h ⊢; exact ⟨h.1, IC.of_pure _ _ (IC.pure_of _ _ hp h.2 hs)⟩
  | .lmap _, _, _, hp, h, hs => by simp only [RC] at h ⊢; exact ⟨h.1, IC.of_pure _ _ (IC.pure_of _ _ hp h.2 hs)⟩
  | .nilS, _, _, hp, h, hs => by simp only [RC] at h ⊢; exact ⟨h.1, IC.of_pure _ _ (IC.pure_of _ _ hp h.2 hs)⟩
  | .nilP, _, _, hp, h, hs => by simp only [RC] at h ⊢; exact ⟨h.1, IC.of_pure _ _ (IC.pure_of _ _ hp h.2 hs)⟩
  | .nilI, _, _, hp, h, hs => by simp only [RC] at h ⊢; exact ⟨h.1, IC.of_pure _ _ (IC.pure_of _ _ hp h.2 hs)⟩
  | .nilF, _, _, hp, h, hs => by simp only [RC] at h ⊢; exact ⟨h.1, IC.of_pure _ _ (IC.pure_of _ _ hp h.2 hs)⟩
  | .nilM, _, _, hp, h, hs => by simp only [RC] at h ⊢; exact ⟨h.1, IC.of_pure _ _ (IC.pure_of _ _ hp h.2 hs)⟩
theorem RCs.any {w A β A' β'} : ∀ (v : List V) (c : List Value) (l : List Info), pureRL v = true → RCs w A β v c l → (sharesL v = true → ∀ b, A b → A' b) → RCs w A' β' v c l
  | [], _, _, _, h, _ => by simpa [RCs] using h
  | v :: r, c, l, hp, h, hs => by
    simp only [RCs] at h ⊢
    obtain ⟨x, d, l1, l2, h1, h2, h3, h4⟩ := h
    simp only [pureRL, Bool.and_eq_true] at hp
    simp only [sharesL, Bool.or_eq_true] at hs
    exact ⟨x, d, l1, l2, h1, h2, RC.any v x l1 hp.1 h3 (fun e => hs (.inl e)), RCs.any r d l2 hp.2 h4 (fun e => hs (.inr e))⟩
end
theorem HR.empty {w : World} {A : Nat → Prop} (hJ : JA w A) (hA : ∀ b, A b → b < w.heap.size) : HR w A noB 0 noH where
  obj k v o h := by cases h
  sep k k' v v' o o' i i' b h := by cases h
  imm b hb := ⟨hA b hb, noM⟩
  fresh _ _ _ := rfl
  laid := hJ
theorem pure_of_call {P : Program} {call : CallFn} (hc : SoundCall P call) {g : FuncId} {args : List V} {out : COut} {c' : Nat} {O' : Heap} (h : call g args 0 0 noH = some (out, c', O')) (hp : match out with | .ret v => pureR v = true | .pan v => pureR v = true) : SoundPure P g args out := by
  intro w A cs hJ hA hargs
  have hr : HR w A noB 0 noH := HR.empty hJ hA
  obtain ⟨hO, hcalls⟩ := hc.fn g args 0 0 noH out c' O' h (fun _ _ => rfl)
  have hO' : O' = noH := funext fun k => hO k (Nat.zero_le _)
  refine (hcalls w A noB cs hr hargs.to_ICs).mono ?_
  rintro e w' ⟨A', β', hout⟩
  have key : ∀ {l}, Took w A noB 0 noH w' A' β' c' O' l → Tr w A noB 0 noH w' A' noB 0 noH ∧ (∀ b, A' b → b < w'.heap.size) := fun t => by
    refine ⟨⟨t.tr.size, t.tr.os, t.tr.tape, t.tr.output, t.tr.old, fun _ _ _ => rfl, Nat.le_refl _, t.tr.imm, t.tr.newA, fun b hb => absurd hb noM⟩, fun b hb => (t.hr.imm b hb).1⟩
  cases out with
  | ret v =>
    obtain ⟨cv, l, he, hrc, t⟩ := hout
    obtain ⟨k1, k2⟩ := key t
    refine ⟨A', k1, k2, cv, l, he, RC.any v cv l hp hrc (fun _ _ h => h), fun i hi b hb => ?_, t.dist⟩
    obtain ⟨h1, h2, h3, _⟩ := t.own i hi b hb
    exact ⟨h1.resolve_right noM, h2, h3⟩
  | pan v =>
    obtain ⟨cv, he, hic, t⟩ := hout
    obtain ⟨k1, k2⟩ := key t
    exact ⟨A', k1, k2, cv, he, IC.pure_of v cv hp hic (fun _ _ h => h)⟩
end Go.Vi
namespace Go.Vi
open Go
theorem shape1 {v : V} (h : flatR v = true) : ∀ cs, v ≠ .agg cs ∧ v ≠ .tup cs := fun cs => ⟨(by rintro rfl; cases h), (by rintro rfl; cases h)⟩
theorem shapeL {vs : List V} (h : vs.all flatR = true) : flatShape vs := fun v hv => shape1 (List.all_eq_true.1 h v hv)
theorem importV_sound {E : Env} {d : Nat} {w A β c H w' A' β' l} {v : V} {x : Value} {s : St} (t : Took w A β c H w' A' β' s.c (s.heap E) l) (hv : RC w' A' β' v x l) (hs : shapeR v = true) :
    ∃ β'', Took w A β c H w' A' β'' (importV E d v s).2.c ((importV E d v s).2.heap E) [] ∧ IC w' A' β'' (importV E d v s).1 x ∧ (importV E d v s).2.τ = s.τ := by
  have one : (∀ cs, v ≠ .agg cs ∧ v ≠ .tup cs) → ∃ β'', Took w A β c H w' A' β'' (import1 E d 0 v s).2.c ((import1 E d 0 v s).2.heap E) [] ∧ IC w' A' β'' (import1 E d 0 v s).1 x ∧ (import1 E d 0 v s).2.τ = s.τ := fun hne => by
    obtain ⟨β'', h1, h2, _, h4⟩ := import1_sound (d := d) (off := 0) (l1 := l) (l2 := []) (by rw [List.append_nil]; exact t) hv hne
    exact ⟨β'', h1, h2, h4⟩
  cases v with
  | agg cs =>
    simp only [RC] at hv
    obtain ⟨a, rfl, hv⟩ := hv
    obtain ⟨β'', h1, h2, _, h4⟩ := importL_sound (d := d) (l2 := []) 1 cs a.toList l β' s (by rw [List.append_nil]; exact t) hv (shapeL hs)
    exact ⟨β'', h1, by simp only [importV, IC]; exact ⟨a, rfl, h2⟩, h4⟩
  | tup vs =>
    simp only [RC] at hv
    obtain ⟨a, rfl, hv⟩ := hv
    obtain ⟨β'', h1, h2, _, h4⟩ := importT_sound (d := d) (l2 := []) 0 vs a.toList l β' s (by rw [List.append_nil]; exact t) hv (fun v hv' => by
      have := List.all_eq_true.1 (show (vs.all fun v => match v with | .agg cs => cs.all flatR | .tup _ => false | _ => true) = true from hs) v hv'
      refine ⟨fun cs e => ?_, fun cs e => ?_⟩
      · subst e; cases this
      · subst e; exact shapeL this)
    exact ⟨β'', h1, by simp only [importV, IC]; exact ⟨a, rfl, h2⟩, h4⟩
  | _ => exact one (fun cs => ⟨by simp, by simp⟩)
theorem lget_merge {lvl : Nat} {O : Heap} : ∀ (ks : List (Nat × Nat)) (acc : Loc), (∀ q p, lget acc q = some p → O ⟨lvl, q.1, q.2⟩ = some p) → ∀ q p, lget (mergeL lvl O ks acc) q = some p → O ⟨lvl, q.1, q.2⟩ = some p
  | [], acc, h, q, p, hq => h q p hq
  | k :: r, acc, h, q, p, hq => by
    unfold mergeL at hq
    cases e : O ⟨lvl, k.1, k.2⟩ with
    | none => rw [e] at hq; exact lget_merge r acc h q p hq
    | some o =>
      rw [e] at hq
      refine lget_merge r _ (fun q' p' hq' => ?_) q p hq
      rw [lget_lput] at hq'
      split at hq'
      · rename_i e'; subst e'; rw [e]; exact hq'
      · exact h q' p' hq'
theorem Took.of_pure {E : Env} {w A A1 β s s1 w' A1' l} (h : HR w A β s.c (s.heap E)) (h1 : Step E w A β s w A1 β s1) (t : Tr w A1 noB 0 noH w' A1' noB 0 noH) (hA : ∀ b, A1' b → b < w'.heap.size)
    (hown : ∀ i ∈ l, ∀ b, i.b = some b → w.heap.size ≤ b ∧ b < w'.heap.size ∧ ¬ A1' b) (hd : OwnL l) : Took w A β s.c (s.heap E) w' A1' β s1.c (s1.heap E) l := by
  have hold : ∀ b, b < w.heap.size → w'.heap[b]? = w.heap[b]? := fun b hb => t.old b hb noM
  have hnA : ∀ b, A1' b → A1 b ∨ w.heap.size ≤ b := fun b hb => by
    rcases t.newA b hb with h2 | h2 | h2
    · exact .inl h2
    · exact absurd h2 noM
    · exact .inr h2
  have hlt : ∀ b, Mt (s1.heap E) β b → b < w.heap.size := fun b hm => h1.2.1.lt hm
  have tr2 : Tr w A1 β s1.c (s1.heap E) w' A1' β s1.c (s1.heap E) := by
    refine ⟨t.size, t.os, t.tape, t.output, fun b hb _ => hold b hb, fun _ _ _ => rfl, Nat.le_refl _, t.imm, fun b hb => (hnA b hb).imp id .inr, fun b hb => .inl hb⟩
  refine ⟨h1.1.trans tr2, ?_, fun i hi b hb => ?_, hd⟩
  · refine ⟨fun k v o hk => ?_, h1.2.1.sep, fun b hb => ⟨hA b hb, fun hm => ?_⟩, h1.2.1.fresh, h1.2.1.laid.step (fun b hb => hold b (h1.2.1.imm b hb).1) t.imm⟩
    · obtain ⟨i, e, ho⟩ := h1.2.1.obj k v o hk
      exact ⟨i, e, ho.mono t.imm (fun b hb => sameC (hold b (h1.2.1.imm b hb).1)) (fun _ _ _ h => h) (fun b hb => hold b (hlt b ⟨k, v, o, i, hk, e, hb⟩))⟩
    · rcases hnA b hb with h2 | h2
      · exact (h1.2.1.imm b h2).2 hm
      · have := hlt b hm; omega
  · obtain ⟨g1, g2, g3⟩ := hown i hi b hb
    exact ⟨.inl g1, g2, g3, fun hm => by have := hlt b hm; omega⟩
def CallR (E : Env) (w : World) (A : Nat → Prop) (β : Beta) (s : St) (res : Res) (e : Ending) (w' : World) : Prop :=
  ∃ A' β', match res with
    | .val v s' => ∃ cv, e = .returned cv ∧ Step E w A β s w' A' β' s' ∧ IC w' A' β' v cv
    | .pan v s' => ∃ cv, e = .panicked [{ v := cv, recovered := false }] ∧ Step E w A β s w' A' β' s' ∧ IC w' A' β' v cv
def SoundHand (P : Program) (Cx : FuncId → Option (List V → Option V)) : Prop := ∀ g F pargs v, Cx g = some F → F pargs = some v → SoundPure P g pargs (.ret v)
theorem Took.step {E : Env} {w A β s w' A' β' s'} (t : Took w A β s.c (s.heap E) w' A' β' s'.c (s'.heap E) []) (hτ : s'.τ = s.τ) : Step E w A β s w' A' β' s' := ⟨t.tr, t.hr, hτ⟩
theorem callV_sound {E : Env} {call : CallFn} {Cx : FuncId → Option (List V → Option V)} {d : Nat} {f : V} {args : List V} {s : St} {res : Res} {w A β cf} {cargs : Array Value} (hcall : SoundCall E.P call) (hhand : SoundHand E.P Cx)
    (h : HR w A β s.c (s.heap E)) (hf : IC w A β f cf) (hargs : ICs w A β args cargs.toList) (he : callV call E Cx d f args s = some res) :
    ∃ g x y, cf = .func (.func g) x y ∧ g ∈ E.ok ∧ Calls E.P g (x ++ cargs ++ y) w (CallR E w A β s res) := by
  unfold callV at he
  split at he
  · rename_i g first caps
    split at he
    case isFalse => cases he
    rename_i hok
    simp only [IC] at hf
    obtain ⟨x, y, rfl, hx, hy⟩ := hf
    refine ⟨g, x, y, rfl, by simpa using hok, ?_⟩
    have hall : ICs w A β (first ++ args ++ caps) (x ++ cargs ++ y).toList := by
      simp only [Array.toList_append]
      exact (hx.app hargs).app hy
    generalize first ++ args ++ caps = all at hall he
    generalize x ++ cargs ++ y = call0 at hall
    dsimp only at he
    split at he
    ·
      rename_i pargs hp
      have hp : frzs E s all = some pargs := by
        split at hp
        · cases hp
        · exact hp
      obtain ⟨st, hpc⟩ := frzs_dels h hall hp
      generalize hA1 : (fun b => A b ∨ Frozen (s.heap E) β (refsL all) b) = A1 at st hpc
      have hA1s : ∀ b, A1 b → b < w.heap.size := fun b hb => (st.2.1.imm b hb).1
      have key : ∀ out, (match Cx g with | some F => (F pargs).map COut.ret | none => (call g pargs 0 0 (fun _ => none)).map (fun (q : COut × Nat × Heap) => q.1)) = some out →
          (match out with | .ret v => pureR v = true | .pan v => pureR v = true) → SoundPure E.P g pargs out := fun out ho hpo => by
        split at ho
        · rename_i F hF
          cases hFv : F pargs with
          | none => rw [hFv] at ho; cases ho
          | some v => rw [hFv] at ho; injection ho with ho; subst ho; exact hhand g F pargs v hF hFv
        · cases hc : call g pargs 0 0 (fun _ => none) with
          | none => rw [hc] at ho; cases ho
          | some q =>
            obtain ⟨o, c', O'⟩ := q
            rw [hc] at ho
            injection ho with ho
            subst ho
            exact pure_of_call hcall hc (by cases o <;> exact hpo)
      split at he
      · rename_i v ho
        split at he
        case isFalse => cases he
        rename_i hpv
        simp only [Bool.and_eq_true] at hpv
        injection he with he
        have hS := key _ ho hpv.1 w A1 call0 st.2.1.laid hA1s hpc
        refine hS.mono ?_
        rintro e w' ⟨A1', t, hA1', cv, l, rfl, hrc, hown, hd⟩
        by_cases hsh : shares v = true
        · rw [if_pos hsh] at he
          have tk : Took w A β s.c (s.heap E) w' A1' β (St.dels E (refsL all) s).c ((St.dels E (refsL all) s).heap E) l := Took.of_pure h st t hA1' hown hd
          obtain ⟨β'', t2, i2, τ2⟩ := importV_sound (d := d) (v := v) (x := cv) tk (RC.any v cv l hpv.1 hrc (fun _ _ h => h)) hpv.2
          subst he
          exact ⟨A1', β'', cv, rfl, t2.step (τ2.trans st.2.2), i2⟩
        · rw [if_neg hsh] at he
          have t0 : Tr w A noB 0 noH w' A noB 0 noH := ⟨t.size, t.os, t.tape, t.output, t.old, fun _ _ _ => rfl, Nat.le_refl _, fun _ h => h, fun b hb => .inl hb, fun b hb => absurd hb noM⟩
          have tk : Took w A β s.c (s.heap E) w' A β s.c (s.heap E) l := Took.of_pure h (Step.refl h) t0 (fun b hb => Nat.lt_of_lt_of_le (h.imm b hb).1 t.size) (fun i hi b hb => ⟨(hown i hi b hb).1, (hown i hi b hb).2.1, fun hAb => by have := (h.imm b hAb).1; have := (hown i hi b hb).1; omega⟩) hd
          obtain ⟨β'', t2, i2, τ2⟩ := importV_sound (d := d) (v := v) (x := cv) tk (RC.any v cv l hpv.1 hrc (fun hs => absurd hs hsh)) hpv.2
          subst he
          exact ⟨A, β'', cv, rfl, t2.step τ2, i2⟩
      · rename_i v ho
        split at he
        case isFalse => cases he
        rename_i hpv
        simp only [Bool.and_eq_true, Bool.not_eq_true'] at hpv
        injection he with he
        have hS := key _ ho hpv.1 w A1 call0 st.2.1.laid hA1s hpc
        refine hS.mono ?_
        rintro e w' ⟨A1', t, hA1', cv, rfl, hrc⟩
        have t0 : Tr w A noB 0 noH w' A noB 0 noH := ⟨t.size, t.os, t.tape, t.output, t.old, fun _ _ _ => rfl, Nat.le_refl _, fun _ h => h, fun b hb => .inl hb, fun b hb => absurd hb noM⟩
        have tk : Took w A β s.c (s.heap E) w' A β s.c (s.heap E) [] := Took.of_pure h (Step.refl h) t0 (fun b hb => Nat.lt_of_lt_of_le (h.imm b hb).1 t.size) (fun i hi => by cases hi) List.Pairwise.nil
        subst he
        exact ⟨A, β, cv, rfl, tk.step rfl, IC.of_pure v cv (PC.any v cv hrc (fun hs => by rw [hpv.2] at hs; cases hs))⟩
      · cases he
    ·
      split at he
      case h_2 => cases he
      rename_i o c' O' hc
      have hO : ∀ k : Key, E.lvl + 1 ≤ k.lvl → s.heap E k = none := fun k hk => by
        cases e : s.heap E k with
        | none => rfl
        | some p => have := heap_lvl e; omega
      obtain ⟨hO', hcalls⟩ := hcall.fn g all (E.lvl + 1) s.c (s.heap E) o c' O' hc hO
      have hsub : ∀ q p, St.heap E { τ := s.τ, L := mergeL E.lvl O' (keysOf s.L) [], O := O', c := c' } q = some p → O' q = some p := fun q p hq => by
        unfold St.heap heapOf at hq
        dsimp only at hq
        split at hq
        · rename_i e
          have := lget_merge (keysOf s.L) [] (fun q p hq => by cases hq) _ p hq
          cases q
          dsimp only at e this
          subst e
          exact this
        · split at hq
          · exact hq
          · cases hq
      have tk : ∀ {w' A' β' l}, Took w A β s.c (s.heap E) w' A' β' c' O' l → Took w A β s.c (s.heap E) w' A' β' c' (St.heap E { τ := s.τ, L := mergeL E.lvl O' (keysOf s.L) [], O := O', c := c' }) l := fun t =>
        ⟨t.tr.trans (Tr.forget hsub (fun _ h => h) (fun b hb => .inl hb)), t.hr.forget hsub (fun _ h => h) (fun b hA => ⟨(t.hr.imm b hA).1, fun hm => (t.hr.imm b hA).2 (hm.mono hsub)⟩), fun i hi b hb => by
          obtain ⟨g1, g2, g3, g4⟩ := t.own i hi b hb
          exact ⟨g1, g2, g3, fun hm => g4 (hm.mono hsub)⟩, t.dist⟩
      refine (hcalls w A β call0 h hall).mono ?_
      rintro e w' ⟨A', β', hout⟩
      split at he
      · rename_i v
        split at he
        case isFalse => cases he
        rename_i hsv
        injection he with he
        obtain ⟨cv, l, rfl, hrc, t⟩ := hout
        obtain ⟨β'', t2, i2, τ2⟩ := importV_sound (d := d) (v := v) (x := cv) (s := { τ := s.τ, L := mergeL E.lvl O' (keysOf s.L) [], O := O', c := c' }) (tk t) hrc hsv
        subst he
        exact ⟨A', β'', cv, rfl, t2.step τ2, i2⟩
      · rename_i v
        injection he with he
        obtain ⟨cv, rfl, hic, t⟩ := hout
        subst he
        exact ⟨A', β', cv, rfl, (tk t).step rfl, hic⟩
  · cases he
end Go.Vi
namespace Go.Vi
open Go
mutual
def ownK (E : Env) : V → List Key
  | .ref k _ _ _ => if k.lvl = E.lvl then [k] else []
  | .agg cs => ownKL E cs
  | _ => []
def ownKL (E : Env) : List V → List Key
  | [] => []
  | v :: r => ownK E v ++ ownKL E r
end
mutual
def frzK : V → List Key
  | .agg cs => frzKL cs
  | .tup cs => refsL cs
  | .iface _ v => refs v
  | .fn _ a b => refsL a ++ refsL b
  | _ => []
def frzKL : List V → List Key
  | [] => []
  | v :: r => frzK v ++ frzKL r
end
mutual
theorem ownK_sub {E} : ∀ (v : V), (∀ k ∈ ownK E v, k ∈ refs v) ∧ (∀ k ∈ frzK v, k ∈ refs v) ∧ ((refs v).Nodup → (ownK E v).Nodup ∧ ∀ k ∈ ownK E v, k ∉ frzK v)
  | .ref k _ _ _ => by
    simp only [ownK, frzK, refs]
    split <;> simp
  | .agg cs => by simp only [ownK, frzK, refs]; exact ownKL_sub cs
  | .tup _ => by simp [ownK, frzK, refs]
  | .iface .. => by simp [ownK, frzK, refs]
  | .fn .. => by simp [ownK, frzK, refs]
  | .int .. => by simp [ownK, frzK, refs]
  | .bool _ => by simp [ownK, frzK, refs]
  | .str _ => by simp [ownK, frzK, refs]
  | .lst _ => by simp [ownK, frzK, refs]
  | .iptr _ => by simp [ownK, frzK, refs]
  | .lmap _ => by simp [ownK, frzK, refs]
  | .nilS => by simp [ownK, frzK, refs]
  | .nilP => by simp [ownK, frzK, refs]
  | .nilI => by simp [ownK, frzK, refs]
  | .nilF => by simp [ownK, frzK, refs]
  | .nilM => by simp [ownK, frzK, refs]
  | .ptr .. => by simp [ownK, frzK, refs]
  | .mref .. => by simp [ownK, frzK, refs]
  | .own .. => by simp [ownK, frzK, refs]
  | .junk => by simp [ownK, frzK, refs]
theorem ownKL_sub {E} : ∀ (v : List V), (∀ k ∈ ownKL E v, k ∈ refsL v) ∧ (∀ k ∈ frzKL v, k ∈ refsL v) ∧ ((refsL v).Nodup → (ownKL E v).Nodup ∧ ∀ k ∈ ownKL E v, k ∉ frzKL v)
  | [] => by simp [ownKL, frzKL, refsL]
  | v :: r => by
    obtain ⟨a1, a2, a3⟩ := ownK_sub (E := E) v
    obtain ⟨b1, b2, b3⟩ := ownKL_sub (E := E) r
    simp only [ownKL, frzKL, refsL]
    refine ⟨fun k hk => ?_, fun k hk => ?_, fun hn => ?_⟩
    · rw [List.mem_append] at hk ⊢; exact hk.imp (a1 k) (b1 k)
    · rw [List.mem_append] at hk ⊢; exact hk.imp (a2 k) (b2 k)
    · rw [List.nodup_append] at hn
      obtain ⟨n1, n2, n3⟩ := hn
      obtain ⟨c1, c2⟩ := a3 n1
      obtain ⟨d1, d2⟩ := b3 n2
      refine ⟨?_, fun k hk hf => ?_⟩
      · rw [List.nodup_append]; exact ⟨c1, d1, fun x hx y hy => n3 x (a1 x hx) y (b1 y hy)⟩
      · rw [List.mem_append] at hk hf
        rcases hk with hk | hk <;> rcases hf with hf | hf
        · exact c2 k hk hf
        · exact n3 k (a1 k hk) k (b2 k hf) rfl
        · exact n3 k (a2 k hf) k (b1 k hk) rfl
        · exact d2 k hk hf
end
def Owns (H : Heap) (β : Beta) : List Key → List Info → Prop
  | [], l => l = []
  | k :: ks, l => ∃ i r, l = i :: r ∧ (∃ ver o j, H k = some (ver, o) ∧ β k ver = some j ∧ i.b = j.b) ∧ Owns H β ks r
theorem Owns.app {H β} : ∀ {a b : List Key} {l m : List Info}, Owns H β a l → Owns H β b m → Owns H β (a ++ b) (l ++ m)
  | [], _, _, _, h, k => by simp only [Owns] at h; subst h; exact k
  | x :: a, b, l, m, h, k => by
    simp only [Owns] at h
    obtain ⟨i, r, rfl, h1, h2⟩ := h
    exact ⟨i, r ++ m, rfl, h1, Owns.app h2 k⟩
theorem Owns.mem {H β} : ∀ {a : List Key} {l : List Info}, Owns H β a l → ∀ i ∈ l, ∃ k ∈ a, ∃ ver o j, H k = some (ver, o) ∧ β k ver = some j ∧ i.b = j.b
  | [], _, h, i, hi => by simp only [Owns] at h; subst h; cases hi
  | x :: a, l, h, i, hi => by
    simp only [Owns] at h
    obtain ⟨j, r, rfl, h1, h2⟩ := h
    rcases List.mem_cons.1 hi with e | e
    · subst e; exact ⟨x, by simp, h1⟩
    · obtain ⟨k, hk, h3⟩ := Owns.mem h2 i e
      exact ⟨k, by simp [hk], h3⟩
theorem Owns.dist {H β w A c} (hH : HR w A β c H) : ∀ {a : List Key} {l : List Info}, Owns H β a l → a.Nodup → OwnL l
  | [], _, h, _ => by simp only [Owns] at h; subst h; exact List.Pairwise.nil
  | x :: a, l, h, hn => by
    simp only [Owns] at h
    obtain ⟨j, r, rfl, ⟨ver, o, j', g1, g2, g3⟩, h2⟩ := h
    rw [List.nodup_cons] at hn
    refine List.pairwise_cons.2 ⟨fun i hi b hb hb' => ?_, Owns.dist hH h2 hn.2⟩
    obtain ⟨k, hk, ver', o', j2, f1, f2, f3⟩ := h2.mem i hi
    rw [g3] at hb
    rw [f3] at hb'
    have := hH.sep x k _ _ _ _ _ _ b g1 f1 g2 f2 hb hb'
    subst this
    exact hn.1 hk
mutual
theorem RC.of_pure {w A β} : ∀ (v : V) (c : Value), PC w A v c → RC w A β v c []
  | .agg cs, c, h => by
    simp only [PC] at h; simp only [RC]
    obtain ⟨a, e, h⟩ := h
    exact ⟨a, e, RCs.of_pure cs _ h⟩
  | .tup cs, c, h => by
    simp only [PC] at h; simp only [RC]
    obtain ⟨a, e, h⟩ := h
    exact ⟨a, e, RCs.of_pure cs _ h⟩
  | .own .., _, h => by simp [PC] at h
  | .junk, _, h => by simp [PC] at h
  | .ref .., _, h => by simp [PC] at h
  | .ptr .., _, h => by simp [PC] at h
  | .mref .., _, h => by simp [PC] at h
  | .iface .., _, h => by simp only [RC]; exact ⟨trivial, IC.of_pure _ _ h⟩
  | .fn .., _, h => by simp only [RC]; exact ⟨trivial, IC.of_pure _ _ h⟩
  | .int .., _, h => by simp only [RC]; exact ⟨trivial, IC.of_pure _ _ h⟩
  | .bool _, _, h => by simp only [RC]; exact ⟨trivial, IC.of_pure _ _ h⟩
  | .str _, _, h => by simp only [RC]; exact ⟨trivial, IC.of_pure _ _ h⟩
  | .lst _, _, h => by simp only [RC]; exact ⟨trivial, IC.of_pure _ _ h⟩
  | .iptr _, _, h => by simp only [RC]; exact ⟨trivial, IC.of_pure _ _ h⟩
  | .lmap _, _, h => by simp only [RC]; exact ⟨trivial, IC.of_pure _ _ h⟩
  | .nilS, _, h => by simp only [RC]; exact ⟨trivial, IC.of_pure _ _ h⟩
  | .nilP, _, h => by simp only [RC]; exact ⟨trivial, IC.of_pure _ _ h⟩
  | .nilI, _, h => by simp only [RC]; exact ⟨trivial, IC.of_pure _ _ h⟩
  | .nilF, _, h => by simp only [RC]; exact ⟨trivial, IC.of_pure _ _ h⟩
  | .nilM, _, h => by simp only [RC]; exact ⟨trivial, IC.of_pure _ _ h⟩
theorem RCs.of_pure {w A β} : ∀ (v : List V) (c : List Value), PCs w A v c → RCs w A β v c []
  | [], _, h => by simp only [PCs] at h; simp only [RCs]; exact ⟨h, trivial⟩
  | v :: r, c, h => by
    simp only [PCs] at h; simp only [RCs]
    obtain ⟨x, d, e, h1, h2⟩ := h
    exact ⟨x, d, [], [], e, rfl, RC.of_pure v x h1, RCs.of_pure r d h2⟩
end
def FrzIn (A' : Nat → Prop) (H : Heap) (β : Beta) (ks : List Key) : Prop := ∀ k ver o i b, k ∈ ks → H k = some (ver, o) → β k ver = some i → i.b = some b → A' b
theorem export1_sound {E : Env} {s : St} {w A A' β n} (hH : HR w A β n (s.heap E)) (hA : ∀ b, A b → A' b) {v v' : V} {c : Value} (he : export1 E s v = some v') (hc : IC w A β v c) (hk : FrzIn A' (s.heap E) β (frzK v)) :
    ∃ l, RC w A' β v' c l ∧ Owns (s.heap E) β (ownK E v) l ∧ ∀ k ∈ frzK v, k.lvl = E.lvl := by
  have dflt : (frzK v = refs v) → ownK E v = [] → (if (refs v).all (fun k => k.lvl == E.lvl) = true then frz E s v else none) = some v' → ∃ l, RC w A' β v' c l ∧ Owns (s.heap E) β (ownK E v) l ∧ ∀ k ∈ frzK v, k.lvl = E.lvl := fun e1 e2 h => by
    split at h
    · rename_i hall
      refine ⟨[], RC.of_pure v' c (frz_sound hH hA v v' c h hc (by rw [e1] at hk; exact hk)), by rw [e2]; rfl, fun k hk' => ?_⟩
      rw [e1] at hk'
      simpa using List.all_eq_true.1 hall k hk'
    · cases h
  have low : v = v' → (∀ w A, RC w A β v c [] ↔ ([] : List Info) = [] ∧ IC w A β v c) → ownK E v = [] → frzK v = [] → ∃ l, RC w A' β v' c l ∧ Owns (s.heap E) β (ownK E v) l ∧ ∀ k ∈ frzK v, k.lvl = E.lvl := fun e1 e2 e3 e4 => by
    subst e1
    refine ⟨[], (e2 w A').2 ⟨rfl, IC.mono hA (fun _ _ => rfl) (fun _ _ _ h => h) v c hc⟩, by rw [e3]; rfl, by rw [e4]; simp⟩
  cases v with
  | ref k ver off len =>
    unfold export1 at he
    dsimp only at he
    split at he
    · rename_i hl
      split at he
      · rename_i sz es ho
        split at he
        case isFalse => cases he
        rename_i hle
        injection he with he
        subst he
        have hh := obj_heap ho
        obtain ⟨i, hi, hoc⟩ := hH.obj k ver _ hh
        simp only [IC] at hc
        obtain ⟨i', hi', hs⟩ := hc
        rw [hi] at hi'
        injection hi' with hi'
        subst hi'
        have hlen : ((es.drop off).take len).length = len := by rw [List.length_take, List.length_drop]; omega
        refine ⟨[{ i with base := i.base + off }], ?_, ?_, by simp [frzK]⟩
        · simp only [RC]
          refine ⟨_, rfl, ?_, ?_⟩
          · rw [hlen]
            obtain ⟨ao, cap, rfl, h1, h2, h3⟩ := hs
            exact ⟨ao, cap, rfl, h1, h2, by simpa using h3⟩
          · unfold OC at hoc ⊢
            dsimp only
            cases e : i.b with
            | none => rw [e] at hoc; dsimp only at hoc ⊢; subst hoc; simp
            | some b =>
              rw [e] at hoc
              dsimp only at hoc ⊢
              obtain ⟨q1, q2, q3, q4, q5⟩ := hoc
              refine ⟨q1, q2, ?_, q4, ?_⟩
              · refine Nat.le_trans (Nat.mul_le_mul_right _ ?_) q3
                rw [hlen]; omega
              · rw [Nat.add_mul]
                exact PEs_take len (PEs_drop off (by omega) (PEs.mono hA (fun _ _ => rfl) b rfl _ _ _ q5))
        · simp only [ownK, if_pos hl]
          exact ⟨_, [], rfl, ⟨ver, _, i, hh, hi, rfl⟩, rfl⟩
      · cases he
    · rename_i hl
      split at he
      · injection he with he
        exact low he (fun _ _ => by simp only [RC]) (by simp only [ownK, if_neg hl]) rfl
      · cases he
  | ptr k ver j off =>
    unfold export1 at he
    dsimp only at he
    split at he
    · injection he with he
      exact low he (fun _ _ => by simp only [RC]) rfl rfl
    · cases he
  | mref k ver =>
    unfold export1 at he
    dsimp only at he
    split at he
    · injection he with he
      exact low he (fun _ _ => by simp only [RC]) rfl rfl
    · cases he
  | agg _ => cases he
  | tup _ => cases he
  | own _ _ => cases he
  | junk => cases he
  | _ => exact dflt (by simp [frzK, refs]) (by simp [ownK]) he
theorem exportL_sound {E : Env} {s : St} {w A A' β n} (hH : HR w A β n (s.heap E)) (hA : ∀ b, A b → A' b) : ∀ {v v' : List V} {c : List Value}, exportL E s v = some v' → ICs w A β v c → FrzIn A' (s.heap E) β (frzKL v) →
    ∃ l, RCs w A' β v' c l ∧ Owns (s.heap E) β (ownKL E v) l ∧ ∀ k ∈ frzKL v, k.lvl = E.lvl
  | [], v', c, he, hc, _ => by
    injection he with he
    subst he
    simp only [ICs] at hc
    exact ⟨[], by simp only [RCs]; exact ⟨hc, trivial⟩, rfl, by simp [frzKL]⟩
  | v :: r, v', c, he, hc, hk => by
    unfold exportL at he
    split at he
    · rename_i a b ha hb
      injection he with he
      subst he
      simp only [ICs] at hc
      obtain ⟨x, d, rfl, h1, h2⟩ := hc
      obtain ⟨l1, f1, f2, f3⟩ := export1_sound hH hA ha h1 (fun k ver o i b hk' => hk k ver o i b (by simp [frzKL, hk']))
      obtain ⟨l2, g1, g2, g3⟩ := exportL_sound hH hA hb h2 (fun k ver o i b hk' => hk k ver o i b (by simp [frzKL, hk']))
      refine ⟨l1 ++ l2, ?_, f2.app g2, fun k hk' => ?_⟩
      · simp only [RCs]; exact ⟨x, d, l1, l2, rfl, rfl, f1, g1⟩
      · simp only [frzKL, List.mem_append] at hk'; exact hk'.elim (f3 k) (g3 k)
    · cases he
theorem exportA_sound {E : Env} {s : St} {w A A' β n} (hH : HR w A β n (s.heap E)) (hA : ∀ b, A b → A' b) {v v' : V} {c : Value} (he : exportA E s v = some v') (hc : IC w A β v c) (hk : FrzIn A' (s.heap E) β (frzK v)) :
    ∃ l, RC w A' β v' c l ∧ Owns (s.heap E) β (ownK E v) l ∧ ∀ k ∈ frzK v, k.lvl = E.lvl := by
  unfold exportA at he
  split at he
  · rename_i cs
    simp only [Option.map_eq_some_iff] at he
    obtain ⟨x, he, rfl⟩ := he
    simp only [IC] at hc
    obtain ⟨a, rfl, hc⟩ := hc
    obtain ⟨l, h1, h2, h3⟩ := exportL_sound hH hA he hc hk
    exact ⟨l, by simp only [RC]; exact ⟨a, rfl, h1⟩, h2, h3⟩
  · exact export1_sound hH hA he hc hk
theorem exportT_sound {E : Env} {s : St} {w A A' β n} (hH : HR w A β n (s.heap E)) (hA : ∀ b, A b → A' b) : ∀ {v v' : List V} {c : List Value}, exportT E s v = some v' → ICs w A β v c → FrzIn A' (s.heap E) β (frzKL v) →
    ∃ l, RCs w A' β v' c l ∧ Owns (s.heap E) β (ownKL E v) l ∧ ∀ k ∈ frzKL v, k.lvl = E.lvl
  | [], v', c, he, hc, _ => by
    injection he with he
    subst he
    simp only [ICs] at hc
    exact ⟨[], by simp only [RCs]; exact ⟨hc, trivial⟩, rfl, by simp [frzKL]⟩
  | v :: r, v', c, he, hc, hk => by
    unfold exportT at he
    split at he
    · rename_i a b ha hb
      injection he with he
      subst he
      simp only [ICs] at hc
      obtain ⟨x, d, rfl, h1, h2⟩ := hc
      obtain ⟨l1, f1, f2, f3⟩ := exportA_sound hH hA ha h1 (fun k ver o i b hk' => hk k ver o i b (by simp [frzKL, hk']))
      obtain ⟨l2, g1, g2, g3⟩ := exportT_sound hH hA hb h2 (fun k ver o i b hk' => hk k ver o i b (by simp [frzKL, hk']))
      refine ⟨l1 ++ l2, ?_, f2.app g2, fun k hk' => ?_⟩
      · simp only [RCs]; exact ⟨x, d, l1, l2, rfl, rfl, f1, g1⟩
      · simp only [frzKL, List.mem_append] at hk'; exact hk'.elim (f3 k) (g3 k)
    · cases he
theorem nodupK_nodup : ∀ {l : List Key}, nodupK l = true → l.Nodup
  | [], _ => List.nodup_nil
  | k :: r, h => by
    simp only [nodupK, Bool.and_eq_true, Bool.not_eq_true'] at h
    exact List.nodup_cons.2 ⟨by simpa using h.1, nodupK_nodup h.2⟩
theorem ownK_lvl {E} : ∀ (v : V), ∀ k ∈ ownK E v, k.lvl = E.lvl := by
  intro v
  induction v using ownK.induct (E := E) (motive_2 := fun vs => ∀ k ∈ ownKL E vs, k.lvl = E.lvl) with
  | case1 k _ _ _ h => simp [ownK, h]
  | case2 k _ _ _ h => simp [ownK, h]
  | case3 cs ih => simpa only [ownK] using ih
  | case4 v h1 h2 => intro k hk; cases v <;> simp_all [ownK]
  | case5 => rename_i hk; simp [ownKL] at hk
  | case6 v r h1 h2 => rename_i k hk; simp only [ownKL, List.mem_append] at hk; exact hk.elim (h1 k) (h2 k)
theorem ownKL_lvl {E} : ∀ (vs : List V), ∀ k ∈ ownKL E vs, k.lvl = E.lvl
  | [], k, hk => by simp [ownKL] at hk
  | v :: r, k, hk => by simp only [ownKL, List.mem_append] at hk; exact hk.elim (ownK_lvl v k) (ownKL_lvl r k)
theorem lower_heap {E : Env} {s : St} {k : Key} {p : Nat × Obj} (h : lower E.lvl s.O k = some p) : s.heap E k = some p ∧ k.lvl < E.lvl := by
  unfold lower at h
  split at h
  · rename_i hl
    refine ⟨?_, hl⟩
    unfold St.heap heapOf
    rw [if_neg (by omega), if_pos hl, h]
  · cases h
theorem exports0_sound {E : Env} {s : St} {w0 A0 β0 c0 O w A β} (h : HR w A β s.c (s.heap E)) (t : Tr w0 A0 β0 c0 O w A β s.c (s.heap E)) {vs vs' : List V} {cs : List Value} (he : exports0 E s vs = some vs') (hv : ICs w A β vs cs) :
    ∃ A' l, RCs w A' β vs' cs l ∧ Took w0 A0 β0 c0 O w A' β s.c (lower E.lvl s.O) l := by
  have hsub : ∀ k p, lower E.lvl s.O k = some p → s.heap E k = some p := fun k p hk => (lower_heap hk).1
  have main : ∀ (K K' : List Key) (l : List Info), (∀ k ∈ K, k.lvl = E.lvl) → (∀ k ∈ K', k.lvl = E.lvl) → K'.Nodup → (∀ k ∈ K', k ∉ K) → Owns (s.heap E) β K' l →
      Took w0 A0 β0 c0 O w (fun b => A b ∨ Frozen (s.heap E) β K b) β s.c (lower E.lvl s.O) l := by
    intro K K' l hK hK' hn hd ho
    have hfm : ∀ b, Frozen (s.heap E) β K b → Mt (s.heap E) β b := fun b ⟨k, ver, o, i, _, hb1, hb2, hb3⟩ => ⟨k, ver, o, i, hb1, hb2, hb3⟩
    have hlow : ∀ k ver o i b, k.lvl = E.lvl → s.heap E k = some (ver, o) → β k ver = some i → i.b = some b → ¬ Mt (lower E.lvl s.O) β b := by
      rintro k ver o i b hl g1 g2 g3 ⟨q, v, p, j, f1, f2, f3⟩
      obtain ⟨f1, f4⟩ := lower_heap f1
      have := h.sep q k _ _ _ _ _ _ b f1 g1 f2 g2 f3 g3
      subst this
      omega
    refine ⟨t.trans (Tr.forget hsub (fun _ h => .inl h) (fun b hb => hb.imp id (hfm b))), h.forget hsub (fun _ h => .inl h) (fun b hb => ?_), fun i hi b hb => ?_, ho.dist h hn⟩
    · rcases hb with hb | hb
      · exact ⟨(h.imm b hb).1, fun hm => (h.imm b hb).2 (hm.mono hsub)⟩
      · refine ⟨h.lt (hfm b hb), ?_⟩
        obtain ⟨k, ver, o, i, hk, g1, g2, g3⟩ := hb
        exact hlow k ver o i b (hK k hk) g1 g2 g3
    · obtain ⟨k, hk, ver, o, j, g1, g2, g3⟩ := ho.mem i hi
      rw [g3] at hb
      have hm : Mt (s.heap E) β b := ⟨k, ver, o, j, g1, g2, hb⟩
      refine ⟨(t.newM b hm).symm, h.lt hm, ?_, hlow k ver o j b (hK' k hk) g1 g2 hb⟩
      rintro (hA | ⟨q, v, p, i', hq, f1, f2, f3⟩)
      · exact (h.imm b hA).2 hm
      · have := h.sep q k _ _ _ _ _ _ b f1 g1 f2 g2 f3 hb
        subst this
        exact hd q hk hq
  unfold exports0 at he
  split at he
  · rename_i hnd
    obtain ⟨s1, s2, s3⟩ := ownKL_sub (E := E) vs
    obtain ⟨s3, s4⟩ := s3 (nodupK_nodup hnd)
    obtain ⟨l, h1, h2, h3⟩ := exportT_sound (A' := fun b => A b ∨ Frozen (s.heap E) β (frzKL vs) b) h (fun _ h => .inl h) he hv (fun k ver o i b hk h1 h2 h3 => .inr ⟨k, ver, o, i, hk, h1, h2, h3⟩)
    exact ⟨_, l, h1, main _ _ l h3 (ownKL_lvl vs) s3 s4 h2⟩
  · split at he
    · rename_i hall
      have h1 := frzs_sound (A' := fun b => A b ∨ Frozen (s.heap E) β (refsL vs) b) h (fun _ h => .inl h) vs vs' cs he hv (fun k ver o i b hk h1 h2 h3 => .inr ⟨k, ver, o, i, hk, h1, h2, h3⟩)
      exact ⟨_, [], RCs.of_pure _ _ h1, main _ [] [] (fun k hk => by simpa using List.all_eq_true.1 hall k hk) (by simp) List.nodup_nil (by simp) rfl⟩
    · cases he
theorem seal1_sound {E : Env} {k : Key} {ver : Nat} {s : St} {w A β} (h : HR w A β s.c (s.heap E)) :
    ∃ A', HR w A' β (seal1 E k ver s).c ((seal1 E k ver s).heap E) ∧ Tr w A β s.c (s.heap E) w A' β (seal1 E k ver s).c ((seal1 E k ver s).heap E) ∧ (seal1 E k ver s).O = s.O ∧ (seal1 E k ver s).c = s.c := by
  have stay : ∃ A', HR w A' β s.c (s.heap E) ∧ Tr w A β s.c (s.heap E) w A' β s.c (s.heap E) ∧ s.O = s.O ∧ s.c = s.c := ⟨A, h, Tr.refl .., rfl, rfl⟩
  unfold seal1
  split
  case h_2 => exact stay
  rename_i q v2 hk
  split
  case h_2 => exact stay
  rename_i es hq
  split
  case isFalse => exact stay
  rename_i hl
  obtain ⟨hl1, hl2⟩ := hl
  have hkh := obj_heap hk
  have hqh := obj_heap hq
  have hne : k ≠ q := by
    rintro rfl
    rw [hkh] at hqh
    injection hqh with e
    injection e with _ e
    cases e
  obtain ⟨i, hi, hoi⟩ := h.obj _ _ _ hkh
  obtain ⟨j, hj, hoj⟩ := h.obj _ _ _ hqh
  have hheap : ((s.del E q).put E k ver (.var [.lmap (unpairs es)])).heap E = fun x => if x = k then some (ver, .var [.lmap (unpairs es)]) else if x = q then none else s.heap E x := by
    rw [heap_put (by omega), heap_del (by omega)]
  have hO : ((s.del E q).put E k ver (.var [.lmap (unpairs es)])).O = s.O := by
    unfold St.put
    rw [if_pos hl2]
    unfold St.del
    rw [if_pos hl1]
  have hc : ((s.del E q).put E k ver (.var [.lmap (unpairs es)])).c = s.c := by
    unfold St.put
    rw [if_pos hl2]
    unfold St.del
    rw [if_pos hl1]
  generalize (s.del E q).put E k ver (.var [.lmap (unpairs es)]) = s' at hheap hO hc
  rw [hheap, hc, hO]
  have hold : ∀ x v o, (if x = k then some (ver, Obj.var [.lmap (unpairs es)]) else if x = q then none else s.heap E x) = some (v, o) → ∃ o', s.heap E x = some (v, o') ∧ x ≠ q := fun x v o hx => by
    split at hx
    · rename_i e
      subst e
      injection hx with hx
      injection hx with e1 e2
      subst e1
      exact ⟨_, hkh, hne⟩
    · split at hx
      · cases hx
      · rename_i e
        exact ⟨o, hx, e⟩
  unfold OC at hoj
  obtain ⟨b2, ents, clock, hb2, hz, hw2, hme, hbo⟩ := hoj
  have hmt : ∀ b, Mt (fun x => if x = k then some (ver, Obj.var [.lmap (unpairs es)]) else if x = q then none else s.heap E x) β b → Mt (s.heap E) β b ∧ b ≠ b2 := by
    rintro b ⟨x, v, o, y, hx, hy, hyb⟩
    obtain ⟨o', g1, g2⟩ := hold x v o hx
    refine ⟨⟨x, v, o', y, g1, hy, hyb⟩, ?_⟩
    rintro rfl
    exact g2 (h.sep x q _ _ _ _ _ _ _ g1 hqh hy hj hyb hb2)
  refine ⟨fun b => A b ∨ b = b2, ⟨fun x v o hx => ?_, fun x x' v v' o o' y y' b h1 h2 => ?_, fun b hb => ?_, h.fresh, h.laid.step (fun _ _ => rfl) (fun _ h => .inl h)⟩, ⟨Nat.le_refl _, rfl, rfl, rfl, fun _ _ _ => rfl, fun _ _ _ => rfl, Nat.le_refl _, fun _ h => .inl h, fun b hb => ?_, fun b hb => .inl (hmt b hb).1⟩, rfl, rfl⟩
  · split at hx
    · rename_i e
      subst e
      injection hx with hx
      injection hx with e1 e2
      subst e1
      subst e2
      refine ⟨i, hi, ?_⟩
      unfold OC at hoi ⊢
      obtain ⟨b, hb, h1, h2, h3, h4⟩ := hoi
      refine ⟨b, hb, h1, h2, h3, ?_⟩
      simp only [IAt] at h4 ⊢
      obtain ⟨⟨c, hc1, hc2⟩, _⟩ := h4
      refine ⟨⟨c, hc1, ?_⟩, trivial⟩
      simp only [IC] at hc2
      obtain ⟨j', b', hj', hb', rfl⟩ := hc2
      rw [hj] at hj'
      injection hj' with hj'
      subst hj'
      rw [hb2] at hb'
      injection hb' with hb'
      subst hb'
      simp only [IC, PC]
      refine ⟨b2, ents, by unfold mrefC; rw [if_neg (by omega)], .inr rfl, by unfold mapC; rw [hw2], ?_⟩
      exact (hme.mono (fun _ h => .inl h) (fun _ _ => rfl)).pms
    · split at hx
      · cases hx
      · obtain ⟨y, hy, hoy⟩ := h.obj x v o hx
        exact ⟨y, hy, hoy.mono (fun _ h => .inl h) (fun _ _ => rfl) (fun _ _ _ h => h) (fun _ _ => rfl)⟩
  · obtain ⟨_, g1, _⟩ := hold x v o h1
    obtain ⟨_, g2, _⟩ := hold x' v' o' h2
    exact h.sep x x' v v' _ _ y y' b g1 g2
  · rcases hb with hb | rfl
    · exact ⟨(h.imm b hb).1, fun hm => (h.imm b hb).2 (hmt b hm).1⟩
    · exact ⟨h.lt ⟨q, _, _, j, hqh, hj, hb2⟩, fun hm => (hmt _ hm).2 rfl⟩
  · rcases hb with hb | rfl
    · exact .inl hb
    · exact .inr (.inl ⟨q, _, _, j, hqh, hj, hb2⟩)
theorem sealP_sound {E : Env} : ∀ (vs : List V) {s : St} {w A β}, HR w A β s.c (s.heap E) →
    ∃ A', HR w A' β (sealP E vs s).c ((sealP E vs s).heap E) ∧ Tr w A β s.c (s.heap E) w A' β (sealP E vs s).c ((sealP E vs s).heap E) ∧ (sealP E vs s).O = s.O ∧ (sealP E vs s).c = s.c
  | [], s, w, A, β, h => ⟨A, h, Tr.refl .., rfl, rfl⟩
  | v :: r, s, w, A, β, h => by
    cases v with
    | ptr k ver _ _ =>
      simp only [sealP]
      obtain ⟨A1, h1, t1, o1, c1⟩ := seal1_sound (k := k) (ver := ver) h
      obtain ⟨A2, h2, t2, o2, c2⟩ := sealP_sound r h1
      exact ⟨A2, h2, t1.trans t2, o2.trans o1, c2.trans c1⟩
    | _ => simp only [sealP]; exact sealP_sound r h
theorem seals_sound {E : Env} (vs : List V) {s : St} {w A β} (h : HR w A β s.c (s.heap E)) :
    ∃ A', HR w A' β (seals E vs s).c ((seals E vs s).heap E) ∧ Tr w A β s.c (s.heap E) w A' β (seals E vs s).c ((seals E vs s).heap E) ∧ (seals E vs s).O = s.O ∧ (seals E vs s).c = s.c := by
  have stay : ∃ A', HR w A' β s.c (s.heap E) ∧ Tr w A β s.c (s.heap E) w A' β s.c (s.heap E) ∧ s.O = s.O ∧ s.c = s.c := ⟨A, h, Tr.refl .., rfl, rfl⟩
  unfold seals
  split
  · unfold sealF
    split
    · exact sealP_sound _ h
    · exact stay
  · exact stay
theorem exports_sound {E : Env} {s : St} {w0 A0 β0 c0 O w A β} (h : HR w A β s.c (s.heap E)) (t : Tr w0 A0 β0 c0 O w A β s.c (s.heap E)) {vs vs' : List V} {cs : List Value} (he : exports E s vs = some vs') (hv : ICs w A β vs cs) :
    ∃ A' l, RCs w A' β vs' cs l ∧ Took w0 A0 β0 c0 O w A' β s.c (lower E.lvl s.O) l := by
  obtain ⟨A1, h1, t1, o1, c1⟩ := seals_sound (E := E) vs h
  obtain ⟨A', l, g1, g2⟩ := exports0_sound h1 (t.trans t1) he (ICs.mono t1.imm (fun _ _ => rfl) (fun _ _ _ h => h) _ _ hv)
  rw [o1, c1] at g2
  exact ⟨A', l, g1, g2⟩
end Go.Vi
namespace Go.Vi
open Go
theorem wp_value {P : Program} {o : Oper} {a : Act} {w w' : World} {next Q v} (h : (execOp a.eval o).run P w = .ok (.value v) w') (hn : next (a.put o.dst v) w') : o.wp P a w next Q := by
  unfold Oper.wp; rw [h]; exact hn
theorem v_run {P : Program} {s : Sem Value} {w w' : World} {c : Value} (h : s.run P w = .ok c w') : (do pure (Next.value (← s)) : Sem Next).run P w = .ok (.value c) w' := by
  simp only [Sem.run_bind, h, Result.andThen_ok, Sem.run_pure]
structure OpGoal (E : Env) (w : World) (A : Nat → Prop) (β : Beta) (s : St) (o : Oper) (a : Act) (next : Act → World → Prop) (Q : Exit → Act → World → Prop) (res : Res) : Prop where
  val : ∀ v s' cv w' A' β', res = .val v s' → Step E w A β s w' A' β' s' → IC w' A' β' v cv → next (a.put o.dst cv) w'
  pan : ∀ v s' cv w' A' β', res = .pan v s' → Step E w A β s w' A' β' s' → IC w' A' β' v cv → Q (.panic [{ v := cv, recovered := false }]) a w'
section
variable {E : Env} {w : World} {A : Nat → Prop} {β : Beta} {s : St} {o : Oper} {a : Act} {next : Act → World → Prop} {Q : Exit → Act → World → Prop} {res : Res}
theorem OpGoal.run {v : V} {s' : St} {cv : Value} {w' : World} {A' β'} (g : OpGoal E w A β s o a next Q (.val v s')) (h : (execOp a.eval o).run E.P w = .ok (.value cv) w') (hs : Step E w A β s w' A' β' s') (hv : IC w' A' β' v cv) : o.wp E.P a w next Q :=
  wp_value h (g.val v s' cv w' A' β' rfl hs hv)
theorem OpGoal.still {v : V} {cv : Value} (g : OpGoal E w A β s o a next Q (.val v s)) (hs : SR E w A β s a) (h : (execOp a.eval o).run E.P w = .ok (.value cv) w) (hv : IC w A β v cv) : o.wp E.P a w next Q :=
  g.run h (Step.refl hs.heap) hv
theorem pushed_alloc {w : World} {o : Go.Obj} : Pushed w (w.alloc o) o := ⟨rfl, rfl, rfl, rfl⟩
theorem zeroT_some {P : Program} {t : TypeId} {z : V} (h : zeroT P t = some z) : ∃ i c, P.info? t = some i ∧ i.zero = some c ∧ z = ofValue c := by
  unfold zeroT at h
  cases hi : P.info? t with
  | none => rw [hi] at h; cases h
  | some i =>
    rw [hi] at h
    simp only [Option.bind_some, Option.map_eq_some_iff] at h
    obtain ⟨c, h1, rfl⟩ := h
    exact ⟨i, c, rfl, h1, rfl⟩
theorem zip_parts {w A} {s : St} {ev : Operand → Value} : ∀ {ps : List (Nat × Operand)} {qs : List V}, PCs w A qs (ps.map fun p => ev p.2) → PartsP w A (zipP (evalPs s ps) qs) (ps.map fun p => (p.1, ev p.2))
  | [], qs, h => by simp [evalPs, zipP, PartsP]
  | (j, x) :: r, [], h => by simp [PCs] at h
  | (j, x) :: r, q :: qs, h => by
    simp only [PCs, List.map_cons] at h
    obtain ⟨c, d, e, h1, h2⟩ := h
    injection e with e1 e2
    subst e1
    subst e2
    simp only [evalPs, zipP, PartsP, List.map_cons]
    exact ⟨_, _, rfl, h1, zip_parts h2⟩
theorem buildSlice_sound (hs : SR E w A β s a) {d n : Nat} {t e : TypeId} {ps : Array (Nat × Operand)} {z : V} {qs es : List V} (ht : elemT E.P t = some e) (hz : zeroT E.P e = some z) (hq : frzs E s (evalOs s (ps.toList.map (·.2))) = some qs)
    (hn : n * szT E.P e ≤ 16777216) (hr : roomOk E.P e n = true) (hf : fitsE E.P e z = true) (hes : fillS E.P e (List.replicate n z) (zipP (evalPs s ps.toList) qs) = some es) :
    ∃ cv w' A' β', (Instr.buildSlice t n (ps.map fun (i, x) => (i, a.eval x))).run E.P w = .ok cv w' ∧ Step E w A β s w' A' β' (newArr E d (szT E.P e) es (St.dels E (refsL (evalOs s (ps.toList.map (·.2)))) s)).2 ∧ IC w' A' β' (newArr E d (szT E.P e) es (St.dels E (refsL (evalOs s (ps.toList.map (·.2)))) s)).1 cv := by
  obtain ⟨r1, r2, r3, i, zc, hi, hzc, hsz, hby, hcs, hzt, hzl⟩ := room_parts hr
  rw [hz] at hzt
  injection hzt with hzt
  subst hzt
  obtain ⟨st, hp⟩ := frzs_dels hs.heap (hs.evals _) hq
  generalize hA' : (fun b => A b ∨ Frozen (s.heap E) β (refsL (evalOs s (ps.toList.map (·.2)))) b) = A' at st hp
  generalize hs1 : St.dels E (refsL (evalOs s (ps.toList.map (·.2)))) s = s1 at st
  have hp' : PartsP w A' (zipP (evalPs s ps.toList) qs) (ps.toList.map fun p => (p.1, a.eval p.2)) := zip_parts (by simpa [List.map_map, Function.comp_def] using hp)
  have hcz : zc.cells.size = szT E.P e := hcs
  have hmade : (madeCells zc.cells (n * szT E.P e)).toList = (List.replicate n zc.cells.toList).flatten := by rw [← hcz]; exact made_flat _ _
  obtain ⟨cells, f1, f2, f3, f4⟩ := fillS_sound (w := w) (A := A') r3 _ _ (List.replicate n (ofValue zc)) es (madeCells zc.cells (n * szT E.P e)) hes (fun x hx => by rw [(List.mem_replicate.1 hx).2]; exact fits_len hf) (by rw [hmade]; exact flat_replicate (zero_pure hzl) n) hp'
  have f4 : es.length = n := by rw [f4]; simp
  have hrun : (Instr.buildSlice t n (ps.map fun (i, x) => (i, a.eval x))).run E.P w = .ok (.slice (some ⟨w.heap.size, 0, none⟩) n n) (w.alloc (.cells cells e)) := by
    have hm : (ps.map fun (i, x) => (i, a.eval x)).toList = ps.toList.map fun p => (p.1, a.eval p.2) := by simp
    have hsz' : (sizeOf e).run E.P w = .ok (szT E.P e) w := by simp [sizeOf, typeInfo, hi, hsz]
    have hzr : (zeroValue e).run E.P w = .ok zc w := by simp [zeroValue, typeInfo, hi, hzc]
    simp only [Instr.buildSlice, Sem.run_bind, run_underlying (elemT_some ht), Result.andThen_ok, hsz']
    rw [if_neg (by omega)]
    by_cases h0 : n * szT E.P e = 0
    · have : n = 0 := by rcases Nat.mul_eq_zero.1 h0 with h | h; exact h; exact absurd h r3
      subst this
      simp only [h0, if_true, Sem.run_pure, Result.andThen_ok, Sem.run_bind]
      have : (madeCells zc.cells (0 * szT E.P e)) = (Array.range 0).map (((#[] : Array Value))[· % (#[] : Array Value).size]!) := by simp [madeCells]
      rw [hm]
      rw [this] at f1
      rw [f1]
      simp [newRow]
    · simp only [if_neg h0, Sem.run_pure, Result.andThen_ok, Sem.run_bind, hzr]
      rw [hm]
      unfold madeCells at f1
      rw [f1]
      simp [newRow]
  obtain ⟨β', g1, g2⟩ := newArr_sound (d := d) (sz := szT E.P e) (es := es) (vs := cells.toList) (ex := []) (cap := n) st.2.1 (pushed_alloc (w := w) (o := .cells cells e)) f3 r3 f2 (by simp) (by omega) r2 (by
    have := f2.length
    rw [flat_len f3, f4] at this
    simp only [Array.length_toList] at this
    omega)
  rw [f4] at g2
  exact ⟨_, _, A', β', hrun, st.trans g1, g2⟩
theorem makeSlice_sound (hs : SR E w A β s a) {d : Nat} {t e : TypeId} {z : V} {kn km : IntKind} {n m : Int} (ht : elemT E.P t = some e) (hz : zeroT E.P e = some z) (h0 : 0 ≤ n) (hnm : n ≤ m) (hm : m ≤ 9223372036854775807)
    (hr : roomOk E.P e m.toNat = true) (hf : fitsE E.P e z = true) :
    ∃ cv w' A' β', (Instr.makeSlice t (.int kn n) (.int km m)).run E.P w = .ok cv w' ∧ Step E w A β s w' A' β' (newArr E d (szT E.P e) (List.replicate n.toNat z) s).2 ∧ IC w' A' β' (newArr E d (szT E.P e) (List.replicate n.toNat z) s).1 cv := by
  obtain ⟨r1, r2, r3, i, zc, hi, hzc, hsz, hby, hcs, hzt, hzl⟩ := room_parts hr
  rw [hz] at hzt
  injection hzt with hzt
  subst hzt
  have hbytes : (i.bytes : Int) * m ≤ 281474976710656 := by
    rw [hby]
    have em : (m.toNat : Int) = m := Int.toNat_of_nonneg (by omega)
    have : ((m.toNat * bytesT E.P e : Nat) : Int) ≤ (140737488355328 : Nat) := by exact_mod_cast r1
    rw [Int.natCast_mul, em, Int.mul_comm] at this
    omega
  have hrun := run_make (P := E.P) w t e i zc (elemT_some ht) hi hzc kn km n m h0 hnm hbytes hm
  have hcz : zc.cells.size = szT E.P e := hcs
  have hmade : (madeCells zc.cells (m.toNat * i.size)).toList = (List.replicate n.toNat zc.cells.toList).flatten ++ (List.replicate (m.toNat - n.toNat) zc.cells.toList).flatten := by
    rw [hsz, ← hcz, made_flat, ← List.flatten_append, List.replicate_append_replicate]
    congr 2; omega
  obtain ⟨β', g1, g2⟩ := newArr_sound (d := d) (sz := szT E.P e) (es := List.replicate n.toNat (ofValue zc)) (cap := m.toNat) hs.heap (pushed_alloc (w := w) (o := .cells (madeCells zc.cells (m.toNat * i.size)) e))
    (fun x hx => by rw [(List.mem_replicate.1 hx).2]; exact fits_len hf) r3 (flat_replicate (zero_pure hzl) n.toNat) hmade (by simp; omega) r2 (by rw [size_madeCells, hsz]; omega)
  rw [List.length_replicate] at g2
  exact ⟨_, _, A, β', hrun, g1, g2⟩
end
end Go.Vi
namespace Go.Vi
open Go
theorem flat_leafs : ∀ {es : List V}, es.all leafV = true → flat es = es ∧ ∀ e ∈ es, (cellsV e).length = 1
  | [], _ => by simp [flat]
  | x :: r, h => by
    simp only [List.all_cons, Bool.and_eq_true] at h
    have h1 := cells_leaf h.1
    obtain ⟨h2, h3⟩ := flat_leafs h.2
    refine ⟨?_, ?_⟩
    · show cellsV x ++ flat r = _
      rw [h1, h2]; rfl
    · intro e he
      rcases List.mem_cons.1 he with rfl | he
      · rw [h1]; rfl
      · exact h3 e he
theorem copy0_sound {E w A β s} {t ty : TypeId} {ts : Array TypeId} {x y : V} {cx cy : Value} {q : Nat × St} (h : HR w A β s.c (s.heap E)) (he : copyV0 E t x y s = some q) (ht : ts[0]? = some t) (hx : IC w A β x cx) (hy : IC w A β y cy) :
    ∃ w', (Builtin.copy_ ts ty #[cx, cy]).run E.P w = .ok (goInt q.1) w' ∧ Step E w A β s w' A β q.2 := by
  unfold copyV0 at he
  split at he
  · rename_i e hte
    split at he
    · rename_i hsz
      split at he
      · rename_i k ver off len new hel
        split at he
        · rename_i hc
          obtain ⟨hleaf, hlen, hnew⟩ := hc
          split at he
          · rename_i cs ho
            split at he
            · rename_i hle
              injection he with he
              subst he
              have ho := obj_heap ho
              simp only [IC] at hx
              obtain ⟨i, hi, ao, cap, rfl, h1, h2, h3⟩ := hx
              obtain ⟨i', hi', hoc⟩ := h.obj _ _ _ ho
              rw [hi] at hi'
              injection hi' with hi'
              subst hi'
              unfold OC at hoc
              obtain ⟨b, hb, hbase, hcsz, hrow, hat⟩ := hoc
              have hao : ao = some ⟨b, off, none⟩ := by
                rcases h3 with ⟨b', hb', e1, _⟩ | ⟨e1, _⟩
                · rw [hb] at hb'
                  injection hb' with hb'
                  subst hb'
                  rw [e1, hbase.1, hbase.2]; simp
                · exact absurd e1 hlen
              subst hao
              obtain ⟨ao2, cap2, rfl, h4⟩ := elems_sound h hel hy
              obtain ⟨b2, o2, sz2, rfl, hp⟩ := h4 hnew
              obtain ⟨h5, vs, h6, h7⟩ := PEs_vals hp
              obtain ⟨hfl, hone⟩ := flat_leafs hleaf
              rw [hfl] at h6
              have hvl := h6.length
              generalize hn : min new.length len = n
              have hnv : (vs.take n).length = n := by rw [List.length_take, hvl]; omega
              have hicv : ICs w A β (new.take n) (vs.take n) := (h6.take n).to_ICs
              have hleaf2 : (new.take n).all leafV = true := List.all_eq_true.2 fun x hx => List.all_eq_true.1 hleaf x (List.mem_of_mem_take hx)
              have hone2 := leafs_one hleaf2 hicv
              obtain ⟨w', hrun, hw⟩ := wrote (P := E.P) (p := off) (vs := vs.take n) hrow (by omega) hone2
              have hk : k.lvl ≤ E.lvl := heap_lvl ho
              refine ⟨w', ?_, Step.upd h ho hi hw.os hw.tape hw.output (by rw [hw.size]; omega) (fun b3 hb3 => hw.other b3 (by rintro rfl; exact hb3 hb)) ?_⟩
              · have hld := run_loadCells_list (P := E.P) w ⟨b2, o2, none⟩ (vs.take n) (fun j v hv => by
                  rw [add_at]
                  refine h7 j v ?_
                  rw [List.getElem?_take] at hv
                  split at hv
                  · exact hv
                  · cases hv)
                rw [hnv] at hld
                have hmin : Nat.min new.length len = n := hn
                have ht' := elemT_some hte
                have hso : (sizeOf e).run E.P w = .ok 1 w := by
                  have := run_sizeOf_pos (P := E.P) (t := e) (by rw [hsz.1]; omega) w
                  rw [hsz.1] at this; exact this
                unfold Builtin.copy_
                simp [ht, run_underlying ht', Builtin.lenOf, Builtin.firstCells, hso, hmin, hld, hrun]
              · unfold OC
                have hm : ∀ v c, IC w A β v c → IC w' A β v c := fun v c hc => IC.mono (fun _ h => h) (fun b2 hb2 => sameC (hw.other b2 (by rintro rfl; exact (h.imm _ hb2).2 ⟨k, ver, _, i, ho, hi, hb⟩))) (fun _ _ _ h => h) v c hc
                have hql : (new.take n).length = n := by rw [List.length_take]; omega
                have hol : (overwrite cs off (new.take n)).length = cs.length := by
                  unfold overwrite
                  simp only [List.length_append, List.length_take, List.length_drop]
                  omega
                refine ⟨b, hb, hbase, by rw [hol]; exact hcsz, hw.row, ?_⟩
                obtain ⟨us, hul, huc, hui⟩ := hat.vals
                have hu2 : ICs w A β (overwrite cs off (new.take n)) (us.take off ++ vs.take n ++ us.drop (off + (new.take n).length)) := ((hui.take off).app hicv).app (hui.drop _)
                refine IAt_mk hu2 hm fun j x hj => ?_
                rw [show (new.take n).length = (vs.take n).length by rw [hql, hnv], splice_get _ _ _ _ (by omega)] at hj
                rw [hw.cell]
                simp only [Nat.zero_add] at huc ⊢
                split at hj
                · rw [if_pos ‹_›]; exact huc j x hj
                · rw [if_neg ‹_›]
                  split at hj
                  · rw [if_pos ‹_›]; exact hj
                  · rw [if_neg ‹_›]; exact huc j x hj
            · cases he
          · cases he
        · cases he
      · cases he
    · cases he
  · cases he
theorem flat_take {sz : Nat} : ∀ (n : Nat) {es : List V}, (∀ e ∈ es, (cellsV e).length = sz) → flat (es.take n) = (flat es).take (n * sz)
  | 0, es, _ => by simp [flat]
  | n + 1, [], _ => by simp [flat]
  | n + 1, e :: r, h => by
    have h1 := h e (by simp)
    have h2 := flat_take n (es := r) (fun x hx => h x (by simp [hx]))
    simp only [flat, List.take_succ_cons, List.flatMap_cons] at h2 ⊢
    rw [h2, Nat.add_mul, Nat.one_mul, Nat.add_comm, List.take_append, h1, List.take_of_length_le (l := cellsV e) (by omega), Nat.add_sub_cancel_left]
theorem flat_drop {sz : Nat} : ∀ (n : Nat) {es : List V}, (∀ e ∈ es, (cellsV e).length = sz) → flat (es.drop n) = (flat es).drop (n * sz)
  | 0, es, _ => by simp [flat]
  | n + 1, [], _ => by simp [flat]
  | n + 1, e :: r, h => by
    have h1 := h e (by simp)
    have h2 := flat_drop n (es := r) (fun x hx => h x (by simp [hx]))
    simp only [flat, List.drop_succ_cons, List.flatMap_cons] at h2 ⊢
    rw [h2, Nat.add_mul, Nat.one_mul, Nat.add_comm, List.drop_append, h1, List.drop_eq_nil_of_le (as := cellsV e) (by omega), Nat.add_sub_cancel_left, List.nil_append]
theorem copyA_sound {E w A β s} {t ty : TypeId} {ts : Array TypeId} {x y : V} {cx cy : Value} {q : Nat × St} (h : HR w A β s.c (s.heap E)) (he : copyA E t x y s = some q) (ht : ts[0]? = some t) (hx : IC w A β x cx) (hy : IC w A β y cy) :
    ∃ w', (Builtin.copy_ ts ty #[cx, cy]).run E.P w = .ok (goInt q.1) w' ∧ Step E w A β s w' A β q.2 := by
  unfold copyA at he
  split at he
  case h_2 => cases he
  rename_i e hte
  split at he
  case h_2 => cases he
  rename_i k ver off len new hel
  split at he
  case h_2 => cases he
  rename_i sz es ho
  split at he
  case isFalse => cases he
  rename_i hc
  obtain ⟨⟨hsz, hsz0⟩, ⟨hlen, hnew⟩, hle, hfit⟩ := hc
  injection he with he
  subst he
  have ho := obj_heap ho
  simp only [IC] at hx
  obtain ⟨i, hi, ao, cap, rfl, h1, h2, h3⟩ := hx
  obtain ⟨i', hi', hoc⟩ := h.obj _ _ _ ho
  rw [hi] at hi'
  injection hi' with hi'
  subst hi'
  unfold OC at hoc
  rcases h3 with ⟨b, hb, e1, hroom⟩ | ⟨e1, _⟩
  case inr => exact absurd e1 hlen
  rw [hb] at hoc
  dsimp only at hoc
  obtain ⟨hisz, hisz0, hcsz, hrow, hpe⟩ := hoc
  subst e1
  obtain ⟨ao2, cap2, rfl, h4⟩ := elems_sound h hel hy
  obtain ⟨b2, o2, sz2, rfl, hp⟩ := h4 hnew
  generalize hn : min new.length len = n
  have hfl : ∀ z ∈ new, (cellsV z).length = sz := fun z hz => by rw [hsz]; exact fits_len (List.all_eq_true.1 hfit z hz)
  have e2 : sz2 = sz := by
    obtain ⟨z, hz⟩ : ∃ z, z ∈ new := by
      cases new with
      | nil => exact absurd rfl hnew
      | cons z _ => exact ⟨z, by simp⟩
    rw [← hfl z hz, (PEs_vals hp).1 z hz]
  subst e2
  have hql : (new.take n).length = n := by rw [List.length_take]; omega
  have hfl2 : ∀ z ∈ new.take n, (cellsV z).length = sz2 := fun z hz => hfl z (List.mem_of_mem_take hz)
  obtain ⟨_, vs, h6, h7⟩ := PEs_vals (PEs_take n hp)
  have hvl : vs.length = n * sz2 := by rw [h6.length, flat_len hfl2, hql]
  have hone := leafs_one (flat_leaf (P := E.P) (e := e) (List.all_eq_true.2 fun z hz => List.all_eq_true.1 hfit z (List.mem_of_mem_take hz))) (h6.to_ICs (β := β))
  have hfit2 : (i.base + off) * i.sz + vs.length ≤ i.csz := by
    rw [hvl, ← hisz, ← Nat.add_mul]
    refine Nat.le_trans (Nat.mul_le_mul_right _ ?_) hcsz
    omega
  obtain ⟨w', hrun, hw⟩ := wrote (P := E.P) (p := (i.base + off) * i.sz) (vs := vs) hrow hfit2 hone
  have hk : k.lvl ≤ E.lvl := heap_lvl ho
  refine ⟨w', ?_, Step.upd h ho hi hw.os hw.tape hw.output (by rw [hw.size]; omega) (fun b3 hb3 => hw.other b3 (by rintro rfl; exact hb3 hb)) ?_⟩
  · have hld := run_loadCells_list (P := E.P) w ⟨b2, o2, none⟩ vs (fun j v hv => by rw [add_at]; exact h7 j v hv)
    rw [hvl] at hld
    have hmin : Nat.min new.length len = n := hn
    have ht' := elemT_some hte
    have hso : (sizeOf e).run E.P w = .ok sz2 w := by
      have := run_sizeOf_pos (P := E.P) (t := e) hsz0 w
      rw [hsz]; exact this
    unfold Builtin.copy_
    simp [ht, run_underlying ht', Builtin.lenOf, Builtin.firstCells, hso, hmin, hld, hrun]
  · unfold OC
    rw [hb]
    dsimp only
    have hm : ∀ v c, PC w A v c → PC w' A v c := fun v c hc => PC.mono (fun _ h => h) (fun b2 hb2 => sameC (hw.other b2 (by rintro rfl; exact (h.imm _ hb2).2 ⟨k, ver, _, i, ho, hi, hb⟩))) v c hc
    have hol : (overwrite es off (new.take n)).length = es.length := by
      unfold overwrite
      simp only [List.length_append, List.length_take, List.length_drop]
      omega
    obtain ⟨hes, us, hul, huc⟩ := PEs_vals hpe
    rw [hisz] at hes
    have hull : us.length = es.length * sz2 := by rw [hul.length, flat_len hes]
    refine ⟨hisz, hisz0, by rw [hol]; exact hcsz, hw.row, ?_⟩
    rw [hisz]
    have hflat : flat (overwrite es off (new.take n)) = (flat es).take (off * sz2) ++ flat (new.take n) ++ (flat es).drop (off * sz2 + vs.length) := by
      unfold overwrite
      rw [flat_app, flat_app, flat_take off hes, hql, flat_drop (off + n) hes, Nat.add_mul, hvl]
    have hwin : off * sz2 + vs.length ≤ us.length := by
      rw [hvl, hull, ← Nat.add_mul]
      exact Nat.mul_le_mul_right _ (by omega)
    refine PEs_mk (vs := us.take (off * sz2) ++ vs ++ us.drop (off * sz2 + vs.length)) (fun z hz => ?_) (by rw [hflat]; exact ((hul.take _).app h6).app (hul.drop _)) hm fun j z hj => ?_
    · unfold overwrite at hz
      rw [List.mem_append, List.mem_append] at hz
      rcases hz with (hz | hz) | hz
      · exact hes z (List.mem_of_mem_take hz)
      · exact hfl2 z hz
      · exact hes z (List.mem_of_mem_drop hz)
    · rw [splice_get _ _ _ _ hwin] at hj
      rw [hw.cell, hisz, Nat.add_mul]
      rw [hisz] at huc
      split at hj
      · rw [if_pos (by omega)]; exact huc j z hj
      · rw [if_neg (by omega)]
        split at hj
        · rw [if_pos (by omega), show i.base * sz2 + j - (i.base * sz2 + off * sz2) = j - off * sz2 by omega]; exact hj
        · rw [if_neg (by omega)]; exact huc j z hj
theorem copyZ_sound {E w A β s} {t ty : TypeId} {ts : Array TypeId} {x y : V} {cx cy : Value} {q : Nat × St} (h : HR w A β s.c (s.heap E)) (he : copyZ E t x y s = some q) (ht : ts[0]? = some t) (hx : IC w A β x cx) (hy : IC w A β y cy) :
    ∃ w', (Builtin.copy_ ts ty #[cx, cy]).run E.P w = .ok (goInt q.1) w' ∧ Step E w A β s w' A β q.2 := by
  unfold copyZ at he
  split at he
  case h_2 => cases he
  rename_i e hte
  split at he
  case h_2 => cases he
  rename_i k ver off len new hel
  split at he
  case isFalse => cases he
  rename_i hc
  obtain ⟨rfl, hsz0⟩ := hc
  injection he with he
  subst he
  simp only [IC] at hx
  obtain ⟨i, hi, ao, cap, rfl, h1, h2, h3⟩ := hx
  obtain ⟨ao2, cap2, rfl, h4⟩ := elems_sound h hel hy
  refine ⟨w, ?_, Step.refl h⟩
  have ht' := elemT_some hte
  have hso := run_sizeOf_pos (P := E.P) (t := e) hsz0 w
  have hst : ∀ a, (storeCells a []).run E.P w = .ok () w := fun a => by simp [storeCells]
  have hld : ∀ a, (loadCells a 0).run E.P w = .ok #[] w := fun a => by
    have := run_loadCells_list (P := E.P) w a [] (by simp)
    simpa using this
  unfold Builtin.copy_
  cases ao <;> cases ao2 <;> simp [ht, run_underlying ht', Builtin.lenOf, Builtin.firstCells, hso, hld, hst, Nat.min_zero, show Nat.min new.length 0 = 0 from Nat.min_zero _]
theorem copy_sound {E w A β s} {t ty : TypeId} {ts : Array TypeId} {x y : V} {cx cy : Value} {q : Nat × St} (h : HR w A β s.c (s.heap E)) (he : copyV E t x y s = some q) (ht : ts[0]? = some t) (hx : IC w A β x cx) (hy : IC w A β y cy) :
    ∃ w', (Builtin.copy_ ts ty #[cx, cy]).run E.P w = .ok (goInt q.1) w' ∧ Step E w A β s w' A β q.2 := by
  unfold copyV at he
  split at he
  · rename_i q' hq
    injection he with he
    subst he
    exact copyA_sound h hq ht hx hy
  · split at he
    · rename_i q' hq
      injection he with he
      subst he
      exact copyZ_sound h hq ht hx hy
    · exact copy0_sound h he ht hx hy
end Go.Vi
namespace Go.Vi
open Go
def GoodF (P : Program) (g : FuncId) : Prop := ∃ fn c, P.funcs[g]? = some fn ∧ (fn.name == "runtime.NumGoroutine") = false ∧ fn.body = some c
section
variable {E : Env} {w : World} {A : Nat → Prop} {β : Beta} {s : St} {o : Oper} {a : Act} {next : Act → World → Prop} {Q : Exit → Act → World → Prop} {res : Res}
theorem minL_sound {P : Program} : ∀ {x : V} {r : List V} {v : V} {c : Value} {d : List Value}, minL x r = some v → IC w A β x c → ICs w A β r d → ∃ cv, (d.foldlM Builtin.min2 c : Sem Value).run P w = .ok cv w ∧ IC w A β v cv
  | x, [], v, c, d, h, hx, hr => by
    simp only [minL, Option.some.injEq] at h
    subst h
    simp only [ICs] at hr
    subst hr
    exact ⟨c, rfl, hx⟩
  | x, y :: r, v, c, d, h, hx, hr => by
    simp only [ICs] at hr
    obtain ⟨cy, d, rfl, hy, hr⟩ := hr
    cases x <;> cases y <;> try (simp [minL] at h)
    rename_i k x k' y
    obtain ⟨rfl, h⟩ := h
    have e1 := hx.int_; have e2 := hy.int_; subst e1; subst e2
    obtain ⟨cv, h1, h2⟩ := minL_sound h (IC.int_mk _ _) hr
    exact ⟨cv, by simpa [List.foldlM_cons, Builtin.min2] using h1, h2⟩
theorem maxL_sound {P : Program} : ∀ {x : V} {r : List V} {v : V} {c : Value} {d : List Value}, maxL x r = some v → IC w A β x c → ICs w A β r d → ∃ cv, (d.foldlM Builtin.max2 c : Sem Value).run P w = .ok cv w ∧ IC w A β v cv
  | x, [], v, c, d, h, hx, hr => by
    simp only [maxL, Option.some.injEq] at h
    subst h
    simp only [ICs] at hr
    subst hr
    exact ⟨c, rfl, hx⟩
  | x, y :: r, v, c, d, h, hx, hr => by
    simp only [ICs] at hr
    obtain ⟨cy, d, rfl, hy, hr⟩ := hr
    cases x <;> cases y <;> try (simp [maxL] at h)
    rename_i k x k' y
    obtain ⟨rfl, h⟩ := h
    have e1 := hx.int_; have e2 := hy.int_; subst e1; subst e2
    obtain ⟨cv, h1, h2⟩ := maxL_sound h (IC.int_mk _ _) hr
    exact ⟨cv, by simpa [List.foldlM_cons, Builtin.max2] using h1, h2⟩
theorem len_sound {P : Program} {t ty e : TypeId} {ts : Array TypeId} {x : V} {n : Nat} {c : Value} {cs : Array Value} (ht : elemT P t = some e) (hstr : ∀ b, x ≠ .str b) (h : lenV x = some n) (hx : IC w A β x c) (h0 : ts[0]? = some t) (h1 : cs[0]? = some c) : (Builtin.len_ ts ty cs).run P w = .ok (.int .i64 n) w := by
  have key : ∀ ao m, c = .slice ao n m → (Builtin.len_ ts ty cs).run P w = .ok (.int .i64 n) w := fun ao m e => by
    subst e
    unfold Builtin.len_
    simp only [h0, h1, Sem.run_bind, run_underlying (elemT_some ht), Result.andThen_ok, Sem.run_pure, goInt]
  cases x with
  | str b => exact absurd rfl (hstr b)
  | lst es =>
    injection h with h; subst h
    simp only [IC, PC] at hx
    obtain ⟨ao, cap, e, _⟩ := hx
    exact key ao cap e
  | nilS =>
    injection h with h; subst h
    exact key _ _ hx.nilS_
  | ref k ver off len =>
    injection h with h; subst h
    simp only [IC] at hx
    obtain ⟨i, _, ao, cap, e, _⟩ := hx
    exact key ao cap e
  | _ => cases h
theorem MEs.length {w A} : ∀ {es : List (V × V)} {l : List MapEntry}, MEs w A es l → l.length = es.length
  | [], l, h => by simp only [MEs] at h; subst h; rfl
  | (k, v) :: r, l, h => by
    simp only [MEs] at h
    obtain ⟨e, d, rfl, _, _, h3⟩ := h
    simp [MEs.length h3]
theorem mapT_some {P : Program} {t : TypeId} {p : TypeId × TypeId} (h : mapT P t = some p) : P.underlying t = some (.map p.1 p.2) := by
  unfold mapT at h
  split at h
  · rename_i k e he; injection h with h; subst h; exact he
  · cases h
theorem len_map {t ty : TypeId} {p : TypeId × TypeId} {ts : Array TypeId} {x : V} {n : Nat} {c : Value} {cs : Array Value} {q : Nat} (hH : HR w A β q (s.heap E)) (ht : mapT E.P t = some p) (h : mapLen E x s = some n) (hx : IC w A β x c) (h0 : ts[0]? = some t) (h1 : cs[0]? = some c) : (Builtin.len_ ts ty cs).run E.P w = .ok (.int .i64 n) w := by
  unfold mapLen at h
  split at h
  · injection h with h; subst h
    have e : c = .map none := by simpa [IC, PC] using hx
    subst e
    unfold Builtin.len_
    simp only [h0, h1, Sem.run_bind, run_underlying (mapT_some ht), Result.andThen_ok, Sem.run_pure, goInt]
    rfl
  · rename_i es
    simp only [Option.map_eq_some_iff] at h
    obtain ⟨ps, hp, rfl⟩ := h
    simp only [IC, PC] at hx
    obtain ⟨b, ents, rfl, _, hmc, hpm⟩ := hx
    obtain ⟨clock, hc⟩ := mapC_some hmc
    unfold Builtin.len_
    have hg : (getObj b).run E.P w = .ok (.map ents clock) w := by simp [getObj, Sem.run, hc]
    simp only [h0, h1, Sem.run_bind, run_underlying (mapT_some ht), Result.andThen_ok, Sem.run_pure, goInt, hg]
    rw [← Array.length_toList, (hpm.mes hp).length]
  · rename_i k ver
    split at h
    · rename_i es ho
      injection h with h; subst h
      obtain ⟨i, hi, hoc⟩ := hH.obj _ _ _ (obj_heap ho)
      unfold OC at hoc
      obtain ⟨b, ents, clock, hb, h0', hw, hme, _⟩ := hoc
      simp only [IC] at hx
      obtain ⟨i', b', hi', hb', e⟩ := hx
      rw [hi] at hi'
      injection hi' with hi'
      subst hi'
      rw [hb] at hb'
      injection hb' with hb'
      subst hb'
      have e2 : mrefC i b = .map (some b) := by unfold mrefC; rw [if_neg (by omega)]
      rw [e2] at e
      subst e
      unfold Builtin.len_
      have hg : (getObj b).run E.P w = .ok (.map ents clock) w := by simp [getObj, Sem.run, hw]
      simp only [h0, h1, Sem.run_bind, run_underlying (mapT_some ht), Result.andThen_ok, Sem.run_pure, goInt, hg]
      rw [← Array.length_toList, hme.length]
    · cases h
  · cases h
theorem len_str {P : Program} {t ty : TypeId} {ts : Array TypeId} {b : List UInt8} {c : Value} {cs : Array Value} (ht : strT P t = true) (hx : IC w A β (.str b) c) (h0 : ts[0]? = some t) (h1 : cs[0]? = some c) : (Builtin.len_ ts ty cs).run P w = .ok (.int .i64 b.length) w := by
  have e := hx.str_
  subst e
  unfold Builtin.len_
  simp only [h0, h1, Sem.run_bind, run_underlying (strT_some ht), Result.andThen_ok, Sem.run_pure, goInt]
  rw [show (ByteArray.mk b.toArray).size = b.length from by simp [ByteArray.size]]
theorem builtin_sound (hs : SR E w A β s a) {d : Nat} {c : Call} {b : Builtin} (ho : o.op = .call c) (hc : c.callee = .builtin b) (he : builtinV E b d c.argTypes.toList (evalOs s c.args.toList) s = some res) (g : OpGoal E w A β s o a next Q res) : o.wp E.P a w next Q := by
  have hargs := hs.evals c.args.toList
  have hm : (c.args.map a.eval).toList = c.args.toList.map a.eval := by simp
  rw [← hm] at hargs
  have hex : ∀ {r : Sem Value} {w' cv}, (∀ consts, builtin b c.argTypes o.type consts (c.args.map a.eval) = (do pure (.value (← r)) : Sem Next)) → r.run E.P w = .ok cv w' → (execOp a.eval o).run E.P w = .ok (.value cv) w' := fun {r w' cv} h1 h2 => by
    simp only [execOp, ho, resolve, hc, Sem.run_bind, Sem.run_pure, Result.andThen_ok, invoke]
    rw [h1]
    exact v_run h2
  generalize hvs : evalOs s c.args.toList = vs at he hargs
  generalize hcs : c.args.map a.eval = cs at hargs hex
  generalize hts : c.argTypes = ts at he hex
  unfold builtinV at he
  split at he
  · rename_i t ts' x r heq
    have h0 : ts[0]? = some t := by rw [← Array.getElem?_toList, heq]; rfl
    simp only [ICs] at hargs
    obtain ⟨cx, dr, hcl, hx, hr⟩ := hargs
    have h1 : cs[0]? = some cx := by rw [← Array.getElem?_toList, hcl]; rfl
    split at he
    · rename_i b'
      split at he
      · rename_i hst
        injection he with he; subst he
        exact g.still hs (hex (fun _ => rfl) (len_str hst hx h0 h1)) (IC.int_mk _ _)
      · cases he
    · rename_i hne
      split at he
      · rename_i hsl
        obtain ⟨e, hse⟩ := Option.isSome_iff_exists.1 hsl
        simp only [Option.map_eq_some_iff] at he
        obtain ⟨n, hn, rfl⟩ := he
        exact g.still hs (hex (fun _ => rfl) (len_sound hse (fun b e => hne b e) hn hx h0 h1)) (IC.int_mk _ _)
      · split at he
        · rename_i hmt
          obtain ⟨pt, hpt⟩ := Option.isSome_iff_exists.1 hmt
          simp only [Option.map_eq_some_iff] at he
          obtain ⟨n, hn, rfl⟩ := he
          exact g.still hs (hex (fun _ => rfl) (len_map hs.heap hpt hn hx h0 h1)) (IC.int_mk _ _)
        · cases he
  · rename_i t t2 ts' x y heq
    split at he
    · rename_i hrow
      simp only [Option.map_eq_some_iff] at he
      obtain ⟨q, hq, rfl⟩ := he
      simp only [ICs] at hargs
      obtain ⟨cx, dr, hcl, hx, cy, dr2, rfl, hy, rfl⟩ := hargs
      obtain ⟨cv, w', A', β', h1, h2, h3⟩ := append_sound (ty := o.type) hs.heap hrow hq hx hy
      have ecs : cs = #[cx, cy] := by rw [← Array.toList_inj, hcl]
      have key : (Builtin.append_ ts o.type cs).run E.P w = (Builtin.append_ #[t, t2] o.type #[cx, cy]).run E.P w := by
        rw [ecs]
        have e0 : ts[0]? = some t := by rw [← Array.getElem?_toList, heq]; rfl
        have e1 : ts[1]? = some t2 := by rw [← Array.getElem?_toList, heq]; rfl
        unfold Builtin.append_
        simp [e0, e1]
      exact g.run (hex (fun _ => rfl) (key.trans h1)) h2 h3
    · cases he
  · rename_i t ts' x y heq
    simp only [Option.map_eq_some_iff] at he
    obtain ⟨q, hq, rfl⟩ := he
    simp only [ICs] at hargs
    obtain ⟨cx, dr, hcl, hx, cy, dr2, rfl, hy, rfl⟩ := hargs
    have e0 : ts[0]? = some t := by rw [← Array.getElem?_toList, heq]; rfl
    obtain ⟨w', h1, h2⟩ := copy_sound (ty := o.type) hs.heap hq e0 hx hy
    have ecs : cs = #[cx, cy] := by rw [← Array.toList_inj, hcl]
    exact g.run (hex (fun _ => rfl) (by rw [ecs]; exact h1)) h2 (IC.int_mk _ _)
  · rename_i x r
    unfold valOf at he
    simp only [Option.map_eq_some_iff] at he
    obtain ⟨v, hv, rfl⟩ := he
    simp only [ICs] at hargs
    obtain ⟨cx, dr, hcl, hx, hr⟩ := hargs
    obtain ⟨cv, h1, h2⟩ := minL_sound (P := E.P) hv hx hr
    exact g.still hs (hex (fun _ => rfl) (by unfold Builtin.min_; rw [hcl]; exact h1)) h2
  · rename_i x r
    unfold valOf at he
    simp only [Option.map_eq_some_iff] at he
    obtain ⟨v, hv, rfl⟩ := he
    simp only [ICs] at hargs
    obtain ⟨cx, dr, hcl, hx, hr⟩ := hargs
    obtain ⟨cv, h1, h2⟩ := maxL_sound (P := E.P) hv hx hr
    exact g.still hs (hex (fun _ => rfl) (by unfold Builtin.max_; rw [hcl]; exact h1)) h2
  · cases he
theorem callFunc_run {P : Program} {g : FuncId} {args : Array Value} (h : GoodF P g) : (callFunc g args).run P w = .ok (.enter g args) w := by
  obtain ⟨fn, c, h1, h2, h3⟩ := h
  have h2' : fn.name ≠ "runtime.NumGoroutine" := by simpa using h2
  simp [callFunc, h1, h2', h3]
theorem call_sound (hs : SR E w A β s a) {call : CallFn} {Cx : FuncId → Option (List V → Option V)} (hcall : SoundCall E.P call) (hhand : SoundHand E.P Cx) (hG : ∀ g ∈ E.ok, GoodF E.P g) {d : Nat} {c : Call} {f : Operand} (ho : o.op = .call c) (hc : c.callee = .value f)
    (he : callV call E Cx d (evalO s f) (evalOs s c.args.toList) s = some res) (g : OpGoal E w A β s o a next Q res) : o.wp E.P a w next Q := by
  have hargs := hs.evals c.args.toList
  have hm : (c.args.map a.eval).toList = c.args.toList.map a.eval := by simp
  rw [← hm] at hargs
  obtain ⟨gf, x, y, hcf, hok, hC⟩ := callV_sound hcall hhand hs.heap (hs.eval f) hargs he
  unfold Oper.wp
  have hrun : (execOp a.eval o).run E.P w = .ok (.enter gf (x ++ c.args.map a.eval ++ y)) w := by
    simp only [execOp, ho, resolve, hc, hcf, Deferred.ofValue, Sem.run_bind, Sem.run_pure, Result.andThen_ok, invoke]
    exact callFunc_run (hG gf hok)
  rw [hrun, Oper.upon_enter]
  refine hC.mono ?_
  rintro e w' ⟨A', β', h⟩
  cases res with
  | val v s' =>
    obtain ⟨cv, rfl, h1, h2⟩ := h
    exact g.val v s' cv w' A' β' rfl h1 h2
  | pan v s' =>
    obtain ⟨cv, rfl, h1, h2⟩ := h
    exact g.pan v s' cv w' A' β' rfl h1 h2
end
end Go.Vi
namespace Go.Vi
open Go
theorem int_of {w A} {v : V} {c : Value} (h : isIntV v = true) (hc : PC w A v c) : ∃ k n, v = .int k n ∧ c = .int k n := by
  cases v <;> simp [isIntV] at h
  rename_i k n
  exact ⟨k, n, rfl, by simpa [PC] using hc⟩
inductive KeyShape (P : Program) (t : TypeId) : V → Value → Prop where
  | int {q k n} : P.underlying t = some (.int q) → KeyShape P t (.int k n) (.int k n)
  | str {s} : P.underlying t = some .string → KeyShape P t (.str s) (.string ⟨s.toArray⟩)
  | bool {b} : P.underlying t = some .bool → KeyShape P t (.bool b) (.bool b)
  | arr {n e q i cs xs} : P.underlying t = some (.array n e) → P.underlying e = some (.int q) → P.info? e = some i → szT P e = 1 → cs.length = n → cs.all isIntV = true → (∀ w A, PCs w A cs xs.toList) → KeyShape P t (.agg cs) (.agg xs)
theorem pcs_ints {w A} : ∀ {cs : List V} {xs : List Value}, cs.all isIntV = true → PCs w A cs xs → ∀ w' A', PCs w' A' cs xs
  | [], xs, _, h, w', A' => by simpa [PCs] using h
  | v :: r, xs, hi, h, w', A' => by
    simp only [List.all_cons, Bool.and_eq_true] at hi
    simp only [PCs] at h ⊢
    obtain ⟨c, d, e, h1, h2⟩ := h
    obtain ⟨k, n, rfl, rfl⟩ := int_of hi.1 h1
    exact ⟨_, d, e, by simp [PC], pcs_ints hi.2 h2 w' A'⟩
theorem key_shape {P : Program} {t : TypeId} {w A} {v : V} {c : Value} (h : keyOk P t v = true) (hc : PC w A v c) : KeyShape P t v c := by
  unfold keyOk at h
  split at h
  · rename_i q k n hu; have : c = .int k n := by simpa [PC] using hc
    subst this; exact .int hu
  · rename_i s hu; have : c = .string ⟨s.toArray⟩ := by simpa [PC] using hc
    subst this; exact .str hu
  · rename_i b hu; have : c = .bool b := by simpa [PC] using hc
    subst this; exact .bool hu
  · rename_i n e cs hu
    simp only [Bool.and_eq_true, beq_iff_eq] at h
    obtain ⟨⟨⟨h1, h2⟩, h3⟩, h4⟩ := h
    simp only [PC] at hc
    obtain ⟨a, rfl, hc⟩ := hc
    obtain ⟨q, hq⟩ := Option.isSome_iff_exists.1 h4
    have hue : P.underlying e = some (.int q) := by
      unfold intT at hq
      split at hq
      · rename_i k2 hk2; injection hq with hq; subst hq; exact hk2
      · cases hq
    obtain ⟨i, hi⟩ := info_of_under hue
    exact .arr hu hue hi h3 h1 h2 (pcs_ints h2 hc)
  · cases h
theorem keyEqL_cons {k k' : IntKind} {m m' : Int} {a b : List V} {r : Bool} (h : keyEqL (.int k m :: a) (.int k' m' :: b) = some r) : k = k' ∧ ∃ t, keyEqL a b = some t ∧ (m == m' && t) = r := by
  simp only [keyEqL] at h
  split at h
  · rename_i e
    exact ⟨e, Option.map_eq_some_iff.1 h⟩
  · cases h
theorem part_int {P : Program} {w : World} {e : TypeId} {q k : IntKind} {n : Int} {xs : Array Value} {j : Nat} (hu : P.underlying e = some (.int q)) (hj : xs[j]? = some (.int k n)) : (part e xs j).run P w = .ok (.int k n) w := by
  have ha : (isAgg e).run P w = .ok false w := by simp [isAgg, run_underlying hu]
  simp only [part, Sem.run_bind, ha, Result.andThen_ok, Bool.false_eq_true, if_false, hj]
  rfl
theorem eqItems_ints {P : Program} {w : World} {d : Nat} {e : TypeId} {q : IntKind} (hu : P.underlying e = some (.int q)) {xs ys : Array Value} : ∀ (a b : List V) (o : Nat) (r : Bool), keyEqL a b = some r → (∀ w A, PCs w A a (xs.toList.drop o)) → (∀ w A, PCs w A b (ys.toList.drop o)) →
    (Op.eqItems (d + 1) e 1 xs ys (List.range' o a.length)).run P w = .ok r w
  | [], [], o, r, h, _, _ => by simp [keyEqL] at h; subst h; simp [Op.eqItems]
  | [], _ :: _, _, _, h, _, _ => by simp [keyEqL] at h
  | x :: a, [], _, _, h, _, _ => by cases x <;> simp [keyEqL] at h
  | x :: a, y :: b, o, r, h, hx, hy => by
    cases x <;> cases y <;> first | (simp [keyEqL] at h; done) | skip
    rename_i k m k' m'
    obtain ⟨rfl, t, h1, h2⟩ := keyEqL_cons h
    have nx : ∀ {zs : Array Value} {c : List V} {z : Int}, (∀ w A, PCs w A (.int k z :: c) (zs.toList.drop o)) → zs[o]? = some (.int k z) ∧ ∀ w A, PCs w A c (zs.toList.drop (o + 1)) := fun {zs c z} hz => by
      have h0 := hz w (fun _ => True)
      simp only [PCs, PC] at h0
      obtain ⟨v, dd, e1, rfl, _⟩ := h0
      have hd : zs.toList.drop (o + 1) = dd := by rw [← List.drop_drop, e1]; rfl
      have hg : zs[o]? = some (.int k z) := by rw [← Array.getElem?_toList, ← Nat.add_zero o, ← List.getElem?_drop, e1]; rfl
      refine ⟨hg, fun w A => ?_⟩
      have h2 := hz w A
      simp only [PCs, PC] at h2
      obtain ⟨v, dd', e2, rfl, h3⟩ := h2
      rw [e1] at e2
      injection e2 with _ e2
      rw [hd, e2]; exact h3
    obtain ⟨gx, rx⟩ := nx hx
    obtain ⟨gy, ry⟩ := nx hy
    have heq : (Op.equalIn (d + 1) e (.int k m) (.int k m')).run P w = .ok (m == m') w := by
      simp [Op.equalIn, run_underlying hu]
    simp only [List.length_cons, List.range'_succ, Op.eqItems, Nat.mul_one, Sem.run_bind, part_int hu gx, part_int hu gy, Result.andThen_ok, heq]
    cases hmm : (m == m') with
    | false => rw [hmm] at h2; simp at h2; subst h2; simp
    | true => rw [hmm] at h2; simp at h2; subst h2; simpa using eqItems_ints hu a b (o + 1) t h1 rx ry
theorem PCs_all {w A w' A'} : ∀ {a b : List V} {r : Bool} {ys : List Value}, keyEqL a b = some r → PCs w A b ys → PCs w' A' b ys
  | [], [], _, ys, _, h => by simpa [PCs] using h
  | [], _ :: _, _, _, h, _ => by simp [keyEqL] at h
  | x :: a, [], _, _, h, _ => by cases x <;> simp [keyEqL] at h
  | x :: a, y :: b, _, ys, h, hb => by
    cases x <;> cases y <;> first | (simp [keyEqL] at h; done) | skip
    obtain ⟨_, t, h1, _⟩ := keyEqL_cons h
    simp only [PCs, PC] at hb ⊢
    obtain ⟨c, d, e, e2, h2⟩ := hb
    exact ⟨c, d, e, e2, PCs_all h1 h2⟩
theorem equal_key {P : Program} {t : TypeId} {w A} {k q : V} {ck cq : Value} {r : Bool} {n e : Nat} (hs : KeyShape P t k ck) (hu : P.underlying t = some (.array n e)) (h : keyEq k q = some r) (hq : PC w A q cq) : (Op.equal t ck cq).run P w = .ok r w := by
  cases hs with
  | int hu' => rw [hu] at hu'; cases hu'
  | str hu' => rw [hu] at hu'; cases hu'
  | bool hu' => rw [hu] at hu'; cases hu'
  | @arr n' e' q' i cs xs hu' hue hi hsz hlen hint hpc =>
    cases q <;> simp [keyEq] at h
    rename_i ds
    simp only [PC] at hq
    obtain ⟨ys, rfl, hq⟩ := hq
    unfold Op.equal Op.maxDepth
    rw [show (10000 : Nat) = 9999 + 1 from rfl, run_equalIn_array w 9999 xs ys hu' hi]
    have hc : P.cellsOf e' = 1 := hsz
    rw [hc, List.range_eq_range', ← hlen]
    exact eqItems_ints (d := 9998) hue cs ds 0 r h (by simpa using hpc) (fun w' A' => by simpa using PCs_all h hq)
theorem sameNow_key {P : Program} {t : TypeId} {w A} {d : TypeDesc} {k q : V} {ck cq : Value} {r : Bool} (hs : KeyShape P t k ck) (hu : P.underlying t = some d) (hn : ∀ n e, d ≠ .array n e) (h : keyEq k q = some r) (hq : PC w A q cq) : Instr.sameNow d ck cq = some r := by
  cases hs with
  | int hu' =>
    rw [hu] at hu'; injection hu' with hu'; subst hu'
    cases q <;> simp [keyEq] at h
    simp only [PC] at hq
    subst hq
    obtain ⟨rfl, h⟩ := h
    simp [Instr.sameNow, h]
  | str hu' =>
    rw [hu] at hu'; injection hu' with hu'; subst hu'
    cases q <;> simp [keyEq] at h
    simp only [PC] at hq
    subst hq
    rename_i a b
    simp only [Instr.sameNow]
    rw [← h]
    congr 1
    rw [beq_toListBytes, ByteArray.toList_mk, ByteArray.toList_mk]
  | bool hu' =>
    rw [hu] at hu'; injection hu' with hu'; subst hu'
    cases q <;> simp [keyEq] at h
    simp only [PC] at hq
    subst hq
    simp [Instr.sameNow, h]
  | arr hu' => rw [hu] at hu'; injection hu' with hu'; exact absurd hu' (hn _ _)
def FoundC (w : World) (A : Nat → Prop) (l : List MapEntry) (i : Nat) : Option (Nat × V) → Option (Nat × Value) → Prop
  | none, r => r = none
  | some (j, v), r => ∃ e : MapEntry, r = some (j, e.val) ∧ i ≤ j ∧ l[j - i]? = some e ∧ PC w A v e.val
theorem FoundC.succ {w A l i e r r'} (h : FoundC w A l (i + 1) r r') : FoundC w A (e :: l) i r r' := by
  cases r with
  | none => exact h
  | some p =>
    obtain ⟨e', h1, h2, h3, h4⟩ := h
    refine ⟨e', h1, by omega, ?_, h4⟩
    rw [show p.1 - i = (p.1 - (i + 1)) + 1 by omega]
    exact h3
theorem findNow_sound {P : Program} {t : TypeId} {w A} {d : TypeDesc} {k : V} {ck : Value} (hs : KeyShape P t k ck) (hu : P.underlying t = some d) (hn : ∀ n e, d ≠ .array n e) : ∀ (es : List (V × V)) (l : List MapEntry) (i : Nat) (r : Option (Nat × V)), mfind k es i = some r → MEs w A es l →
    ∃ r', Instr.findNow d ck l i = some r' ∧ FoundC w A l i r r'
  | [], l, i, r, h, hm => by
    simp only [MEs] at hm; subst hm
    simp [mfind] at h; subst h
    exact ⟨none, rfl, rfl⟩
  | (q, v) :: es, l, i, r, h, hm => by
    simp only [MEs] at hm
    obtain ⟨e, dd, rfl, h1, h2, h3⟩ := hm
    simp only [mfind] at h
    split at h
    · rename_i hk
      injection h with h; subst h
      exact ⟨some (i, e.val), by simp [Instr.findNow, sameNow_key hs hu hn hk h1], e, rfl, Nat.le_refl _, by simp, h2⟩
    · rename_i hk
      obtain ⟨r', f1, f2⟩ := findNow_sound hs hu hn es dd (i + 1) r h h3
      exact ⟨r', by simp [Instr.findNow, sameNow_key hs hu hn hk h1, f1], f2.succ⟩
    · cases h
theorem findAsking_sound {P : Program} {t : TypeId} {w A} {n e : Nat} {k : V} {ck : Value} (hs : KeyShape P t k ck) (hu : P.underlying t = some (.array n e)) : ∀ (es : List (V × V)) (l : List MapEntry) (i : Nat) (r : Option (Nat × V)), mfind k es i = some r → MEs w A es l →
    ∃ r', (Instr.findAsking t ck l i).run P w = .ok r' w ∧ FoundC w A l i r r'
  | [], l, i, r, h, hm => by
    simp only [MEs] at hm; subst hm
    simp [mfind] at h; subst h
    exact ⟨none, rfl, rfl⟩
  | (q, v) :: es, l, i, r, h, hm => by
    simp only [MEs] at hm
    obtain ⟨en, dd, rfl, h1, h2, h3⟩ := hm
    simp only [mfind] at h
    split at h
    · rename_i hk
      injection h with h; subst h
      exact ⟨some (i, en.val), by simp [Instr.findAsking, equal_key hs hu hk h1], en, rfl, Nat.le_refl _, by simp, h2⟩
    · rename_i hk
      obtain ⟨r', f1, f2⟩ := findAsking_sound hs hu es dd (i + 1) r h h3
      exact ⟨r', by simp [Instr.findAsking, equal_key hs hu hk h1, f1], f2.succ⟩
    · cases h
theorem findKey_sound {P : Program} {t : TypeId} {w A} {k : V} {ck : Value} (hs : KeyShape P t k ck) {es : List (V × V)} {l : List MapEntry} {r : Option (Nat × V)} (h : mfind k es 0 = some r) (hm : MEs w A es l) :
    ∃ r', (Instr.findKey t ck l).run P w = .ok r' w ∧ FoundC w A l 0 r r' := by
  have simple : ∀ d, P.underlying t = some d → (∀ n e, d ≠ .array n e) → ∃ r', (Instr.findKey t ck l).run P w = .ok r' w ∧ FoundC w A l 0 r r' := fun d hu hn => by
    obtain ⟨r', f1, f2⟩ := findNow_sound hs hu hn es l 0 r h hm
    exact ⟨r', by simp [Instr.findKey, run_underlying hu, f1], f2⟩
  cases hs with
  | int hu => exact simple _ hu (by simp)
  | str hu => exact simple _ hu (by simp)
  | bool hu => exact simple _ hu (by simp)
  | @arr n e q i cs xs hu hue hi hsz hlen hint hpc =>
    obtain ⟨r', f1, f2⟩ := findAsking_sound (.arr hu hue hi hsz hlen hint hpc) hu es l 0 r h hm
    refine ⟨r', ?_, f2⟩
    have hn : Instr.findNow (.array n e) (.agg xs) l 0 = none ∨ l = [] := by
      cases l with
      | nil => exact .inr rfl
      | cons a b => exact .inl (by simp [Instr.findNow, Instr.sameNow])
    rcases hn with hn | rfl
    · simp [Instr.findKey, run_underlying hu, hn, f1]
    · simp [Instr.findAsking] at f1
      subst f1
      simp [Instr.findKey, run_underlying hu, Instr.findNow]
theorem chk_int {P : Program} {t : TypeId} {w : World} {q k : IntKind} {z : Int} {em : Bool} (hu : P.underlying t = some (.int q)) (n : Nat) : (Instr.checkKey em (n + 1) t (.int k z)).run P w = .ok () w := by simp [Instr.checkKey, run_underlying hu]
theorem chk_str {P : Program} {t : TypeId} {w : World} {z : ByteArray} {em : Bool} (hu : P.underlying t = some .string) (n : Nat) : (Instr.checkKey em (n + 1) t (.string z)).run P w = .ok () w := by simp [Instr.checkKey, run_underlying hu]
theorem chk_bool {P : Program} {t : TypeId} {w : World} {z : Bool} {em : Bool} (hu : P.underlying t = some .bool) (n : Nat) : (Instr.checkKey em (n + 1) t (.bool z)).run P w = .ok () w := by simp [Instr.checkKey, run_underlying hu]
theorem checkKey_sound {P : Program} {t : TypeId} {w : World} {k : V} {ck : Value} (hs : KeyShape P t k ck) (em : Bool) : (Instr.checkKey em 10000 t ck).run P w = .ok () w := by
  rw [show (10000 : Nat) = 9999 + 1 from rfl]
  cases hs with
  | int hu => exact chk_int hu 9999
  | str hu => exact chk_str hu 9999
  | bool hu => exact chk_bool hu 9999
  | @arr n e q i cs xs hu hue hi hsz hlen hint hpc =>
    rw [Instr.checkKey]
    simp only [Sem.run_bind, run_underlying hu, Result.andThen_ok]
    simp only [Std.Legacy.Range.forIn_eq_forIn_range', Std.Legacy.Range.size, Nat.sub_zero, Nat.add_one_sub_one, Nat.div_one]
    have hall : ∀ j ∈ List.range' 0 n, ∃ k z, xs[j]? = some (.int k z) := fun j hj => by
      have hj' : j < n := by have := List.mem_range'_1.1 hj; omega
      have h0 := hpc w (fun _ => True)
      have hl : j < xs.toList.length := by rw [h0.length, hlen]; exact hj'
      have hcj : cs[j]? = some cs[j] := List.getElem?_eq_getElem (by omega)
      obtain ⟨c, g1, g2⟩ := (h0.to_ICs (β := noB)).get hcj
      have hiv : isIntV cs[j] = true := List.all_eq_true.1 hint _ (List.getElem_mem _)
      obtain ⟨kk, z, e1⟩ : ∃ kk z, cs[j] = .int kk z := by
        cases hh : cs[j] <;> rw [hh] at hiv <;> simp [isIntV] at hiv
        exact ⟨_, _, rfl⟩
      rw [e1] at g2
      rw [g2.int_] at g1
      exact ⟨kk, z, by simpa using g1⟩
    generalize List.range' 0 n = is at hall
    induction is with
    | nil => simp
    | cons j is ih =>
      obtain ⟨kk, z, hj⟩ := hall j (by simp)
      have hsz1 : (sizeOf e).run P w = .ok 1 w := by
        have := (ifacts hi).1
        rw [hsz] at this
        simp [sizeOf, typeInfo, hi, ← this]
      have hck : (Instr.checkKey em 9999 e (.int kk z)).run P w = .ok () w := by
        rw [show (9999 : Nat) = 9998 + 1 from rfl]
        exact chk_int hue 9998
      simp only [List.forIn_cons, Sem.run_bind, hsz1, Result.andThen_ok, Nat.mul_one, part_int hue hj, hck, Sem.run_pure]
      exact ih (fun y hy => hall y (by simp [hy]))
end Go.Vi
namespace Go.Vi
open Go
theorem keyEqL_same {w A} : ∀ {a b : List V} {xs ys : List Value}, keyEqL a b = some true → PCs w A a xs → PCs w A b ys → xs = ys
  | [], [], xs, ys, _, h1, h2 => by simp only [PCs] at h1 h2; rw [h1, h2]
  | [], _ :: _, _, _, h, _, _ => by simp [keyEqL] at h
  | x :: a, [], _, _, h, _, _ => by cases x <;> simp [keyEqL] at h
  | x :: a, y :: b, xs, ys, h, h1, h2 => by
    cases x <;> cases y <;> first | (simp [keyEqL] at h; done) | skip
    obtain ⟨rfl, t, h3, h4⟩ := keyEqL_cons h
    simp only [Bool.and_eq_true, beq_iff_eq] at h4
    obtain ⟨rfl, rfl⟩ := h4
    simp only [PCs, PC] at h1 h2
    obtain ⟨c, d, rfl, rfl, g1⟩ := h1
    obtain ⟨c', d', rfl, rfl, g2⟩ := h2
    rw [keyEqL_same h3 g1 g2]
theorem keyEq_same {P : Program} {t : TypeId} {w A} {k q : V} {ck cq : Value} (hs : KeyShape P t k ck) (h : keyEq k q = some true) (hq : PC w A q cq) : cq = ck := by
  cases hs with
  | int hu =>
    cases q <;> simp [keyEq] at h
    simp only [PC] at hq; subst hq
    obtain ⟨rfl, rfl⟩ := h; rfl
  | str hu =>
    cases q <;> simp [keyEq] at h
    simp only [PC] at hq; subst hq; subst h; rfl
  | bool hu =>
    cases q <;> simp [keyEq] at h
    simp only [PC] at hq; subst hq; subst h; rfl
  | arr hu hue hi hsz hlen hint hpc =>
    cases q <;> simp [keyEq] at h
    simp only [PC] at hq
    obtain ⟨ys, rfl, hq⟩ := hq
    have := keyEqL_same h (hpc w A) hq
    rw [Array.toList_inj.1 this]
theorem sameBits_ints {w A} (n : Nat) : ∀ {cs : List V} {xs : List Value}, cs.all isIntV = true → PCs w A cs xs → ((xs.zip xs).all fun (x, y) => Instr.sameBits n x y) = true
  | [], xs, _, h => by simp only [PCs] at h; subst h; rfl
  | v :: r, xs, hi, h => by
    simp only [List.all_cons, Bool.and_eq_true] at hi
    simp only [PCs] at h
    obtain ⟨c, d, rfl, h1, h2⟩ := h
    obtain ⟨k, z, rfl, rfl⟩ := int_of hi.1 h1
    simp only [List.zip_cons_cons, List.all_cons, Bool.and_eq_true]
    refine ⟨?_, sameBits_ints n hi.2 h2⟩
    cases n <;> simp [Instr.sameBits]
theorem stays_sound {P : Program} {t : TypeId} {w : World} {k : V} {ck : Value} (hs : KeyShape P t k ck) : (Instr.keyThatStays ck ck).run P w = .ok ck w := by
  have key : Instr.sameBits 10000 ck ck = true → (Instr.keyThatStays ck ck).run P w = .ok ck w := fun h => by
    unfold Instr.keyThatStays
    rw [if_pos h]
    rfl
  apply key
  rw [show (10000 : Nat) = 9999 + 1 from rfl]
  generalize (9999 : Nat) = n
  cases hs with
  | int hu => simp [Instr.sameBits]
  | str hu => simp [Instr.sameBits, beq_toListBytes]
  | bool hu => simp [Instr.sameBits]
  | arr hu hue hi hsz hlen hint hpc =>
    simp only [Instr.sameBits, beq_self_eq_true, Bool.true_and]
    exact sameBits_ints (w := w) (A := fun _ => True) n hint (hpc w _)
theorem mfind_at : ∀ {es : List (V × V)} {i j : Nat} {k v : V}, mfind k es i = some (some (j, v)) → i ≤ j ∧ ∃ q, es[j - i]? = some (q, v) ∧ keyEq k q = some true
  | [], i, j, k, v, h => by simp [mfind] at h
  | (q, u) :: r, i, j, k, v, h => by
    simp only [mfind] at h
    split at h
    · rename_i hk
      simp only [Option.some.injEq, Prod.mk.injEq] at h
      obtain ⟨rfl, rfl⟩ := h
      exact ⟨Nat.le_refl _, q, by simp, hk⟩
    · obtain ⟨h1, q', h2, h3⟩ := mfind_at h
      refine ⟨by omega, q', ?_, h3⟩
      rw [show j - i = (j - (i + 1)) + 1 by omega]
      exact h2
    · cases h
theorem MEs.set {w A} {x : V} {cx : Value} (hx : PC w A x cx) : ∀ {es : List (V × V)} {l : List MapEntry} {j : Nat} {e : MapEntry}, MEs w A es l → l[j]? = some e → MEs w A (mset es j x) (l.set j { e with val := cx })
  | [], l, j, e, h, hj => by simp only [MEs] at h; subst h; cases hj
  | (q, u) :: r, l, 0, e, h, hj => by
    simp only [MEs] at h
    obtain ⟨e', d, rfl, h1, h2, h3⟩ := h
    simp only [List.getElem?_cons_zero, Option.some.injEq] at hj
    subst hj
    simp only [mset, List.set_cons_zero, MEs]
    exact ⟨_, d, rfl, h1, hx, h3⟩
  | (q, u) :: r, l, j + 1, e, h, hj => by
    simp only [MEs] at h
    obtain ⟨e', d, rfl, h1, h2, h3⟩ := h
    simp only [mset, List.set_cons_succ, MEs]
    exact ⟨e', _, rfl, h1, h2, MEs.set hx h3 (by simpa using hj)⟩
theorem MEs.push {w A} {k x : V} {e : MapEntry} (hk : PC w A k e.key) (hx : PC w A x e.val) : ∀ {es : List (V × V)} {l : List MapEntry}, MEs w A es l → MEs w A (es ++ [(k, x)]) (l ++ [e])
  | [], l, h => by simp only [MEs] at h; subst h; simp only [List.nil_append, MEs]; exact ⟨e, [], rfl, hk, hx, rfl⟩
  | (q, u) :: r, l, h => by
    simp only [MEs] at h
    obtain ⟨e', d, rfl, h1, h2, h3⟩ := h
    simp only [List.cons_append, MEs]
    exact ⟨e', _, rfl, h1, h2, MEs.push hk hx h3⟩
theorem MEs.get {w A} : ∀ {es : List (V × V)} {l : List MapEntry} {j : Nat} {q v : V}, MEs w A es l → es[j]? = some (q, v) → ∃ e, l[j]? = some e ∧ PC w A q e.key ∧ PC w A v e.val
  | [], l, j, q, v, h, hj => by cases hj
  | (q', u) :: r, l, 0, q, v, h, hj => by
    simp only [MEs] at h
    obtain ⟨e', d, rfl, h1, h2, h3⟩ := h
    simp only [List.getElem?_cons_zero, Option.some.injEq, Prod.mk.injEq] at hj
    obtain ⟨rfl, rfl⟩ := hj
    exact ⟨e', rfl, h1, h2⟩
  | (q', u) :: r, l, j + 1, q, v, h, hj => by
    simp only [MEs] at h
    obtain ⟨e', d, rfl, h1, h2, h3⟩ := h
    obtain ⟨e, g1, g2⟩ := MEs.get h3 (by simpa using hj)
    exact ⟨e, by simpa using g1, g2⟩
theorem keyOk_pure {P : Program} {t : TypeId} {k : V} (h : keyOk P t k = true) : pureR k = true := by
  have hl : ∀ cs : List V, cs.all isIntV = true → pureRL cs = true := fun cs => by
    induction cs with
    | nil => intro _; rfl
    | cons v r ih =>
      intro h
      simp only [List.all_cons, Bool.and_eq_true] at h
      simp only [pureRL, Bool.and_eq_true]
      refine ⟨?_, ih h.2⟩
      cases v <;> simp [isIntV] at h <;> rfl
  unfold keyOk at h
  split at h
  · rfl
  · rfl
  · rfl
  · simp only [Bool.and_eq_true] at h
    simp only [pureR]
    exact hl _ h.1.1.2
  · cases h
theorem ite_some' {c : Prop} [Decidable c] {α : Type} {x : Option α} {y : α} (h : (if c then x else none) = some y) : c ∧ x = some y := by
  split at h
  · exact ⟨by assumption, h⟩
  · cases h
section
variable {E : Env} {w : World} {A : Nat → Prop} {β : Beta} {s : St}
theorem mref_map {k : Key} {ver : Nat} {c : Value} {es : List (V × V)} {n : Nat} (h : HR w A β n (s.heap E)) (hm : IC w A β (.mref k ver) c) (ho : s.obj E k ver = some (.map es)) :
    ∃ i b ents clock, β k ver = some i ∧ i.b = some b ∧ i.csz = 0 ∧ c = .map (some b) ∧ w.heap[b]? = some (.map ents clock) ∧ MEs w A es ents.toList ∧ BornIs ents clock := by
  obtain ⟨i, hi, hoc⟩ := h.obj _ _ _ (obj_heap ho)
  unfold OC at hoc
  obtain ⟨b, ents, clock, hb, h0, hw, hme, hbo⟩ := hoc
  simp only [IC] at hm
  obtain ⟨i', b', hi', hb', e⟩ := hm
  rw [hi] at hi'
  injection hi' with hi'
  subst hi'
  rw [hb] at hb'
  injection hb' with hb'
  subst hb'
  have e2 : mrefC i b = .map (some b) := by unfold mrefC; rw [if_neg (by omega)]
  exact ⟨i, b, ents, clock, hi, hb, h0, e.trans e2, hw, hme, hbo⟩
theorem newMap_sound {d : Nat} {t : TypeId} (h : HR w A β s.c (s.heap E)) : ∃ cv w' β', (Instr.makeMap t none).run E.P w = .ok cv w' ∧ Step E w A β s w' A β' (newMap E d s).2 ∧ IC w' A β' (newMap E d s).1 cv := by
  have hw : Pushed w (w.alloc (.map #[] 0)) (.map #[] 0) := ⟨rfl, rfl, rfl, rfl⟩
  have hh : (newMap E d s).2.heap E = fun q => if q = (⟨E.lvl, d, 0⟩ : Key) then some (s.c, .map []) else s.heap E q := by
    show (s.put E ⟨E.lvl, d, 0⟩ s.c (.map [])).heap E = _
    rw [heap_put (Nat.le_refl _)]
  refine ⟨.map (some w.heap.size), _, _, by simp [Instr.makeMap, newObj, Sem.run], Step.new (k := ⟨E.lvl, d, 0⟩) (o := .map []) (i := ⟨some w.heap.size, 0, 1, 0⟩) h put_lc.1 rfl ?_ ?_ hw.os hw.tape hw.output (by rw [hw.size]; omega) (fun b hb => .inl (hw.old hb)) ?_ ?_, ?_⟩
  · intro q p hq hp
    rw [hh] at hp
    simpa only [if_neg hq] using hp
  · rw [hh]; simp
  · intro b hb
    injection hb with hb
    subst hb
    refine ⟨.inl (Nat.le_refl _), fun q v p j hq hp hj hjb => ?_⟩
    rw [hh] at hp
    simp only [if_neg hq] at hp
    have := h.lt ⟨q, v, p, j, hp, hj, hjb⟩
    omega
  · unfold OC
    exact ⟨_, #[], 0, rfl, rfl, hw.new, by simp [MEs], rfl, fun j e h => by simp at h⟩
  · simp only [IC, newMap]
    exact ⟨⟨some w.heap.size, 0, 1, 0⟩, w.heap.size, by simp, rfl, by simp [mrefC]⟩
theorem setMap {P : Program} {w : World} {b : Nat} {ents : Array MapEntry} {clock : Nat} (o : Go.Obj) (h : w.heap[b]? = some (.map ents clock)) : (setObj b o).run P w = .ok () { w with heap := w.heap.setIfInBounds b o } := by simp [setObj, Sem.run, h]
theorem BornIs.push {ents : Array MapEntry} {clock : Nat} {e : MapEntry} (h : BornIs ents clock) (he : e.born = clock) : BornIs (ents.push e) (clock + 1) := by
  refine ⟨by rw [Array.size_push, h.1], fun j e' hj => ?_⟩
  rw [Array.toList_push, List.getElem?_append] at hj
  split at hj
  · exact h.2 j e' hj
  · rename_i hlt
    rw [Array.length_toList] at hlt hj
    have hz : j - ents.size = 0 := by
      by_cases q : j - ents.size = 0
      · exact q
      · rw [List.getElem?_eq_none (by simp; omega)] at hj; cases hj
    rw [hz] at hj
    injection hj with hj
    rw [← hj, he, h.1]
    omega
theorem BornIs.find {ents : Array MapEntry} {clock : Nat} (h : BornIs ents clock) {j : Nat} (hj : j < ents.size) : ents.findIdx? (fun e => (e.born : Int) == (j : Int)) = some j := by
  rw [Array.findIdx?_eq_some_iff_getElem]
  refine ⟨hj, ?_, fun i hi => ?_⟩
  · have := h.2 j ents[j] (by rw [Array.getElem?_toList]; exact Array.getElem?_eq_getElem hj)
    simp [this]
  · have := h.2 i ents[i] (by rw [Array.getElem?_toList]; exact Array.getElem?_eq_getElem (by omega))
    simp only [this, Bool.not_eq_true, beq_eq_false_iff_ne, ne_eq]
    omega
theorem mapPut_sound {t : TypeId} {m k x : V} {cm ck cx : Value} {s' : St} (h : HR w A β s.c (s.heap E)) (he : mapPut E t m k x s = some s') (hm : IC w A β m cm) (hk : IC w A β k ck) (hx : IC w A β x cx) :
    ∃ w' A' β', (Instr.mapUpdate t cm ck cx).run E.P w = .ok () w' ∧ Step E w A β s w' A' β' s' := by
  unfold mapPut at he
  split at he
  case h_2 => cases he
  rename_i q ver kt et hmt
  split at he
  case h_2 => cases he
  rename_i es0 x' ho0 hkok hfx
  have hkp : PC w A k ck := IC.pure_of k ck (keyOk_pure hkok) hk (fun _ _ h => h)
  have hs := key_shape hkok hkp
  obtain ⟨st, hpx⟩ := frz_dels h hx hfx
  generalize hA1 : (fun b => A b ∨ Frozen (s.heap E) β (refs x) b) = A1 at st hpx
  dsimp only at he
  split at he
  case h_2 => cases he
  rename_i es ho
  simp only [Option.map_eq_some_iff] at he
  obtain ⟨es', hput, rfl⟩ := he
  have hm1 : IC w A1 β (.mref q ver) cm := h.carry st.1 hm
  have hk1 : PC w A1 k ck := PC.mono st.1.imm (fun _ _ => rfl) k ck hkp
  obtain ⟨i, b, ents, clock, hi, hb, h0, rfl, hwb, hme, hbo⟩ := mref_map st.2.1 hm1 ho
  have hoh := obj_heap ho
  have hblt : b < w.heap.size := (Array.getElem?_eq_some_iff.1 hwb).1
  have done : ∀ o' : Array MapEntry × Nat, (Instr.mapUpdate t (.map (some b)) ck cx).run E.P w = .ok () { w with heap := w.heap.setIfInBounds b (.map o'.1 o'.2) } → MEs w A1 es' o'.1.toList → BornIs o'.1 o'.2 →
      ∃ w' A' β', (Instr.mapUpdate t (.map (some b)) ck cx).run E.P w = .ok () w' ∧ Step E w A β s w' A' β' ((St.dels E (refs x) s).put E q ver (.map es')) := fun o' hrun hme' hbo' => by
    have hoth : ∀ b2, i.b ≠ some b2 → (w.heap.setIfInBounds b (.map o'.1 o'.2))[b2]? = w.heap[b2]? := fun b2 h2 => Array.getElem?_setIfInBounds_ne (by rintro rfl; exact h2 hb)
    refine ⟨_, A1, β, hrun, st.trans (Step.upd (o' := .map es') st.2.1 hoh hi rfl rfl rfl (by simp) hoth ?_)⟩
    unfold OC
    refine ⟨b, o'.1, o'.2, hb, h0, by simp [hblt], hme'.mono (fun _ h => h) (fun b2 hb2 => sameC (hoth b2 (by rintro e; rw [hb] at e; injection e with e; subst e; exact (st.2.1.imm _ hb2).2 ⟨q, ver, _, i, hoh, hi, hb⟩))), hbo'⟩
  unfold mput at hput
  split at hput
  · rename_i j v hf
    injection hput with hput
    subst hput
    obtain ⟨r', f1, f2⟩ := findKey_sound hs hf hme
    obtain ⟨e, rfl, _, f3, f4⟩ := f2
    obtain ⟨_, q', g1, g2⟩ := mfind_at hf
    obtain ⟨e2, g3, g4, g5⟩ := hme.get g1
    rw [f3] at g3
    injection g3 with g3
    subst g3
    have hkey : e.key = ck := keyEq_same hs g2 g4
    simp only [Nat.sub_zero] at f3
    have hje : ents[j]? = some e := by rw [← Array.getElem?_toList]; exact f3
    have hj' : j < ents.size := (Array.getElem?_eq_some_iff.1 hje).1
    have hmod : (ents.modify j fun e => { e with key := ck, val := cx }).toList = ents.toList.modify j fun e => { e with key := ck, val := cx } := Array.toList_modify ..
    refine done (ents.modify j fun e => { e with key := ck, val := cx }, clock) ?_ ?_ ⟨by simpa using hbo.1, fun n e' he' => ?_⟩
    · simp only [Instr.mapUpdate, Sem.run_bind, run_underlying (mapT_some hmt), Result.andThen_ok, MapKept.run_getObj_map hwb, checkKey_sound hs, f1, hje, Option.map_some, Option.getD_some, hkey, stays_sound hs, setMap _ hwb]
    · have : (ents.modify j fun e => { e with key := ck, val := cx }).toList = ents.toList.set j { e with val := cx } := by
        rw [Array.toList_modify]
        apply List.ext_getElem?
        intro n
        rw [List.getElem?_modify, List.getElem?_set]
        by_cases hn : j = n
        · subst hn
          rw [if_pos rfl, f3, if_pos (by simpa using hj')]
          simp [← hkey]
        · rw [if_neg hn]
          simp [hn]
      rw [this]
      exact MEs.set hpx hme f3
    · rw [hmod, List.getElem?_modify] at he'
      cases hn : ents.toList[n]? with
      | none => rw [hn] at he'; simp at he'
      | some e0 =>
        rw [hn] at he'
        have := hbo.2 n e0 hn
        simp only [Option.map_eq_map, Option.map_some, Option.some.injEq] at he'
        rw [← he']
        split <;> exact this
  · rename_i hf
    injection hput with hput
    subst hput
    obtain ⟨r', f1, f2⟩ := findKey_sound hs hf hme
    have f2 : r' = none := f2
    subst f2
    refine done (ents.push { key := ck, val := cx, born := clock }, clock + 1) ?_ ?_ (hbo.push rfl)
    · simp only [Instr.mapUpdate, Sem.run_bind, run_underlying (mapT_some hmt), Result.andThen_ok, MapKept.run_getObj_map hwb, checkKey_sound hs, f1, setMap _ hwb]
    · rw [Array.toList_push]
      exact MEs.push hk1 hpx hme
  · cases hput
theorem mapEnt_sound {t : TypeId} {m k v : V} {cm ck : Value} {s' : St} (h : HR w A β s.c (s.heap E)) (he : mapEnt E t m k s = some (v, s')) (hm : IC w A β m cm) (hk : IC w A β k ck) :
    ∃ cv w' A' β', (Instr.mapEntry t cm ck).run E.P w = .ok cv w' ∧ Step E w A β s w' A' β' s' ∧ IC w' A' β' v cv := by
  unfold mapEnt at he
  split at he
  case h_2 => cases he
  rename_i q ver kt et hmt
  split at he
  case h_2 => cases he
  rename_i es z ho hz
  obtain ⟨⟨hkok, hzl⟩, he⟩ := ite_some' he
  split at he
  case h_2 => cases he
  rename_i hf
  injection he with he
  injection he with e1 e2
  subst e1 e2
  have hkp : PC w A k ck := IC.pure_of k ck (keyOk_pure hkok) hk (fun _ _ h => h)
  have hs := key_shape hkok hkp
  obtain ⟨i, b, ents, clock, hi, hb, h0, rfl, hwb, hme, hbo⟩ := mref_map h hm ho
  have hoh := obj_heap ho
  have hblt : b < w.heap.size := (Array.getElem?_eq_some_iff.1 hwb).1
  obtain ⟨r', f1, f2⟩ := findKey_sound hs hf hme
  have f2 : r' = none := f2
  subst f2
  obtain ⟨iz, zc, q1, q2, rfl⟩ := zeroT_some hz
  have hzr : (zeroValue et).run E.P w = .ok zc w := by simp [zeroValue, typeInfo, q1, q2]
  have hzp : PC w A (ofValue zc) zc := IC.pure_of _ _ hzl (ofValue_sound (β := β) zc) (fun _ _ h => h)
  have hoth : ∀ b2, i.b ≠ some b2 → (w.heap.setIfInBounds b (.map (ents.push { key := ck, val := zc, born := clock }) (clock + 1)))[b2]? = w.heap[b2]? := fun b2 h2 => Array.getElem?_setIfInBounds_ne (by rintro rfl; exact h2 hb)
  have hpm := MEs.push (e := { key := ck, val := zc, born := clock }) hkp hzp hme
  have hsm : ∀ b2, A b2 → SameC w { w with heap := w.heap.setIfInBounds b (.map (ents.push { key := ck, val := zc, born := clock }) (clock + 1)) } b2 := fun b2 hb2 => sameC (hoth b2 (by rintro e; rw [hb] at e; injection e with e; subst e; exact (h.imm _ hb2).2 ⟨q, ver, _, i, hoh, hi, hb⟩))
  refine ⟨.tuple #[zc, goInt clock], { w with heap := w.heap.setIfInBounds b (.map (ents.push { key := ck, val := zc, born := clock }) (clock + 1)) }, A, β, ?_, Step.upd (o' := .map (es ++ [(k, ofValue zc)])) h hoh hi rfl rfl rfl (by simp) hoth ?_, ?_⟩
  · simp only [Instr.mapEntry, Sem.run_bind, run_underlying (mapT_some hmt), Result.andThen_ok, MapKept.run_getObj_map hwb, checkKey_sound hs, f1, hzr, setMap _ hwb, Sem.run_pure]
  · unfold OC
    refine ⟨b, ents.push { key := ck, val := zc, born := clock }, clock + 1, hb, h0, by simp [hblt], ?_, hbo.push rfl⟩
    rw [Array.toList_push]
    exact hpm.mono (fun _ h => h) hsm
  · have hl : (es.length : Int) = clock := by rw [hbo.1, ← hme.length, Array.length_toList]
    simp only [IC, ICs]
    refine ⟨_, rfl, _, _, rfl, ofValue_sound zc, _, _, rfl, ?_, rfl⟩
    rw [hl]
    simp [PC, goInt]
theorem entPut_sound {t : TypeId} {m n x : V} {cm cn cx : Value} {s' : St} (h : HR w A β s.c (s.heap E)) (he : entPut E m n x s = some s') (hm : IC w A β m cm) (hn : IC w A β n cn) (hx : IC w A β x cx) :
    ∃ w' A' β', (Instr.entryStore t cm cn cx).run E.P w = .ok () w' ∧ Step E w A β s w' A' β' s' := by
  unfold entPut at he
  split at he
  case h_2 => cases he
  rename_i q ver j
  split at he
  case h_2 => cases he
  rename_i x' hfx
  obtain ⟨st, hpx⟩ := frz_dels h hx hfx
  generalize hA1 : (fun b => A b ∨ Frozen (s.heap E) β (refs x) b) = A1 at st hpx
  dsimp only at he
  split at he
  case h_2 => cases he
  rename_i es ho
  obtain ⟨⟨hj0, hjl⟩, he⟩ := ite_some' he
  injection he with he
  subst he
  have hm1 : IC w A1 β (.mref q ver) cm := h.carry st.1 hm
  obtain ⟨i, b, ents, clock, hi, hb, h0, rfl, hwb, hme, hbo⟩ := mref_map st.2.1 hm1 ho
  have hoh := obj_heap ho
  have hblt : b < w.heap.size := (Array.getElem?_eq_some_iff.1 hwb).1
  have hjs : j.toNat < ents.size := by rw [← Array.length_toList, hme.length]; exact hjl
  have hfi := hbo.find hjs
  rw [Int.toNat_of_nonneg hj0] at hfi
  obtain rfl : cn = .int .i64 j := by simpa [IC, PC] using hn
  have hoth : ∀ b2, i.b ≠ some b2 → (w.heap.setIfInBounds b (.map (ents.modify j.toNat fun e => { e with val := cx }) clock))[b2]? = w.heap[b2]? := fun b2 h2 => Array.getElem?_setIfInBounds_ne (by rintro rfl; exact h2 hb)
  have hmod : (ents.modify j.toNat fun e => { e with val := cx }).toList = ents.toList.modify j.toNat fun e => { e with val := cx } := Array.toList_modify ..
  obtain ⟨e, hje⟩ : ∃ e, ents.toList[j.toNat]? = some e := ⟨_, List.getElem?_eq_getElem (by rw [Array.length_toList]; exact hjs)⟩
  have hsm : ∀ b2, A1 b2 → SameC w { w with heap := w.heap.setIfInBounds b (.map (ents.modify j.toNat fun e => { e with val := cx }) clock) } b2 := fun b2 hb2 => sameC (hoth b2 (by rintro e; rw [hb] at e; injection e with e; subst e; exact (st.2.1.imm _ hb2).2 ⟨q, ver, _, i, hoh, hi, hb⟩))
  refine ⟨{ w with heap := w.heap.setIfInBounds b (.map (ents.modify j.toNat fun e => { e with val := cx }) clock) }, A1, β, ?_, st.trans (Step.upd (o' := .map (mset es j.toNat x')) st.2.1 hoh hi rfl rfl rfl (by simp) hoth ?_)⟩
  · simp only [Instr.entryStore, Sem.run_bind, Result.andThen_ok, MapKept.run_getObj_map hwb, asInt, asIntOf, Sem.run_pure, hfi, setMap _ hwb]
  · unfold OC
    refine ⟨b, ents.modify j.toNat fun e => { e with val := cx }, clock, hb, h0, by simp [hblt], ?_, by simpa using hbo.1, fun n e' he' => ?_⟩
    · have : (ents.modify j.toNat fun e => { e with val := cx }).toList = ents.toList.set j.toNat { e with val := cx } := by
        rw [hmod]
        apply List.ext_getElem?
        intro n
        rw [List.getElem?_modify, List.getElem?_set]
        by_cases hn : j.toNat = n
        · subst hn
          rw [if_pos rfl, hje, if_pos (by simpa using hjs)]
          simp
        · rw [if_neg hn]
          simp [hn]
      rw [this]
      exact (MEs.set hpx hme hje).mono (fun _ h => h) hsm
    · rw [hmod, List.getElem?_modify] at he'
      cases hn : ents.toList[n]? with
      | none => rw [hn] at he'; simp at he'
      | some e0 =>
        rw [hn] at he'
        have := hbo.2 n e0 hn
        simp only [Option.map_eq_map, Option.map_some, Option.some.injEq] at he'
        rw [← he']
        split <;> exact this
theorem mapGet_sound {t : TypeId} {m k v : V} {ok : Bool} {cm ck : Value} {n : Nat} (h : HR w A β n (s.heap E)) (he : mapGet E t m k ok s = some v) (hm : IC w A β m cm) (hk : IC w A β k ck) :
    ∃ cv, (Instr.lookup t cm ck ok).run E.P w = .ok cv w ∧ IC w A β v cv := by
  unfold mapGet at he
  split at he
  case h_2 => cases he
  rename_i kt et hmt
  obtain ⟨hkok, he⟩ := ite_some' he
  have hkp : PC w A k ck := IC.pure_of k ck (keyOk_pure hkok) hk (fun _ _ h => h)
  have hs := key_shape hkok hkp
  split at he
  case h_2 => cases he
  rename_i es hes
  have hent : (cm = .map none ∧ es = []) ∨ ∃ b ents clock, cm = .map (some b) ∧ w.heap[b]? = some (.map ents clock) ∧ MEs w A es ents.toList := by
    split at hes
    · injection hes with hes; subst hes
      exact .inl ⟨by simpa [IC, PC] using hm, rfl⟩
    · simp only [IC, PC] at hm
      obtain ⟨b, ents, rfl, _, hmc, hpm⟩ := hm
      obtain ⟨clock, hc⟩ := mapC_some hmc
      exact .inr ⟨b, ents, clock, rfl, hc, hpm.mes hes⟩
    · split at hes
      · rename_i es0 ho
        injection hes with hes; subst hes
        obtain ⟨i, b, ents, clock, hi, hb, h0, rfl, hwb, hme, _⟩ := mref_map h hm ho
        exact .inr ⟨b, ents, clock, rfl, hwb, hme⟩
      · cases hes
    · cases hes
  have look : ∀ r, mfind k es 0 = some r → ∃ r' ents, FoundC w A ents 0 r r' ∧ ∀ z, (r' = none → (zeroValue et).run E.P w = .ok z w) → (Instr.lookup t cm ck ok).run E.P w = .ok (match r' with | some (_, v) => if ok then .tuple #[v, .bool true] else v | none => if ok then .tuple #[z, .bool false] else z) w := fun r hf => by
    rcases hent with ⟨rfl, rfl⟩ | ⟨b, ents, clock, rfl, hwb, hme⟩
    · obtain ⟨r', f1, f2⟩ := findKey_sound (w := w) (A := A) (l := []) hs hf (by simp [MEs])
      refine ⟨r', [], f2, fun z hz => ?_⟩
      cases r' with
      | none => simp only [Instr.lookup, Sem.run_bind, run_underlying (mapT_some hmt), Result.andThen_ok, Sem.run_pure, checkKey_sound hs, f1, hz rfl]
      | some p => simp only [Instr.lookup, Sem.run_bind, run_underlying (mapT_some hmt), Result.andThen_ok, Sem.run_pure, checkKey_sound hs, f1]
    · obtain ⟨r', f1, f2⟩ := findKey_sound hs hf hme
      refine ⟨r', ents.toList, f2, fun z hz => ?_⟩
      cases r' with
      | none => simp only [Instr.lookup, Sem.run_bind, run_underlying (mapT_some hmt), Result.andThen_ok, Sem.run_pure, MapKept.run_getObj_map hwb, checkKey_sound hs, f1, hz rfl]
      | some p => simp only [Instr.lookup, Sem.run_bind, run_underlying (mapT_some hmt), Result.andThen_ok, Sem.run_pure, MapKept.run_getObj_map hwb, checkKey_sound hs, f1]
  split at he
  · rename_i j u z hf
    injection he with he
    obtain ⟨r', ents, ⟨e, rfl, _, f3, f4⟩, hrun⟩ := look _ hf
    refine ⟨_, hrun .nilIface (fun h => by cases h), ?_⟩
    subst he
    cases ok
    · exact IC.of_pure _ _ f4
    · simp only [if_true, IC, ICs]
      exact ⟨_, rfl, _, _, rfl, IC.of_pure _ _ f4, _, _, rfl, by simp [PC], rfl⟩
  · rename_i z hf hz
    obtain ⟨hzl, he⟩ := ite_some' he
    injection he with he
    obtain ⟨r', ents, f2, hrun⟩ := look _ hf
    have f2 : r' = none := f2
    subst f2
    obtain ⟨iz, zc, q1, q2, rfl⟩ := zeroT_some hz
    have hzr : (zeroValue et).run E.P w = .ok zc w := by simp [zeroValue, typeInfo, q1, q2]
    refine ⟨_, hrun zc (fun _ => hzr), ?_⟩
    subst he
    cases ok
    · exact ofValue_sound zc
    · simp only [if_true, IC, ICs]
      exact ⟨_, rfl, _, _, rfl, ofValue_sound zc, _, _, rfl, by simp [PC], rfl⟩
  · cases he
end
end Go.Vi
namespace Go.Vi
open Go
section
variable {E : Env} {w : World} {A : Nat → Prop} {β : Beta} {s : St} {o : Oper} {a : Act} {next : Act → World → Prop} {Q : Exit → Act → World → Prop} {res : Res}
theorem val_still {x : Option V} (hs : SR E w A β s a) (he : valOf s x = some res) (g : OpGoal E w A β s o a next Q res) (h : ∀ v, x = some v → ∃ cv, (execOp a.eval o).run E.P w = .ok (.value cv) w ∧ IC w A β v cv) : o.wp E.P a w next Q := by
  unfold valOf at he
  simp only [Option.map_eq_some_iff] at he
  obtain ⟨v, hv, rfl⟩ := he
  obtain ⟨cv, h1, h2⟩ := h v hv
  exact g.still hs h1 h2
theorem indexAddr_lst {t e : TypeId} {es : List V} {v : V} {k : IntKind} {n : Int} {c : Value} (ht : elemT E.P t = some e) (h0 : 0 ≤ n) (hx : IC w A β (.lst es) c) (hv : es[n.toNat]? = some v) (hf : fitsE E.P e v = true) :
    ∃ cv, (Instr.indexAt t c (.int k n)).run E.P w = .ok cv w ∧ IC w A β (.iptr (cellsV v)) cv := by
  simp only [IC, PC] at hx
  obtain ⟨ao, cap, rfl, h1, h2, h3⟩ := hx
  obtain ⟨hl, _⟩ := List.getElem?_eq_some_iff.1 hv
  obtain ⟨b, off, sz, rfl, hA, hpe⟩ := h3 (by omega)
  have hg := PEs_get hpe hv
  have hsz : sz = szT E.P e := hg.1.symm.trans (fits_len hf)
  refine ⟨_, indexAddr_run ht (fits_agg hf) h0 (by omega), ?_⟩
  simp only [IC, PC]
  exact ⟨b, _, rfl, hA, by rw [← hsz]; exact hg.2⟩
theorem indexAddr_ref {t e : TypeId} {key : Key} {ver off len : Nat} {sz : Nat} {es : List V} {k : IntKind} {n : Int} {c : Value} (h : HR w A β s.c (s.heap E)) (ht : elemT E.P t = some e) (h0 : 0 ≤ n) (hx : IC w A β (.ref key ver off len) c) (ho : s.obj E key ver = some (.arr sz es)) (hn : n < len) (hsz : sz = szT E.P e) (hg : (aggT E.P e).isSome = true) :
    ∃ cv, (Instr.indexAt t c (.int k n)).run E.P w = .ok cv w ∧ IC w A β (.ptr key ver (off + n.toNat) 0) cv := by
  simp only [IC] at hx
  obtain ⟨i, hi, ao, cap, rfl, h1, h2, h3⟩ := hx
  obtain ⟨i', hi', hoc⟩ := h.obj _ _ _ (obj_heap ho)
  rw [hi] at hi'
  injection hi' with hi'
  subst hi'
  rcases h3 with ⟨b, hb, rfl, _⟩ | ⟨h3, _⟩
  · unfold OC at hoc
    rw [hb] at hoc
    obtain ⟨q1, _⟩ := hoc
    refine ⟨_, indexAddr_run ht (Option.isSome_iff_exists.1 hg) h0 hn, ?_⟩
    simp only [IC]
    refine ⟨i, b, hi, hb, ?_⟩
    rw [← hsz, ← q1, ← Nat.add_mul]
    simp [Nat.add_assoc]
  · omega
theorem HR.pushA {w w' : World} {A β c H} {ob : Go.Obj} (h : HR w A β c H) (p : Pushed w w' ob) : HR w' (fun b => A b ∨ b = w.heap.size) β c H ∧ Tr w A β c H w' (fun b => A b ∨ b = w.heap.size) β c H := by
  have z := p.size
  refine ⟨⟨fun k v o hk => ?_, h.sep, fun b hb => ?_, h.fresh, h.laid.step (fun b hb => p.old (h.imm b hb).1) (fun _ hb => .inl hb)⟩,
    ⟨by omega, p.os, p.tape, p.output, fun b hb _ => p.old hb, fun _ _ _ => rfl, Nat.le_refl _, fun _ h => .inl h, fun b hb => hb.elim .inl (fun h => .inr (.inr (by omega))), fun b hb => .inl hb⟩⟩
  · obtain ⟨i, e, ho⟩ := h.obj k v o hk
    exact ⟨i, e, ho.mono (fun _ h => .inl h) (fun b hb => sameC (p.old (h.imm b hb).1)) (fun _ _ _ h => h) (fun b hb => p.old (h.lt ⟨k, v, o, i, hk, e, hb⟩))⟩
  · rcases hb with hb | rfl
    · exact ⟨by have := (h.imm b hb).1; omega, (h.imm b hb).2⟩
    · exact ⟨by omega, fun hm => by have := h.lt hm; omega⟩
theorem u8T_some {P : Program} {t : TypeId} (h : u8T P t = true) : ∃ e, P.underlying t = some (.slice e) ∧ P.underlying e = some (.int .u8) := by
  unfold u8T at h
  split at h
  · rename_i e he
    refine ⟨e, elemT_some he, ?_⟩
    have h : intT P e = some .u8 := by simpa using h
    unfold intT at h
    split at h
    · rename_i k hk; injection h with h; subst h; exact hk
    · cases h
  · cases h
theorem bytesV_get : ∀ {es : List V} {b : List UInt8}, bytesV es = some b → es = b.map fun u => V.int .u8 (u.toNat : Int)
  | [], b, h => by
    simp only [bytesV, Option.some.injEq] at h
    subst h
    rfl
  | v :: r, b, h => by
    unfold bytesV at h
    split at h
    · rename_i h0; cases h0
    · rename_i n r' heq
      injection heq with h1 h2
      subst h1; subst h2
      obtain ⟨⟨hn0, hn1⟩, h⟩ := ite_some' h
      simp only [Option.map_eq_some_iff] at h
      obtain ⟨b', hb, rfl⟩ := h
      have e : ((UInt8.ofNat n.toNat).toNat : Int) = n := by
        rw [UInt8.toNat_ofNat_of_lt' (by simp [UInt8.size]; omega)]
        omega
      simp only [List.map_cons, e, ← bytesV_get hb]
    · cases h
theorem PEs_bytes {w : World} {A : Nat → Prop} {bk : Nat} : ∀ (b : List UInt8) (o : Nat), (∀ i u, b[i]? = some u → w.cell? ⟨bk, o + i, none⟩ = some (.int .u8 u.toNat)) → PEs w A bk o 1 (b.map fun u => V.int .u8 (u.toNat : Int))
  | [], o, _ => by simp [PEs]
  | u :: b, o, h => by
    simp only [List.map_cons, PEs]
    refine ⟨trivial, ⟨_, h 0 u rfl, by simp [PC]⟩, PEs_bytes b (o + 1) fun i v hi => ?_⟩
    have := h (i + 1) v (by simpa using hi)
    rwa [show o + 1 + i = o + (i + 1) by omega]
theorem PEs_bytes_get {w : World} {A : Nat → Prop} {bk sz : Nat} : ∀ (b : List UInt8) (o : Nat), b ≠ [] → PEs w A bk o sz (b.map fun u => V.int .u8 (u.toNat : Int)) → sz = 1 ∧ ∀ j (hj : j < b.length), w.cell? ⟨bk, o + j, none⟩ = some (.int .u8 (b[j].toNat : Int))
  | [], o, h, _ => absurd rfl h
  | u :: b, o, _, h => by
    simp only [List.map_cons, PEs] at h
    obtain ⟨rfl, ⟨c, h1, h2⟩, h3⟩ := h
    simp only [PC] at h2
    subst h2
    refine ⟨rfl, fun j hj => ?_⟩
    cases j with
    | zero => exact h1
    | succ j =>
      have hb : b ≠ [] := by rintro rfl; simp at hj
      have := (PEs_bytes_get b (o + 1) hb h3).2 j (by simpa using hj)
      rw [show o + (j + 1) = o + 1 + j by omega]
      simpa using this
theorem convB_sound {src dst : TypeId} {y v : V} {c : Value} (h : HR w A β s.c (s.heap E)) (he : convB E src dst y s = some v) (hy : IC w A β y c) :
    ∃ cv w' A', (convert src dst c).run E.P w = .ok cv w' ∧ Step E w A β s w' A' β s ∧ IC w' A' β v cv := by
  unfold convB at he
  split at he
  · rename_i b
    obtain ⟨⟨hc, hlen⟩, he⟩ := ite_some' he
    injection he with he
    subst he
    simp only [Bool.and_eq_true] at hc
    obtain ⟨e, hd, hu⟩ := u8T_some hc.2
    have hy' : c = .string ⟨b.toArray⟩ := hy.str_
    subst hy'
    have hsz : (ByteArray.mk b.toArray).size = b.length := by simp [ByteArray.size]
    refine ⟨_, _, fun a => A a ∨ a = w.heap.size, run_bytes_of_string w src dst e ⟨b.toArray⟩ (strT_some hc.1) hd hu, ?_, ?_⟩
    · obtain ⟨h1, h2⟩ := h.pushA (w' := w.drew.alloc (.cells (bytesRow ⟨b.toArray⟩ (grownCap w (ByteArray.mk b.toArray).size 0 e)) e ((bytesRow ⟨b.toArray⟩ (grownCap w (ByteArray.mk b.toArray).size 0 e)).size, (bytesRow ⟨b.toArray⟩ (grownCap w (ByteArray.mk b.toArray).size 0 e)).size + 1))) ⟨rfl, rfl, rfl, rfl⟩
      exact ⟨h2, h1, rfl⟩
    · simp only [IC, PC]
      refine ⟨some ⟨w.heap.size, 0, none⟩, grownCap w (ByteArray.mk b.toArray).size 0 e, by rw [hsz]; simp, by simpa [hsz] using grownCap_ge w b.length 0 e, by rw [hsz]; exact grownCap_le_maxLen _ _ _ _ hlen, fun _ => ⟨w.heap.size, 0, 1, rfl, .inr rfl, ?_⟩⟩
      refine PEs_bytes b 0 fun i u hi => ?_
      obtain ⟨hl, hv⟩ := List.getElem?_eq_some_iff.1 hi
      unfold World.cell?
      simp only [World.drew, World.alloc, Array.getElem?_push_size, Option.isSome_none, Bool.false_eq_true, if_false, Nat.zero_add, bytesRow]
      rw [Array.getElem?_append_left (by simpa using hl)]
      simp [hi]
  · rename_i hne
    obtain ⟨hc, he⟩ := ite_some' he
    simp only [Bool.and_eq_true] at hc
    obtain ⟨e, hs', hu⟩ := u8T_some hc.2
    split at he
    · rename_i hf
      injection he with he
      subst he
      have hp := frz_sound (A' := fun _ => True) h (fun _ _ => trivial) _ _ _ hf hy (fun _ _ _ _ _ _ _ _ _ => trivial)
      simp only [PC] at hp
      subst hp
      refine ⟨_, w, A, ?_, Step.refl h, by simp only [IC, PC]; rfl⟩
      rw [run_convert_bytes_string w src dst e none 0 0 hs' hu (strT_some hc.1)]
      rfl
    · rename_i es hf
      simp only [Option.map_eq_some_iff] at he
      obtain ⟨b, hb, rfl⟩ := he
      have hes := bytesV_get hb
      subst hes
      have hp := frz_sound (A' := fun _ => True) h (fun _ _ => trivial) _ _ _ hf hy (fun _ _ _ _ _ _ _ _ _ => trivial)
      simp only [PC] at hp
      obtain ⟨ao, cap, rfl, _, _, hrow⟩ := hp
      refine ⟨.string ⟨b.toArray⟩, w, A, ?_, Step.refl h, by simp only [IC, PC]⟩
      rw [List.length_map] at hrow ⊢
      by_cases h0 : b = []
      · subst h0
        rw [run_convert_bytes_string w src dst e ao _ _ hs' hu (strT_some hc.1)]
        cases ao <;> rfl
      · obtain ⟨bk, o, sz, rfl, _, hpe⟩ := hrow (by simpa using h0)
        obtain ⟨rfl, hcell⟩ := PEs_bytes_get b o h0 hpe
        exact run_convert_bytes_back w src dst e ⟨bk, o, none⟩ cap b hs' hu (strT_some hc.1) (fun j hj => by rw [add_at]; exact hcell j hj)
    · cases he
theorem idxA_sound {t : TypeId} {x v : V} {k : IntKind} {n : Int} {c : Value} (h0 : 0 ≤ n) (h : idxA E.P t x n = some v) (hx : IC w A β x c) : ∃ cv, (Instr.indexAt t c (.int k n)).run E.P w = .ok cv w ∧ IC w A β v cv := by
  unfold idxA at h
  split at h
  case h_2 => cases h
  rename_i len e ha
  obtain ⟨⟨hn, hg⟩, h⟩ := ite_some' h
  split at h
  · rename_i key ver i off
    injection h with h
    subst h
    simp only [IC] at hx
    obtain ⟨j, b, h1, h2, rfl⟩ := hx
    refine ⟨_, indexArr_run ha (Option.isSome_iff_exists.1 hg) h0 hn, ?_⟩
    simp only [IC]
    exact ⟨j, b, h1, h2, by rw [Nat.add_assoc]⟩
  · rename_i cs
    obtain ⟨hl, h⟩ := ite_some' h
    injection h with h
    subst h
    simp only [IC, PC] at hx
    obtain ⟨b, o, rfl, hA, hp⟩ := hx
    refine ⟨_, indexArr_run ha (Option.isSome_iff_exists.1 hg) h0 hn, ?_⟩
    simp only [IC, PC]
    exact ⟨b, _, rfl, hA, PAt.drop _ hp⟩
  · cases h
theorem aop_sound (hs : SR E w A β s a) {call : CallFn} {Cx : FuncId → Option (List V → Option V)} (hcall : SoundCall E.P call) (hhand : SoundHand E.P Cx) (hG : ∀ g ∈ E.ok, GoodF E.P g) {d : Nat} (he : aop call E Cx d o.op s = some res) (g : OpGoal E w A β s o a next Q res) : o.wp E.P a w next Q := by
  generalize hop : o.op = op at he
  unfold aop at he
  split at he
  case h_1 x =>
    injection he with he; subst he
    exact g.still hs (cv := a.eval x) (by simp only [execOp, hop]; rfl) (hs.eval x)
  case h_2 x =>
    simp only [Option.map_eq_some_iff] at he
    obtain ⟨q, hq, rfl⟩ := he
    obtain ⟨A', β', h1, h2⟩ := assign_sound hs.heap (hs.eval x) hq
    exact g.run (cv := a.eval x) (by simp only [execOp, hop]; rfl) h1 h2
  case h_3 c x y =>
    split at he
    · rename_i t ht
      injection he with he; subst he
      have hc := hs.eval c
      rw [ht] at hc
      have e := hc.bool_
      refine g.still hs (cv := if t then a.eval x else a.eval y) (by simp only [execOp, hop, e]; rfl) ?_
      cases t
      · exact hs.eval y
      · exact hs.eval x
    · cases he
  case h_4 t =>
    split at he
    · rename_i z hz
      split at he
      · rename_i hl
        injection he with he; subst he
        obtain ⟨i, c, h1, h2, rfl⟩ := zeroT_some hz
        obtain ⟨β', h3, h4⟩ := newVar_sound (d := d) hs.heap (pushed_alloc (w := w) (o := .cells c.cells t)) ((zero_pure hl).to_ICs (β := β))
        refine g.run (v_run (s := Instr.alloc t true (.tuple #[])) ?_ |> fun h => (by simp only [execOp, hop]; exact h)) h3 h4
        simp [Instr.alloc, zeroValue, typeInfo, h1, h2, newVar, newRow]
      · cases he
    · cases he
  case h_5 t x =>
    split at he
    · rename_i hl
      obtain ⟨β', h3, h4⟩ := newVar_sound (d := d) hs.heap (pushed_alloc (w := w) (o := .cells (a.eval x).cells t)) (ICs_cells (hs.eval x) (not_junk hl))
      unfold boxV at he
      split at he
      · simp only [Option.map_eq_some_iff] at he
        obtain ⟨v, hf, rfl⟩ := he
        obtain ⟨st, hp⟩ := frz_dels h3.2.1 h4 hf
        refine g.run (v_run (s := Instr.box t (a.eval x)) ?_ |> fun h => (by simp only [execOp, hop]; exact h)) (h3.trans st) (IC.of_pure _ _ hp)
        simp [Instr.box, newVar, newRow]
      · injection he with he; subst he
        refine g.run (v_run (s := Instr.box t (a.eval x)) ?_ |> fun h => (by simp only [execOp, hop]; exact h)) h3 h4
        simp [Instr.box, newVar, newRow]
    · cases he
  case h_6 t ps =>
    split at he
    · rename_i z h1 h2
      split at he
      · rename_i hl
        refine val_still hs he g fun v hv => ?_
        simp only [Option.map_eq_some_iff] at hv
        obtain ⟨cs, hcs, rfl⟩ := hv
        obtain ⟨cv, h3, h4⟩ := build_sound hs h1 h2 hcs hl
        exact ⟨cv, by simp only [execOp, hop]; exact v_run h3, h4⟩
      · cases he
    · cases he
  case h_7 t n ps =>
    split at he
    · rename_i e hte
      split at he
      · rename_i z qs hz hq
        split at he
        · rename_i hc
          simp only [Option.map_eq_some_iff] at he
          obtain ⟨es, hes, rfl⟩ := he
          simp only [Bool.and_eq_true] at hc
          obtain ⟨cv, w', A', β', h1, h2, h3⟩ := buildSlice_sound (d := d) hs hte hz hq hc.1 hc.2.1 hc.2.2 hes
          exact g.run (by simp only [execOp, hop]; exact v_run h1) h2 h3
        · cases he
      · cases he
    · cases he
  case h_8 t x =>
    refine val_still hs he g fun v hv => ?_
    obtain ⟨cv, h1, h2⟩ := load_sound hs hv (hs.eval x)
    exact ⟨cv, by simp only [execOp, hop]; exact v_run h1, h2⟩
  case h_9 t p x =>
    simp only [Option.map_eq_some_iff] at he
    obtain ⟨s', hst, rfl⟩ := he
    obtain ⟨w', A', β', h1, h2⟩ := store_sound hs.heap hst (hs.eval p) (hs.eval x)
    unfold Oper.wp
    have : (execOp a.eval o).run E.P w = .ok .skip w' := by
      simp only [execOp, hop, Sem.run_bind, h1, Result.andThen_ok, Sem.run_pure]
    rw [this]
    exact g.val _ _ _ _ _ _ rfl h2 (by simp [IC])
  case h_10 x =>
    have hx := hs.eval x
    split at he
    · rename_i k v i off hv
      injection he with he; subst he
      rw [hv] at hx
      have hx' := hx
      simp only [IC] at hx'
      obtain ⟨i', b, _, _, e⟩ := hx'
      exact g.still hs (cv := a.eval x) (by simp only [execOp, hop]; rw [e]; rfl) hx
    · rename_i cs hv
      injection he with he; subst he
      rw [hv] at hx
      have hx' := hx
      simp only [IC, PC] at hx'
      obtain ⟨b, off, e, _⟩ := hx'
      exact g.still hs (cv := a.eval x) (by simp only [execOp, hop]; rw [e]; rfl) hx
    · rename_i f p q hv
      injection he with he; subst he
      rw [hv] at hx
      have hx' := hx
      simp only [IC] at hx'
      obtain ⟨y, z, e, _⟩ := hx'
      exact g.still hs (cv := a.eval x) (by simp only [execOp, hop]; rw [e]; rfl) hx
    · cases he
  case h_11 op t x y ty =>
    refine val_still hs he g fun v hv => ?_
    unfold binW at hv
    split at hv
    · rename_i hl
      have hl := nilLit_of hl
      subst hl
      split at hv
      · rename_i ms ht
        obtain ⟨cv, h1, h2⟩ := nilIop_sound (x := x) ht hv (hs.eval x)
        exact ⟨cv, by simp only [execOp, hop]; exact v_run h1, h2⟩
      · cases hv
    · obtain ⟨cv, h1, h2⟩ := binV_sound (x := x) (y := y) hv (hs.eval x) (hs.eval y)
      exact ⟨cv, by simp only [execOp, hop]; exact v_run h1, h2⟩
  case h_12 op t x =>
    refine val_still hs he g fun v hv => ?_
    obtain ⟨cv, h1, h2⟩ := unV_sound (P := E.P) hv (hs.eval x)
    exact ⟨cv, by simp only [execOp, hop]; exact v_run h1, h2⟩
  case h_13 src dst x =>
    have hx := hs.eval x
    split at he
    · rename_i k n hv
      rw [hv] at hx
      have e := hx.int_
      split at he
      · rename_i hsrc
        refine val_still hs he g fun v hv => ?_
        unfold convI at hv
        obtain ⟨ds, hds⟩ := Option.isSome_iff_exists.1 hsrc
        split at hv
        · rename_i k' hk
          injection hv with hv
          subst hv
          refine ⟨.int k' (k'.wrap n), ?_, IC.int_mk _ _⟩
          simp only [execOp, hop]
          refine v_run ?_
          rw [e]
          have hdd : E.P.underlying dst = some (.int k') := by
            unfold intT at hk
            split at hk
            · rename_i k2 hk2; injection hk with hk; subst hk; exact hk2
            · cases hk
          simp [convert, run_underlying hds, run_underlying hdd, Conv.intToInt]
        · obtain ⟨⟨hst, h0, h1⟩, hv⟩ := ite_some' hv
          injection hv with hv
          subst hv
          refine ⟨.string ⟨#[UInt8.ofNat n.toNat]⟩, ?_, by simp only [IC, PC]⟩
          simp only [execOp, hop]
          refine v_run ?_
          rw [e]
          have hdd := strT_some hst
          have hen : Utf8.encode n = ⟨#[UInt8.ofNat n.toNat]⟩ := by
            have hvd : Utf8.valid n = true := by unfold Utf8.valid; simp; omega
            unfold Utf8.encode
            rw [hvd]
            have : n.toNat < 0x80 := by omega
            simp [this]
          simp [convert, run_underlying hds, run_underlying hdd, Conv.intToString, hen]
      · cases he
    · rename_i b hv
      rw [hv] at hx
      have e := hx.str_
      split at he
      · rename_i hst
        injection he with he; subst he
        simp only [Bool.and_eq_true] at hst
        refine g.still hs (cv := a.eval x) ?_ hx
        simp only [execOp, hop]
        refine v_run ?_
        rw [e]
        simp [convert, run_underlying (strT_some hst.1), run_underlying (strT_some hst.2)]
      · unfold valOf at he
        simp only [Option.map_eq_some_iff] at he
        obtain ⟨v, hv2, rfl⟩ := he
        obtain ⟨cv, w', A', h1, h2, h3⟩ := convB_sound hs.heap hv2 hx
        exact g.run (by simp only [execOp, hop]; exact v_run h1) h2 h3
    · unfold valOf at he
      simp only [Option.map_eq_some_iff] at he
      obtain ⟨v, hv2, rfl⟩ := he
      obtain ⟨cv, w', A', h1, h2, h3⟩ := convB_sound hs.heap hv2 (hs.eval x)
      exact g.run (by simp only [execOp, hop]; exact v_run h1) h2 h3
  case h_14 t x =>
    split at he
    · rename_i hc
      injection he with he; subst he
      refine g.still hs (cv := .iface t (a.eval x)) ?_ (by simp only [IC]; exact ⟨_, rfl, hs.eval x⟩)
      simp only [execOp, hop]
      refine v_run ?_
      unfold concT at hc
      split at hc
      · cases hc
      · rename_i dd hne hd
        simp only [Instr.makeInterface, Sem.run_bind, run_underlying hd, Result.andThen_ok]
        rfl
      · cases hc
    · cases he
  case h_15 f p q =>
    injection he with he; subst he
    refine g.still hs (cv := .func f (p.map a.eval) (q.map a.eval)) ?_ (by simp only [IC]; exact ⟨_, _, rfl, by simpa using hs.evals p.toList, by simpa using hs.evals q.toList⟩)
    simp only [execOp, hop]
    exact v_run rfl
  case h_16 t l c =>
    split at he
    · rename_i e hte
      split at he
      · rename_i z kn n km m hz hl hc
        split at he
        · rename_i hcond
          injection he with he; subst he
          simp only [Bool.and_eq_true] at hcond
          have e1 := hs.eval l
          have e2 := hs.eval c
          rw [hl] at e1
          rw [hc] at e2
          obtain ⟨cv, w', A', β', h1, h2, h3⟩ := makeSlice_sound (d := d) (kn := kn) (km := km) hs hte hz hcond.1 hcond.2.1 hcond.2.2.1 hcond.2.2.2.1 hcond.2.2.2.2
          refine g.run ?_ h2 h3
          simp only [execOp, hop, e1.int_, e2.int_]
          exact v_run h1
        · cases he
      · cases he
    · cases he
  case h_17 t x lo hi =>
    refine val_still hs he g fun v hv => ?_
    obtain ⟨cv, h1, h2⟩ := sliceA_sound hs hv
    exact ⟨cv, by simp only [execOp, hop]; exact v_run h1, h2⟩
  case h_18 t x j =>
    have hx := hs.eval x
    split at he
    · rename_i off u hf
      split at he
      · cases he
      · rename_i hz
        split at he
        · rename_i k v i p hv
          injection he with he; subst he
          rw [hv] at hx
          simp only [IC] at hx
          obtain ⟨i', b, h1, h2, e⟩ := hx
          refine g.still hs (cv := .pointer (some ⟨b, (i'.base + i) * i'.sz + p + off, none⟩)) ?_ (by simp only [IC]; exact ⟨i', b, h1, h2, by rw [Nat.add_assoc]⟩)
          simp only [execOp, hop]
          refine v_run ?_
          rw [e]
          exact fieldAddr_run hf hz
        · rename_i cs hv
          split at he
          · rename_i hle
            injection he with he; subst he
            rw [hv] at hx
            simp only [IC, PC] at hx
            obtain ⟨b, p, e, h1, h2⟩ := hx
            refine g.still hs (cv := .pointer (some ⟨b, p + off, none⟩)) ?_ (by simp only [IC, PC]; exact ⟨b, _, rfl, h1, h2.drop off⟩)
            simp only [execOp, hop]
            refine v_run ?_
            rw [e]
            exact fieldAddr_run hf hz
          · cases he
        · cases he
    · cases he
  case h_19 t x j =>
    split at he
    · rename_i off u cs hf hv
      have hx := hs.eval x
      rw [hv] at hx
      refine val_still hs he g fun v hv => ?_
      obtain ⟨cv, h1, h2⟩ := field_sound hf hv hx
      exact ⟨cv, by simp only [execOp, hop]; exact v_run h1, h2⟩
    · cases he
  case h_20 t x i =>
    have hx := hs.eval x
    have hi := hs.eval i
    split at he
    · rename_i k n hn
      rw [hn] at hi
      have ei := hi.int_
      split at he
      · rename_i h0
        split at he
        · rename_i e es hte hv
          rw [hv] at hx
          split at he
          · rename_i v hes
            split at he
            · rename_i hf
              injection he with he; subst he
              obtain ⟨cv, h1, h2⟩ := indexAddr_lst (k := k) hte h0 hx hes hf
              refine g.still hs ?_ h2
              simp only [execOp, hop, ei]
              exact v_run h1
            · cases he
          · cases he
        · rename_i e key ver off len hte hv
          rw [hv] at hx
          split at he
          · rename_i sz es ho
            split at he
            · rename_i hc
              injection he with he; subst he
              obtain ⟨cv, h1, h2⟩ := indexAddr_ref (k := k) hs.heap hte h0 hx ho hc.1 hc.2.1 hc.2.2
              refine g.still hs ?_ h2
              simp only [execOp, hop, ei]
              exact v_run h1
            · cases he
          · cases he
        · refine val_still hs he g fun v hv => ?_
          obtain ⟨cv, h1, h2⟩ := idxA_sound (k := k) h0 hv hx
          exact ⟨cv, by simp only [execOp, hop, ei]; exact v_run h1, h2⟩
      · cases he
    · cases he
  case h_21 t x i =>
    split at he
    · rename_i k n b hn hv
      have hx := hs.eval x
      have hi := hs.eval i
      rw [hv] at hx
      rw [hn] at hi
      split at he
      · rename_i hc
        refine val_still hs he g fun v hv => ?_
        simp only [Option.map_eq_some_iff] at hv
        obtain ⟨u, hu, rfl⟩ := hv
        refine ⟨.int .u8 u.toNat, ?_, IC.int_mk _ _⟩
        simp only [execOp, hop, hx.str_, hi.int_]
        exact v_run (index_str_run hc.1 hc.2 hu)
      · cases he
    · cases he
  case h_22 x j =>
    split at he
    · rename_i vs hv
      have hx := hs.eval x
      rw [hv] at hx
      simp only [IC] at hx
      obtain ⟨arr, e, hx⟩ := hx
      refine val_still hs he g fun v hv => ?_
      obtain ⟨c, h1, h2⟩ := hx.get hv
      refine ⟨c, ?_, h2⟩
      simp only [execOp, hop, e]
      refine v_run ?_
      rw [Array.getElem?_toList] at h1
      simp only [Instr.extract, h1]
      rfl
    · cases he
  case h_23 c =>
    split at he
    · rename_i f hc
      exact call_sound hs hcall hhand hG hop hc he g
    · rename_i b hc
      exact builtin_sound hs hop hc he g
    · cases he
  case h_24 x =>
    split at he
    · rename_i t v hv
      injection he with he; subst he
      have hx := hs.eval x
      rw [hv] at hx
      have hx' := hx
      simp only [IC] at hx'
      obtain ⟨c, e, _⟩ := hx'
      unfold Oper.wp
      have : (execOp a.eval o).run E.P w = .halt (.panic (.iface t c)) w := by
        simp only [execOp, hop, e]
        rfl
      rw [this, Oper.upon_panic]
      rw [e] at hx
      exact g.pan _ _ _ _ _ _ rfl (Step.refl hs.heap) hx
    · cases he
  case h_25 t =>
    injection he with he; subst he
    obtain ⟨cv, w', β', h1, h2, h3⟩ := newMap_sound (d := d) (t := t) hs.heap
    exact g.run (by simp only [execOp, hop]; exact v_run h1) h2 h3
  case h_26 t m k x =>
    simp only [Option.map_eq_some_iff] at he
    obtain ⟨s', hst, rfl⟩ := he
    obtain ⟨w', A', β', h1, h2⟩ := mapPut_sound hs.heap hst (hs.eval m) (hs.eval k) (hs.eval x)
    unfold Oper.wp
    have : (execOp a.eval o).run E.P w = .ok .skip w' := by
      simp only [execOp, hop, Sem.run_bind, h1, Result.andThen_ok, Sem.run_pure]
    rw [this]
    exact g.val _ _ _ _ _ _ rfl h2 (by simp [IC])
  case h_27 t m k x =>
    simp only [Option.map_eq_some_iff] at he
    obtain ⟨s', hst, rfl⟩ := he
    obtain ⟨w', A', β', h1, h2⟩ := mapPut_sound hs.heap hst (hs.eval m) (hs.eval k) (hs.eval x)
    unfold Oper.wp
    have : (execOp a.eval o).run E.P w = .ok .skip w' := by
      simp only [execOp, hop, Sem.run_bind, h1, Result.andThen_ok, Sem.run_pure]
    rw [this]
    exact g.val _ _ _ _ _ _ rfl h2 (by simp [IC])
  case h_28 t m k ok =>
    refine val_still hs he g fun v hv => ?_
    obtain ⟨cv, h1, h2⟩ := mapGet_sound hs.heap hv (hs.eval m) (hs.eval k)
    exact ⟨cv, by simp only [execOp, hop]; exact v_run h1, h2⟩
  case h_29 t m k =>
    simp only [Option.map_eq_some_iff] at he
    obtain ⟨⟨v', s'⟩, hst, rfl⟩ := he
    obtain ⟨cv, w', A', β', h1, h2, h3⟩ := mapEnt_sound hs.heap hst (hs.eval m) (hs.eval k)
    exact g.run (by simp only [execOp, hop]; exact v_run h1) h2 h3
  case h_30 t m k x =>
    simp only [Option.map_eq_some_iff] at he
    obtain ⟨s', hst, rfl⟩ := he
    obtain ⟨w', A', β', h1, h2⟩ := entPut_sound (t := t) hs.heap hst (hs.eval m) (hs.eval k) (hs.eval x)
    unfold Oper.wp
    have : (execOp a.eval o).run E.P w = .ok .skip w' := by
      simp only [execOp, hop, Sem.run_bind, h1, Result.andThen_ok, Sem.run_pure]
    rw [this]
    exact g.val _ _ _ _ _ _ rfl h2 (by simp [IC])
  case h_31 => cases he
end
end Go.Vi
namespace Go.Vi
open Go
theorem tget_tset (l : List (Nat × V)) (t u : Nat) (x : V) : tget (tset l t x) u = if u = t then x else tget l u := by
  induction l with
  | nil => by_cases h : u = t <;> simp [tset, tget, h]
  | cons p r ih =>
    obtain ⟨k, v⟩ := p
    unfold tset
    by_cases h1 : t = k
    · subst h1
      rw [if_pos rfl]
      by_cases h : u = t <;> simp [tget, h]
    · rw [if_neg h1]
      by_cases h2 : t < k
      · rw [if_pos h2]
        by_cases h : u = t
        · subst h; simp [tget]
        · simp [tget, h]
      · rw [if_neg h2]
        simp only [tget, ih]
        by_cases h : u = t
        · subst h; simp [h1]
        · simp [h]
theorem tget_tkeep (l : List (Nat × V)) (ts : List Nat) (u : Nat) : tget (tkeep l ts) u = tget l u ∨ tget (tkeep l ts) u = .junk := by
  induction l with
  | nil => exact .inl rfl
  | cons p r ih =>
    obtain ⟨k, v⟩ := p
    unfold tkeep
    split
    · simp only [tget]; split
      · exact .inl rfl
      · exact ih
    · by_cases h : u = k
      · subst h
        rename_i hk
        refine .inr ?_
        clear ih
        induction r with
        | nil => rfl
        | cons q r ih2 =>
          obtain ⟨k', v'⟩ := q
          unfold tkeep
          split
          · rename_i hk'
            simp only [tget]
            rw [if_neg (by rintro rfl; exact hk hk')]
            exact ih2
          · exact ih2
      · simp only [tget, if_neg h]; exact ih
theorem tget_tdrop (l : List (Nat × V)) (t u : Nat) : tget (tdrop l t) u = tget l u ∨ tget (tdrop l t) u = .junk := by
  induction l with
  | nil => exact .inl rfl
  | cons p r ih =>
    obtain ⟨k, v⟩ := p
    unfold tdrop
    split
    · rename_i e
      subst e
      by_cases h : u = t
      · subst h
        refine .inr ?_
        clear ih
        induction r with
        | nil => rfl
        | cons q r ih2 =>
          obtain ⟨k', v'⟩ := q
          unfold tdrop
          split
          · exact ih2
          · rename_i hk'
            simp only [tget]
            rw [if_neg hk']
            exact ih2
      · simp only [tget, if_neg h]; exact ih
    · simp only [tget]; split
      · exact .inl rfl
      · exact ih
section
variable {E : Env} {w : World} {A : Nat → Prop} {β : Beta} {s : St} {a : Act}
theorem IC_junk {c} : IC w A β .junk c := by simp [IC]
theorem SR.put {dst : Option Tmp} {v : V} {c : Value} {s' : St} (hs : SR E w A β s a) (hv : IC w A β v c) (h : setD E dst v s = some s') : SR E w A β s' (a.put dst c) := by
  unfold setD at h
  cases dst with
  | none => injection h with h; subst h; exact hs
  | some d =>
    dsimp only at h
    split at h
    · rename_i hd
      injection h with h
      subst h
      refine ⟨fun t => ?_, by simp [Act.put, hs.size], hs.heap, (by simpa [Act.put] using hs.defers)⟩
      simp only [Act.put]
      rw [tget_tset]
      by_cases e : t = d
      · subst e
        rw [if_pos rfl]
        rw [Array.getD_eq_getD_getElem?, Array.getElem?_setIfInBounds_self_of_lt (by rw [hs.size]; exact hd)]
        exact hv
      · rw [if_neg e]
        rw [Array.getD_eq_getD_getElem?, Array.getElem?_setIfInBounds_ne (Ne.symm e), ← Array.getD_eq_getD_getElem?]
        exact hs.tmp t
    · cases h
theorem setD_heap {dst : Option Tmp} {v : V} {s s' : St} (h : setD E dst v s = some s') : s'.heap E = s.heap E ∧ s'.c = s.c := by
  unfold setD at h
  cases dst with
  | none => injection h with h; subst h; exact ⟨rfl, rfl⟩
  | some d =>
    dsimp only at h
    split at h
    · injection h with h; subst h; exact ⟨rfl, rfl⟩
    · cases h
theorem SR.thin {s' : St} (hs : SR E w A β s a) (hτ : ∀ t, tget s'.τ t = tget s.τ t ∨ tget s'.τ t = .junk) (hc : s'.c = s.c) (hh : ∀ k p, s'.heap E k = some p → s.heap E k = some p) : SR E w A β s' a := by
  refine ⟨fun t => ?_, hs.size, ?_, hs.defers⟩
  · rcases hτ t with e | e
    · rw [e]; exact hs.tmp t
    · rw [e]; exact IC_junk
  · rw [hc]
    exact hs.heap.forget hh (fun _ h => h) (fun b hA => ⟨(hs.heap.imm b hA).1, fun hm => (hs.heap.imm b hA).2 (hm.mono hh)⟩)
theorem Tr.thin {s' : St} {w0 A0 β0 c0 H0} (t : Tr w0 A0 β0 c0 H0 w A β s.c (s.heap E)) (hc : s'.c = s.c) (hh : ∀ k p, s'.heap E k = some p → s.heap E k = some p) : Tr w0 A0 β0 c0 H0 w A β s'.c (s'.heap E) := by
  rw [hc]
  exact t.trans (Tr.forget hh (fun _ h => h) (fun b hb => .inl hb))
theorem tidy_heap {k p} (h : (tidy E s).heap E k = some p) : s.heap E k = some p := by
  unfold St.heap heapOf tidy at h
  unfold St.heap heapOf
  dsimp only at h
  split at h
  · rename_i e
    rw [if_pos e]
    rw [lget_lkeep] at h
    split at h
    · exact h
    · cases h
  · rename_i e
    rw [if_neg e]
    exact h
theorem SR.tidy (hs : SR E w A β s a) : SR E w A β (tidy E s) a := hs.thin (fun t => tget_tkeep _ _ t) rfl (fun k p h => tidy_heap h)
theorem SR.passed {c : Operand} (hs : SR E w A β s a) : SR E w A β (passed E c s) a ∧ (passed E c s).heap E = s.heap E ∧ (passed E c s).c = s.c := by
  unfold Vi.passed
  split
  · split
    · exact ⟨hs.thin (fun t => tget_tdrop _ _ t) rfl (fun _ _ h => h), rfl, rfl⟩
    · exact ⟨hs, rfl, rfl⟩
  · exact ⟨hs, rfl, rfl⟩
end
def ExQ (e : Ex) (Q : Exit → Act → World → Prop) (w : World) (A : Nat → Prop) (β : Beta) (a : Act) : Prop :=
  match e with
  | .norm => Q .normal a w
  | .exit id => Q (.exit id) a w
  | .ret => Q .ret a w
  | .pan v => ∀ cv, IC w A β v cv → Q (.panic [{ v := cv, recovered := false }]) a w
structure TrA (w : World) (A : Nat → Prop) (β : Beta) (c : Nat) (H : Heap) (w' : World) (A' : Nat → Prop) (β' : Beta) (c' : Nat) (H' : Heap) (a a' : Act) : Prop where
  tr : Tr w A β c H w' A' β' c' H'
  ext : ∃ ms, a'.defers = ms ++ a.defers ∧ ∀ d ∈ ms, ∃ r, d = markD r ∧ w.heap.size ≤ r
theorem TrA.refl (w A β c H) (a : Act) : TrA w A β c H w A β c H a a := ⟨Tr.refl .., [], rfl, fun _ h => by cases h⟩
theorem TrA.trans {w A β c H w1 A1 β1 c1 H1 w2 A2 β2 c2 H2} {a a1 a2 : Act} (h : TrA w A β c H w1 A1 β1 c1 H1 a a1) (k : TrA w1 A1 β1 c1 H1 w2 A2 β2 c2 H2 a1 a2) : TrA w A β c H w2 A2 β2 c2 H2 a a2 :=
  ⟨h.tr.trans k.tr, let ⟨ms, e, hm⟩ := h.ext; let ⟨ms', e', hm'⟩ := k.ext; ⟨ms' ++ ms, by rw [e', e, List.append_assoc], fun d hd => (List.mem_append.1 hd).elim (fun hd => let ⟨r, e, hr⟩ := hm' d hd; ⟨r, e, Nat.le_trans h.tr.size hr⟩) (hm d)⟩⟩
theorem TrA.pre {w A β c H w1 A1 β1 c1 H1 w2 A2 β2 c2 H2} {a a1 a2 : Act} (h : Tr w A β c H w1 A1 β1 c1 H1) (hd : a1.defers = a.defers) (k : TrA w1 A1 β1 c1 H1 w2 A2 β2 c2 H2 a1 a2) : TrA w A β c H w2 A2 β2 c2 H2 a a2 :=
  TrA.trans ⟨h, [], by rw [hd]; rfl, fun _ h => by cases h⟩ k
theorem TrA.thin {E : Env} {s s' : St} {w A β w0 A0 β0 c0 H0} {a a' : Act} (t : TrA w0 A0 β0 c0 H0 w A β s.c (s.heap E) a a') (hc : s'.c = s.c) (hh : ∀ k p, s'.heap E k = some p → s.heap E k = some p) : TrA w0 A0 β0 c0 H0 w A β s'.c (s'.heap E) a a' := ⟨t.tr.thin hc hh, t.ext⟩
theorem put_defers {a : Act} {dst : Option Tmp} {c : Value} : (a.put dst c).defers = a.defers := by cases dst <;> rfl
def Runs (E : Env) (s : St) (e : Ex) (s' : St) (W : (Exit → Act → World → Prop) → Act → World → Prop) : Prop :=
  ∀ (w : World) (A : Nat → Prop) (β : Beta) (a : Act), SR E w A β s a → ∀ Q : Exit → Act → World → Prop,
    (∀ a' w' A' β', TrA w A β s.c (s.heap E) w' A' β' s'.c (s'.heap E) a a' → SR E w' A' β' s' a' → ExQ e Q w' A' β' a') → W Q a w
theorem Fi.room {ro n} : (Fi ro).room n := fun d h => by cases h
theorem Fi.fenced {P ro} (m : Machine) : m.fenced P (Fi ro) := fenced_wide P m
theorem calls_in {P : Program} {f : FuncId} {args : Array Value} {w : World} {R : Ending → World → Prop} {ro : Option Nat} {n : Nat} : CallsIn (Fi ro) n P f args w R ↔ Calls P f args w R := callsIn_wide (n := n)
theorem rows_in {P : Program} {row : String} {args : Array Value} {w : World} {R : Value → World → Prop} {ro : Option Nat} {n : Nat} (h : Rows P row args w R) : RowsIn (Fi ro) n P row args w R :=
  fun c cs _ => let ⟨v, w', r, s⟩ := h c cs; ⟨v, w', r, stepsIn_wide.2 s⟩
theorem oper_in {P : Program} {o : Oper} {a : Act} {w : World} {next : Act → World → Prop} {Q : Exit → Act → World → Prop} (ro : Option Nat) (n : Nat) (hd : ∀ c, o.op ≠ .defer c) (h : o.wp P a w next Q) : o.wpIn (Fi ro) n P a w next Q := by
  refine ⟨fun _ _ => trivial, ?_⟩
  rw [Oper.semAt_eq _ _ _ hd]
  unfold Oper.wp at h
  generalize (execOp a.eval o).run P w = r at h
  have hn : (Fi ro).depth.isSome = true → 1 ≤ n := fun h => by cases h
  cases r with
  | ok x w' =>
    cases x with
    | enter f args => exact ⟨hn, calls_in.2 h⟩
    | row r args => exact ⟨hn, rows_in h⟩
    | value v => exact h
    | skip => exact h
    | defer d => exact h
    | _ => exact h.elim
  | halt x w' => cases x <;> exact h
theorem aop_nodefer {call : CallFn} {E : Env} {Cx : FuncId → Option (List V → Option V)} {d : Nat} {op : Op} {s : St} {r : Res} (h : aop call E Cx d op s = some r) : ∀ c, op ≠ .defer c := by
  rintro c rfl
  simp [aop] at h
theorem wanted_sound {ops : Array Oper} {s : St} {w A β} {a : Act} (ht : ∀ t, IC w A β (tget s.τ t) (a.tmps.getD t undef)) {o : Oper} {b : Bool} (h : wantedV ops s o.guard = some b) : Region.wanted o (yielded ops a.tmps) = b := by
  unfold wantedV at h
  unfold Region.wanted
  cases hg : o.guard with
  | none => rw [hg] at h; injection h with h
  | some p =>
    obtain ⟨j, want⟩ := p
    rw [hg] at h
    dsimp only at h ⊢
    unfold yielded
    cases hd : (ops[j]?).bind (·.dst) with
    | none => rw [hd] at h; cases h
    | some d =>
      rw [hd] at h
      dsimp only at h
      have ht := ht d
      simp only [Option.bind_some]
      split at h
      · rename_i x hx
        rw [hx] at ht
        injection h with h
        subst h
        have e := ht.bool_
        rw [Array.getD_eq_getD_getElem?] at e
        cases hq : a.tmps[d]? with
        | none => rw [hq] at e; cases e
        | some c => rw [hq] at e; simp only [Option.getD_some] at e; subst e; rfl
      · rename_i hx
        rw [hx] at ht
        injection h with h
        subst h
        simp only [IC, ICs] at ht
        obtain ⟨arr, e, harr⟩ := ht
        rw [Array.getD_eq_getD_getElem?] at e
        cases hq : a.tmps[d]? with
        | none => rfl
        | some c => rw [hq] at e; simp only [Option.getD_some] at e; subst e; rfl
      · cases h
theorem back_sub {E : Env} {s : St} {c' : Nat} {O' : Heap} {q : Key} {p : Nat × Obj} (hq : (back E s c' O').heap E q = some p) : O' q = some p := by
  unfold St.heap heapOf back at hq
  dsimp only at hq
  split at hq
  · rename_i e
    have := lget_merge (keysOf s.L) [] (fun q p hq => by cases hq) _ p hq
    cases q
    dsimp only at e this
    subst e
    exact this
  · split at hq
    · exact hq
    · cases hq
theorem back_step {E : Env} {s : St} {w A β w' A' β' c'} {O' : Heap} (t : Tr w A β s.c (s.heap E) w' A' β' c' O') (h : HR w' A' β' c' O') : Step E w A β s w' A' β' (back E s c' O') :=
  ⟨t.trans (Tr.forget (fun q p hq => back_sub hq) (fun _ h => h) (fun b hb => .inl hb)), h.forget (fun q p hq => back_sub hq) (fun _ h => h) (fun b hA => ⟨(h.imm b hA).1, fun hm => (h.imm b hA).2 (hm.mono fun q p hq => back_sub hq)⟩), rfl⟩
theorem heap_above {E : Env} {s : St} : ∀ k : Key, E.lvl + 1 ≤ k.lvl → s.heap E k = none := fun k hk => by
  cases e : s.heap E k with
  | none => rfl
  | some p => have := heap_lvl e; omega
theorem yield_sound {E : Env} {call : CallFn} {s : St} {o : Oper} {w A β} {a : Act} {next : Act → World → Prop} {Q : Exit → Act → World → Prop} (hs : SR E w A β s a) (hcall : SoundCall E.P call) (ro : Option Nat) (n : Nat) {k : Key} {ver : Nat} {args : List V} {b : Bool} {c' : Nat} {O' : Heap}
    (hy : yieldOf s o = some (k, ver, args)) (hr : call.rnd k ver args (E.lvl + 1) s.c (s.heap E) = some (b, c', O')) (hn : ∀ w' A' β', Step E w A β s w' A' β' (back E s c' O') → next (a.put o.dst (.bool b)) w') : o.wpIn (Fi ro) n E.P a w next Q := by
  unfold yieldOf at hy
  split at hy
  case h_2 => cases hy
  rename_i c hop
  split at hy
  case h_2 => cases hy
  rename_i f hc
  split at hy
  case h_2 => cases hy
  rename_i k' ver' hf
  simp only [Option.some.injEq, Prod.mk.injEq] at hy
  obtain ⟨rfl, rfl, rfl⟩ := hy
  have hfv := hs.eval f
  rw [hf] at hfv
  have hargs := hs.evals c.args.toList
  have hm : (c.args.map a.eval).toList = c.args.toList.map a.eval := by simp
  rw [← hm] at hargs
  obtain ⟨hO', hR⟩ := hcall.rnd _ _ _ _ _ _ _ _ _ hr heap_above
  obtain ⟨i, l, fi, tmps, as, bd, hi, hl, hz, hyl, hround⟩ := hR w A β (c.args.map a.eval) hs.heap hargs
  simp only [IC] at hfv
  obtain ⟨i', l', hi', hl', hcf⟩ := hfv
  rw [hi] at hi'
  injection hi' with hi'
  subst hi'
  rw [hl] at hl'
  injection hl' with hl'
  subst hl'
  have e2 : mrefC i l = .func (.yield l) #[] #[] := by unfold mrefC; rw [if_pos hz]
  rw [e2] at hcf
  refine ⟨fun _ _ => trivial, ?_⟩
  rw [Oper.semAt_eq _ _ _ (by rw [hop]; simp)]
  have hrun : (execOp a.eval o).run E.P w = .ok (.round l fi tmps as bd) w := by
    simp only [execOp, hop, resolve, hc, hcf, Deferred.ofValue, Sem.run_bind, Sem.run_pure, Result.andThen_ok, invoke]
    simpa using hyl
  rw [hrun, Oper.uponIn_round]
  refine ⟨fun h => (by cases h), ?_⟩
  refine (show RoundIn (Fi ro) (n - 1) E.P l fi tmps as bd w _ from hround (n - 1)).mono ?_
  rintro e w' ⟨A', β', rfl, t, h⟩
  exact hn w' A' β' (back_step t h)
theorem melt_sound {E : Env} {w : World} {A : Nat → Prop} {β : Beta} {s s1 : St} {a : Act} {o : Oper} (hs : SR E w A β s a) (h : meltOf E o s = some s1) :
    ∃ j A1, o.op = .move (.tmp j) ∧ Tr w A β s.c (s.heap E) w A1 β s1.c (s1.heap E) ∧ SR E w A1 β s1 (a.put o.dst (a.eval (.tmp j))) := by
  unfold meltOf at h
  split at h
  · rename_i j d ho hd
    split at h
    case isFalse => cases h
    split at h
    case isFalse => cases h
    rename_i hn
    simp only [Option.map_eq_some_iff] at h
    obtain ⟨v, hf, rfl⟩ := h
    have hv := hs.eval (.tmp j)
    obtain ⟨st, hp⟩ := frz_dels hs.heap (show IC w A β (tget s.τ j) _ from hv) hf
    have hi := IC.of_pure (β := β) _ _ hp
    refine ⟨j, _, ho, st.1, ?_⟩
    have h2 := hs.step st
    rw [hd]
    refine SR.put (s := { St.dels E (refs (tget s.τ j)) s with τ := tset s.τ j v }) ⟨fun t => ?_, h2.size, h2.heap, h2.defers⟩ hi (by unfold setD; dsimp only; rw [if_pos hn])
    show IC _ _ _ (tget (tset s.τ j v) t) _
    rw [tget_tset]
    by_cases e : t = j
    · subst e
      rw [if_pos rfl]
      exact hi
    · rw [if_neg e]
      have := h2.tmp t
      rwa [st.2.2] at this
  · cases h
section
variable {E : Env} {call : CallFn} {Cx : FuncId → Option (List V → Option V)} (hcall : SoundCall E.P call) (hhand : SoundHand E.P Cx) (hG : ∀ g ∈ E.ok, GoodF E.P g)
include hcall hhand hG
theorem evOps_sound (ro : Option Nat) (n : Nat) (ops : Array Oper) : ∀ (l : List Oper) (s : St) (e : Ex) (s' : St), evOps call E Cx ops l s = some (e, s') → Runs E s e s' (fun Q a w => wpListIn (Fi ro) n E.P ops Q l a w)
  | [], s, e, s', h => by
    injection h with h
    injection h with h1 h2
    subst h1; subst h2
    intro w A β a hs Q hQ
    exact hQ a w A β (TrA.refl ..) hs
  | o :: r, s, e, s', h => by
    intro w A β a hs Q hQ
    unfold evOps at h
    split at h
    · cases h
    · rename_i hw
      have hw' := wanted_sound hs.tmp hw
      unfold wpListIn
      rw [if_neg (by rw [hw']; simp)]
      refine ⟨fun _ _ => trivial, ?_⟩
      cases hd : setD E o.dst (.tup []) s with
      | none => rw [hd] at h; cases h
      | some s1 =>
        rw [hd] at h
        have hh := setD_heap hd
        exact evOps_sound ro n ops r s1 e s' h w A β _ (hs.put (c := undef) (by simp [IC, ICs, undef]) hd) Q (fun a' w' A' β' t hs' => hQ a' w' A' β' (by rw [← hh.1, ← hh.2]; exact TrA.pre (Tr.refl ..) put_defers t) hs')
    · rename_i hw
      have hw' := wanted_sound hs.tmp hw
      unfold wpListIn
      rw [if_pos hw']
      split at h
      · rename_i s1 hm
        obtain ⟨j, A1, ho, tr, hsr⟩ := melt_sound hs hm
        refine oper_in ro n (by rw [ho]; intro c h; cases h) ?_
        have hrun : (execOp a.eval o).run E.P w = .ok (.value (a.eval (.tmp j))) w := by simp only [execOp, ho, Sem.run_bind, Sem.run_pure, Result.andThen_ok]
        exact wp_value hrun (evOps_sound ro n ops r s1 e s' h w A1 β _ hsr Q (fun a' w'' A'' β'' t hs' => hQ a' w'' A'' β'' (TrA.pre tr put_defers t) hs'))
      split at h
      · rename_i k ver args hy
        split at h
        case h_2 => cases h
        rename_i b c' O' hr
        cases hd : setD E o.dst (.bool b) (back E s c' O') with
        | none => rw [hd] at h; cases h
        | some s2 =>
          rw [hd] at h
          refine yield_sound hs hcall ro n hy hr fun w' A' β' st => ?_
          have hh := setD_heap hd
          exact evOps_sound ro n ops r s2 e s' h w' A' β' _ ((hs.step st).put (IC.bool_mk b) hd) Q (fun a' w'' A'' β'' t hs' => hQ a' w'' A'' β'' (TrA.pre st.1 put_defers (by rw [← hh.1, ← hh.2]; exact t)) hs')
      split at h
      · cases h
      · rename_i v s1 ha
        cases hd : setD E o.dst v s1 with
        | none => rw [hd] at h; cases h
        | some s2 =>
          rw [hd] at h
          refine oper_in ro n (aop_nodefer ha) (aop_sound hs hcall hhand hG ha ⟨?_, ?_⟩)
          · rintro v' s1' cv w' A' β' heq st hv
            injection heq with e1 e2
            subst e1; subst e2
            have hh := setD_heap hd
            have hsr : SR E w' A' β' s1 a := (hs.step st)
            exact evOps_sound ro n ops r s2 e s' h w' A' β' _ (hsr.put hv hd) Q (fun a' w'' A'' β'' t hs' => hQ a' w'' A'' β'' (TrA.pre st.1 put_defers (by rw [← hh.1, ← hh.2]; exact t)) hs')
          · rintro v' s1' cv w' A' β' heq; cases heq
      · rename_i v s1 ha
        injection h with h
        injection h with h1 h2
        subst h1; subst h2
        refine oper_in ro n (aop_nodefer ha) (aop_sound hs hcall hhand hG ha ⟨?_, ?_⟩)
        · rintro v' s1' cv w' A' β' heq; cases heq
        · rintro v' s1' cv w' A' β' heq st hv
          injection heq with e1 e2
          subst e1; subst e2
          exact hQ a w' A' β' ⟨st.1, [], rfl, fun _ h => by cases h⟩ (hs.step st) cv hv
end
end Go.Vi
namespace Go.Vi
open Go
mutual
theorem imm_sound {w A A'} (hA : ∀ b, A b → A' b) : ∀ (v : V) (c : Value) (l : List Info), pureR v = true → RC w A noB v c l → (∀ i ∈ l, ∀ b, i.b = some b → A' b) → PC w A' (imm v) c
  | .own sz es, c, l, _, h, hl => by
    simp only [RC] at h
    obtain ⟨i, rfl, hs, ho⟩ := h
    simp only [imm]
    have := SliceC.imm (w := w) (A := A') (i := i) (off := 0) (len := es.length) (c := c) (es := es) hs (fun b hb => hl i (by simp) b hb) (by omega) (fun b hb => by
      unfold OC at ho
      rw [hb] at ho
      exact PEs.mono hA (fun _ _ => rfl) b rfl _ _ _ ho.2.2.2.2)
    simpa using this
  | .agg cs, c, l, hp, h, hl => by
    simp only [RC] at h
    obtain ⟨a, e, h⟩ := h
    simp only [imm, PC]
    exact ⟨a, e, immL_sound hA cs _ l (by simpa [pureR] using hp) h hl⟩
  | .tup cs, c, l, hp, h, hl => by
    simp only [RC] at h
    obtain ⟨a, e, h⟩ := h
    simp only [imm, PC]
    exact ⟨a, e, immL_sound hA cs _ l (by simpa [pureR] using hp) h hl⟩
  | .ref .., _, _, hp, _, _ => by simp [pureR] at hp
  | .ptr .., _, _, hp, _, _ => by simp [pureR] at hp
  | .mref .., _, _, hp, _, _ => by simp [pureR] at hp
  | .junk, _, _, hp, _, _ => by simp [pureR] at hp
  | .iface .., c, l, hp, h, hl => by simp only [RC] at h; exact IC.pure_of _ c hp h.2 (fun _ => hA)
  | .fn .., c, l, hp, h, hl => by simp only [RC] at h; exact IC.pure_of _ c hp h.2 (fun _ => hA)
  | .int .., c, l, hp, h, hl => by simp only [RC] at h; exact IC.pure_of _ c hp h.2 (fun _ => hA)
  | .bool _, c, l, hp, h, hl => by simp only [RC] at h; exact IC.pure_of _ c hp h.2 (fun _ => hA)
  | .str _, c, l, hp, h, hl => by simp only [RC] at h; exact IC.pure_of _ c hp h.2 (fun _ => hA)
  | .lst _, c, l, hp, h, hl => by simp only [RC] at h; exact IC.pure_of _ c hp h.2 (fun _ => hA)
  | .iptr _, c, l, hp, h, hl => by simp only [RC] at h; exact IC.pure_of _ c hp h.2 (fun _ => hA)
  | .lmap _, c, l, hp, h, hl => by simp only [RC] at h; exact IC.pure_of _ c hp h.2 (fun _ => hA)
  | .nilS, c, l, hp, h, hl => by simp only [RC] at h; exact IC.pure_of _ c hp h.2 (fun _ => hA)
  | .nilP, c, l, hp, h, hl => by simp only [RC] at h; exact IC.pure_of _ c hp h.2 (fun _ => hA)
  | .nilI, c, l, hp, h, hl => by simp only [RC] at h; exact IC.pure_of _ c hp h.2 (fun _ => hA)
  | .nilF, c, l, hp, h, hl => by simp only [RC] at h; exact IC.pure_of _ c hp h.2 (fun _ => hA)
  | .nilM, c, l, hp, h, hl => by simp only [RC] at h; exact IC.pure_of _ c hp h.2 (fun _ => hA)
theorem immL_sound {w A A'} (hA : ∀ b, A b → A' b) : ∀ (v : List V) (c : List Value) (l : List Info), pureRL v = true → RCs w A noB v c l → (∀ i ∈ l, ∀ b, i.b = some b → A' b) → PCs w A' (immL v) c
  | [], c, l, _, h, _ => by simp only [RCs] at h; simp only [immL, PCs]; exact h.1
  | v :: r, c, l, hp, h, hl => by
    simp only [RCs] at h
    obtain ⟨x, d, l1, l2, e, rfl, h1, h2⟩ := h
    simp only [pureRL, Bool.and_eq_true] at hp
    simp only [immL, PCs]
    exact ⟨x, d, e, imm_sound hA v x l1 hp.1 h1 (fun i hi => hl i (by simp [hi])), immL_sound hA r d l2 hp.2 h2 (fun i hi => hl i (by simp [hi]))⟩
end
section
variable {E : Env} {w : World} {A : Nat → Prop} {β : Beta} {s : St} {o : Oper} {a : Act} {next : Act → World → Prop} {Q : Exit → Act → World → Prop}
theorem quiet_same {call : CallFn} {Cx : FuncId → Option (List V → Option V)} {d : Nat} {op : Op} {v : V} {s' : St} (hq : quietK op = true) (h : aop call E Cx d op s = some (.val v s')) : s' = s := by
  have vo : ∀ {x : Option V} {v : V} {s' : St}, valOf s x = some (.val v s') → s' = s := fun {x v s'} h => by
    unfold valOf at h
    simp only [Option.map_eq_some_iff] at h
    obtain ⟨u, _, hu⟩ := h
    injection hu with _ h2
    exact h2.symm
  have in_ : ∀ {v v' : V} {s' : St}, some (Res.val v s) = some (Res.val v' s') → s' = s := fun {v v' s'} h => by
    injection h with h; injection h with _ h2; exact h2.symm
  cases op <;> simp only [quietK, Bool.false_eq_true] at hq
  case move => exact in_ h
  case lookup => exact vo h
  case pick => simp only [aop] at h; split at h <;> first | exact in_ h | cases h
  case build => simp only [aop] at h; split at h <;> first | (split at h <;> first | exact vo h | cases h) | cases h
  case load => exact vo h
  case nilCheck => simp only [aop] at h; split at h <;> first | exact in_ h | cases h
  case binOp => exact vo h
  case unOp => exact vo h
  case convert =>
    simp only [aop] at h
    split at h
    · split at h <;> first | exact vo h | cases h
    · split at h <;> first | exact in_ h | exact vo h | cases h
    · exact vo h
  case makeInterface => simp only [aop] at h; split at h <;> first | exact in_ h | cases h
  case makeFunc => exact in_ h
  case slice t x lo hi mx =>
    cases mx with
    | none => exact vo h
    | some _ => simp at hq
  case fieldAddr =>
    simp only [aop] at h
    split at h
    · split at h
      · cases h
      · split at h
        · exact in_ h
        · split at h <;> first | exact in_ h | cases h
        · cases h
    · cases h
  case field => simp only [aop] at h; split at h <;> first | exact vo h | cases h
  case indexAddr =>
    simp only [aop] at h
    split at h
    · split at h
      · split at h
        · split at h
          · split at h <;> first | exact in_ h | cases h
          · cases h
        · split at h
          · split at h <;> first | exact in_ h | cases h
          · cases h
        · exact vo h
      · cases h
    · cases h
  case index =>
    simp only [aop] at h
    split at h
    · split at h <;> first | exact vo h | cases h
    · cases h
  case extract => simp only [aop] at h; split at h <;> first | exact vo h | cases h
  case call c =>
    have bl : ∀ b, (b = Builtin.len ∨ b = Builtin.min ∨ b = Builtin.max) → c.callee = .builtin b → s' = s := fun b hb hc => by
      simp only [aop, hc] at h
      unfold builtinV at h
      split at h
      · split at h
        · split at h <;> first | exact in_ h | cases h
        · split at h
          · simp only [Option.map_eq_some_iff] at h
            obtain ⟨n, _, hn⟩ := h
            injection hn with _ h2
            exact h2.symm
          · split at h
            · simp only [Option.map_eq_some_iff] at h
              obtain ⟨n, _, hn⟩ := h
              injection hn with _ h2
              exact h2.symm
            · cases h
      · rcases hb with hb | hb | hb <;> cases hb
      · rcases hb with hb | hb | hb <;> cases hb
      · exact vo h
      · exact vo h
      · cases h
    split at hq
    · exact bl _ (.inl rfl) (by assumption)
    · exact bl _ (.inr (.inl rfl)) (by assumption)
    · exact bl _ (.inr (.inr rfl)) (by assumption)
    · cases hq
theorem callQ_sound {call : CallFn} {Cx : FuncId → Option (List V → Option V)} {f : V} {args : List V} {v : V} {cf} {cargs : Array Value} (hcall : SoundCall E.P call) (hhand : SoundHand E.P Cx)
    (h : HR w A β s.c (s.heap E)) (hf : IC w A β f cf) (hargs : ICs w A β args cargs.toList) (he : callQ call E Cx f args s = some v) :
    ∃ g x y, cf = .func (.func g) x y ∧ g ∈ E.ok ∧ Calls E.P g (x ++ cargs ++ y) w (fun e w' => ∃ A' cv, e = .returned cv ∧ Step E w A β s w' A' β s ∧ IC w' A' β v cv) := by
  unfold callQ at he
  split at he
  case h_2 => cases he
  rename_i g first caps
  split at he
  case isFalse => cases he
  rename_i hok
  simp only [IC] at hf
  obtain ⟨x, y, rfl, hx, hy⟩ := hf
  refine ⟨g, x, y, rfl, by simpa using hok, ?_⟩
  have hall : ICs w A β (first ++ args ++ caps) (x ++ cargs ++ y).toList := by
    simp only [Array.toList_append]
    exact (hx.app hargs).app hy
  generalize first ++ args ++ caps = all at hall he
  generalize x ++ cargs ++ y = call0 at hall
  split at he
  case h_2 => cases he
  rename_i pargs hp
  obtain ⟨st, hpc⟩ := frzs_dels h hall hp
  generalize hA1 : (fun b => A b ∨ Frozen (s.heap E) β (refsL all) b) = A1 at st hpc
  have hA1s : ∀ b, A1 b → b < w.heap.size := fun b hb => (st.2.1.imm b hb).1
  split at he
  case h_2 => cases he
  rename_i u ho
  split at he
  case isFalse => cases he
  rename_i hcond
  injection he with he
  subst he
  simp only [Bool.and_eq_true, Bool.or_eq_true, Bool.not_eq_true', List.isEmpty_iff] at hcond
  have hSP : SoundPure E.P g pargs (.ret u) := by
    split at ho
    · rename_i F hF
      cases hFv : F pargs with
      | none => rw [hFv] at ho; cases ho
      | some q => rw [hFv] at ho; injection ho with ho; injection ho with ho; subst ho; exact hhand g F pargs q hF hFv
    · cases hc : call g pargs 0 0 (fun _ => none) with
      | none => rw [hc] at ho; cases ho
      | some q =>
        obtain ⟨o, c', O'⟩ := q
        rw [hc] at ho
        injection ho with ho
        dsimp only at ho
        subst ho
        exact pure_of_call hcall hc hcond.1
  refine (hSP w A1 call0 st.2.1.laid hA1s hpc).mono ?_
  rintro e w' ⟨A1', t, hA1', cv, l, rfl, hrc, hown, hd⟩
  have hold : ∀ b, b < w.heap.size → w'.heap[b]? = w.heap[b]? := fun b hb => t.old b hb noM
  have fin : ∀ (A2 : Nat → Prop), (∀ b, A b → A2 b) → (∀ b, A2 b → A b ∨ w.heap.size ≤ b) → (∀ b, A2 b → b < w'.heap.size) → Step E w A β s w' A2 β s := fun A2 h1 h2 h3 => by
    refine ⟨⟨t.size, t.os, t.tape, t.output, fun b hb _ => hold b hb, fun _ _ _ => rfl, Nat.le_refl _, h1, fun b hb => (h2 b hb).imp id .inr, fun b hb => .inl hb⟩, ⟨?_, h.sep, fun b hb => ⟨h3 b hb, fun hm => ?_⟩, h.fresh, h.laid.step (fun b hb => hold b (h.imm b hb).1) h1⟩, rfl⟩
    · intro k v o hk
      obtain ⟨i, e, ho⟩ := h.obj k v o hk
      exact ⟨i, e, ho.mono h1 (fun b hb => sameC (hold b (h.imm b hb).1)) (fun _ _ _ h => h) (fun b hb => hold b (h.lt ⟨k, v, o, i, hk, e, hb⟩))⟩
    · rcases h2 b hb with h4 | h4
      · exact (h.imm b h4).2 hm
      · have := h.lt hm; omega
  by_cases hsh : shares u = true
  · have hr : refsL all = [] := hcond.2.resolve_left (by rw [hsh]; simp)
    have hA1A : ∀ b, A1 b → A b := fun b hb => by
      rw [← hA1, hr] at hb
      rcases hb with hb | ⟨k, _, _, _, hk, _⟩
      · exact hb
      · cases hk
    refine ⟨fun b => A1' b ∨ ∃ i ∈ l, i.b = some b, cv, rfl, fin _ (fun b hb => .inl (t.imm b (by rw [← hA1]; exact .inl hb))) (fun b hb => ?_) (fun b hb => ?_), ?_⟩
    · rcases hb with hb | ⟨i, hi, hb⟩
      · rcases t.newA b hb with h2 | h2 | h2
        · exact .inl (hA1A b h2)
        · exact absurd h2 noM
        · exact .inr h2
      · exact .inr (hown i hi b hb).1
    · rcases hb with hb | ⟨i, hi, hb⟩
      · exact hA1' b hb
      · exact (hown i hi b hb).2.1
    · exact IC.of_pure _ _ (imm_sound (fun b hb => .inl hb) u cv l hcond.1 hrc (fun i hi b hb => .inr ⟨i, hi, hb⟩))
  · refine ⟨fun b => A b ∨ ∃ i ∈ l, i.b = some b, cv, rfl, fin _ (fun b hb => .inl hb) (fun b hb => ?_) (fun b hb => ?_), ?_⟩
    · rcases hb with hb | ⟨i, hi, hb⟩
      · exact .inl hb
      · exact .inr (hown i hi b hb).1
    · rcases hb with hb | ⟨i, hi, hb⟩
      · exact Nat.lt_of_lt_of_le (h.imm b hb).1 t.size
      · exact (hown i hi b hb).2.1
    · have h5 : RC w' A noB u cv l := RC.any u cv l hcond.1 hrc (fun e => absurd e hsh)
      exact IC.of_pure _ _ (imm_sound (fun b hb => .inl hb) u cv l hcond.1 h5 (fun i hi b hb => .inr ⟨i, hi, hb⟩))
theorem callS_sound {call : CallFn} {Cx : FuncId → Option (List V → Option V)} {f : V} {args : List V} {v : V} {s1 : St} {cf} {cargs : Array Value} (hcall : SoundCall E.P call) (hhand : SoundHand E.P Cx)
    (h : HR w A β s.c (s.heap E)) (hf : IC w A β f cf) (hargs : ICs w A β args cargs.toList) (he : callS call E Cx f args s = some (.val v s1)) :
    ∃ g x y, cf = .func (.func g) x y ∧ g ∈ E.ok ∧ Calls E.P g (x ++ cargs ++ y) w (fun e w' => ∃ A' cv, e = .returned cv ∧ Step E w A β s w' A' β s1 ∧ IC w' A' β v cv) := by
  unfold callS at he
  split at he
  case h_2 => cases he
  rename_i g first caps
  split at he
  case isFalse => cases he
  rename_i hok
  simp only [IC] at hf
  obtain ⟨x, y, rfl, hx, hy⟩ := hf
  refine ⟨g, x, y, rfl, by simpa using hok, ?_⟩
  have hall : ICs w A β (first ++ args ++ caps) (x ++ cargs ++ y).toList := by
    simp only [Array.toList_append]
    exact (hx.app hargs).app hy
  generalize first ++ args ++ caps = all at hall he
  generalize x ++ cargs ++ y = call0 at hall
  split at he
  case h_2 => cases he
  rename_i pargs hp
  obtain ⟨st, hpc⟩ := frzs_dels h hall hp
  generalize hA1 : (fun b => A b ∨ Frozen (s.heap E) β (refsL all) b) = A1 at st hpc
  have hA1s : ∀ b, A1 b → b < w.heap.size := fun b hb => (st.2.1.imm b hb).1
  split at he
  case h_2 => cases he
  rename_i u ho
  split at he
  case isFalse => cases he
  rename_i hcond
  injection he with he
  injection he with he1 he2
  subst he1
  have hSP : SoundPure E.P g pargs (.ret u) := by
    split at ho
    · rename_i F hF
      cases hFv : F pargs with
      | none => rw [hFv] at ho; cases ho
      | some q => rw [hFv] at ho; injection ho with ho; injection ho with ho; subst ho; exact hhand g F pargs q hF hFv
    · cases hc : call g pargs 0 0 (fun _ => none) with
      | none => rw [hc] at ho; cases ho
      | some q =>
        obtain ⟨o, c', O'⟩ := q
        rw [hc] at ho
        injection ho with ho
        dsimp only at ho
        subst ho
        exact pure_of_call hcall hc hcond
  refine (hSP w A1 call0 st.2.1.laid hA1s hpc).mono ?_
  rintro e w' ⟨A1', t, hA1', cv, l, rfl, hrc, hown, hd⟩
  have hold : ∀ b, b < w.heap.size → w'.heap[b]? = w.heap[b]? := fun b hb => t.old b hb noM
  have fin : ∀ (B : Nat → Prop) (s2 : St), HR w B β s2.c (s2.heap E) → ∀ (A2 : Nat → Prop), (∀ b, B b → A2 b) → (∀ b, A2 b → B b ∨ w.heap.size ≤ b) → (∀ b, A2 b → b < w'.heap.size) → Step E w B β s2 w' A2 β s2 := fun B s2 h A2 h1 h2 h3 => by
    refine ⟨⟨t.size, t.os, t.tape, t.output, fun b hb _ => hold b hb, fun _ _ _ => rfl, Nat.le_refl _, h1, fun b hb => (h2 b hb).imp id .inr, fun b hb => .inl hb⟩, ⟨?_, h.sep, fun b hb => ⟨h3 b hb, fun hm => ?_⟩, h.fresh, h.laid.step (fun b hb => hold b (h.imm b hb).1) h1⟩, rfl⟩
    · intro k v o hk
      obtain ⟨i, e, ho⟩ := h.obj k v o hk
      exact ⟨i, e, ho.mono h1 (fun b hb => sameC (hold b (h.imm b hb).1)) (fun _ _ _ h => h) (fun b hb => hold b (h.lt ⟨k, v, o, i, hk, e, hb⟩))⟩
    · rcases h2 b hb with h4 | h4
      · exact (h.imm b h4).2 hm
      · have := h.lt hm; omega
  by_cases hsh : shares u = true
  · rw [if_pos hsh] at he2
    subst he2
    refine ⟨fun b => A1' b ∨ ∃ i ∈ l, i.b = some b, cv, rfl, st.trans (fin A1 _ st.2.1 _ (fun b hb => .inl (t.imm b hb)) (fun b hb => ?_) (fun b hb => ?_)), ?_⟩
    · rcases hb with hb | ⟨i, hi, hb⟩
      · rcases t.newA b hb with h2 | h2 | h2
        · exact .inl h2
        · exact absurd h2 noM
        · exact .inr h2
      · exact .inr (hown i hi b hb).1
    · rcases hb with hb | ⟨i, hi, hb⟩
      · exact hA1' b hb
      · exact (hown i hi b hb).2.1
    · exact IC.of_pure _ _ (imm_sound (fun b hb => .inl hb) u cv l hcond hrc (fun i hi b hb => .inr ⟨i, hi, hb⟩))
  · rw [if_neg hsh] at he2
    subst he2
    refine ⟨fun b => A b ∨ ∃ i ∈ l, i.b = some b, cv, rfl, fin A s h _ (fun b hb => .inl hb) (fun b hb => ?_) (fun b hb => ?_), ?_⟩
    · rcases hb with hb | ⟨i, hi, hb⟩
      · exact .inl hb
      · exact .inr (hown i hi b hb).1
    · rcases hb with hb | ⟨i, hi, hb⟩
      · exact Nat.lt_of_lt_of_le (h.imm b hb).1 t.size
      · exact (hown i hi b hb).2.1
    · have h5 : RC w' A noB u cv l := RC.any u cv l hcond hrc (fun e => absurd e hsh)
      exact IC.of_pure _ _ (imm_sound (fun b hb => .inl hb) u cv l hcond h5 (fun i hi b hb => .inr ⟨i, hi, hb⟩))
theorem dop_sound (hs : SR E w A β s a) {call : CallFn} {Cx : FuncId → Option (List V → Option V)} (hcall : SoundCall E.P call) (hhand : SoundHand E.P Cx) (hG : ∀ g ∈ E.ok, GoodF E.P g) {d : Nat} {v : V} {s1 : St} (he : dop call E Cx d o.op s = some (.val v s1))
    (hn : ∀ cv w' A' β', Step E w A β s w' A' β' s1 → IC w' A' β' v cv → next (a.put o.dst cv) w') : o.wp E.P a w next Q := by
  have viaAop : aop call E Cx d o.op s = some (.val v s1) → o.wp E.P a w next Q := fun h => by
    refine aop_sound hs hcall hhand hG h ⟨?_, ?_⟩
    · rintro v' s1' cv w' A' β' heq st hv
      injection heq with e1 e2
      subst e1; subst e2
      exact hn cv w' A' β' st hv
    · rintro v' s1 cv w' A' β' heq; cases heq
  unfold dop at he
  split at he
  · rename_i c hop
    split at he
    · rename_i f hc
      split at he
      · exact viaAop (by rw [hop]; exact he)
      · have hargs := hs.evals c.args.toList
        have hm : (c.args.map a.eval).toList = c.args.toList.map a.eval := by simp
        rw [← hm] at hargs
        obtain ⟨gf, x, y, hcf, hok, hC⟩ := callS_sound hcall hhand hs.heap (hs.eval f) hargs he
        unfold Oper.wp
        have hrun : (execOp a.eval o).run E.P w = .ok (.enter gf (x ++ c.args.map a.eval ++ y)) w := by
          simp only [execOp, hop, resolve, hc, hcf, Deferred.ofValue, Sem.run_bind, Sem.run_pure, Result.andThen_ok, invoke]
          exact callFunc_run (hG gf hok)
        rw [hrun, Oper.upon_enter]
        refine hC.mono ?_
        rintro e w' ⟨A', cv, rfl, st, hv⟩
        exact hn cv w' A' β st hv
    · exact viaAop (by rw [hop]; exact he)
  · exact viaAop he
theorem qop_sound (hs : SR E w A β s a) {call : CallFn} {Cx : FuncId → Option (List V → Option V)} (hcall : SoundCall E.P call) (hhand : SoundHand E.P Cx) (hG : ∀ g ∈ E.ok, GoodF E.P g) {d : Nat} {v : V} (he : qop call E Cx d o.op s = some v)
    (hn : ∀ cv w' A' β', Step E w A β s w' A' β' s → IC w' A' β' v cv → next (a.put o.dst cv) w') : o.wp E.P a w next Q := by
  have viaAop : quietK o.op = true → (match aop call E Cx d o.op s with | some (.val v _) => some v | _ => none) = some v → o.wp E.P a w next Q := fun hq h => by
    split at h
    · rename_i u s' ha
      injection h with h
      subst h
      have e := quiet_same hq ha
      subst e
      refine aop_sound hs hcall hhand hG ha ⟨?_, ?_⟩
      · rintro v' s1 cv w' A' β' heq st hv
        injection heq with e1 e2
        subst e1; subst e2
        exact hn cv w' A' β' st hv
      · rintro v' s1 cv w' A' β' heq; cases heq
    · cases h
  unfold qop at he
  split at he
  · rename_i c hop
    split at he
    · rename_i f hc
      have hargs := hs.evals c.args.toList
      have hm : (c.args.map a.eval).toList = c.args.toList.map a.eval := by simp
      rw [← hm] at hargs
      obtain ⟨gf, x, y, hcf, hok, hC⟩ := callQ_sound hcall hhand hs.heap (hs.eval f) hargs he
      unfold Oper.wp
      have hrun : (execOp a.eval o).run E.P w = .ok (.enter gf (x ++ c.args.map a.eval ++ y)) w := by
        simp only [execOp, hop, resolve, hc, hcf, Deferred.ofValue, Sem.run_bind, Sem.run_pure, Result.andThen_ok, invoke]
        exact callFunc_run (hG gf hok)
      rw [hrun, Oper.upon_enter]
      refine hC.mono ?_
      rintro e w' ⟨A', cv, rfl, st, hv⟩
      exact hn cv w' A' β st hv
    · rename_i hc; exact viaAop (by rw [hop]; simp [quietK, hc]) he
    · rename_i hc; exact viaAop (by rw [hop]; simp [quietK, hc]) he
    · rename_i hc; exact viaAop (by rw [hop]; simp [quietK, hc]) he
    · cases he
  · split at he
    · rename_i hq; exact viaAop hq he
    · cases he
end
end Go.Vi
