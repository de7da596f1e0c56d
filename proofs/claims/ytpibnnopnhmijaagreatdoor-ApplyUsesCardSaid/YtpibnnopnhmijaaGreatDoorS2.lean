/-
  apply.variables: the closure that walks over the variables of an expression, at any level, with any yield.
-/
import Derived.Test.YtpibnnopnhmijaaGreatDoorS1
set_option linter.unusedSimpArgs false
set_option linter.unusedVariables false
set_option maxRecDepth 100000
set_option maxHeartbeats 1000000
namespace Go.Vi
open Go Go.Proofs

/-- What one round of a range does: the loop's mark lies at level L. -/
def YlG {σ : Type} (H : FuncId → Option (List V → Option V)) (n0 L : Nat) (q : Key) (ver : Nat) (ok : Tm → Prop) (Inv : σ → Bool → Heap → Prop) (step : σ → Tm → Bool × σ) : Prop :=
  ∀ n lvl x t c O, n0 ≤ n → L + 1 < lvl → ok t → Inv x true O → ∃ c' O', roundV (evF (Cx H) n) (Cx H) n q ver [tv t] lvl c O = some ((step x t).1, c', O') ∧ Inv (step x t).2 (step x t).1 O' ∧
    ∀ l sl off, L < l → l < lvl → O' ⟨l, sl, off⟩ = O ⟨l, sl, off⟩
theorem yield_atG {H : FuncId → Option (List V → Option V)} {M : Mc} {k : K} {s : St} {ops : Array Oper} {d n L : Nat} {r : List Oper} {q : Key} {ver : Nat} {args : List V} {b : Bool} {Inv : Heap → Prop} {P : Option (Ex × St) → Prop} (hM : M.call = evF (Cx H) (n + 1)) (hd : d < M.E.n)
    (hr : ∃ c' O', roundV (evF (Cx H) n) (Cx H) n q ver args (M.E.lvl + 1) s.c (s.heap M.E) = some (b, c', O') ∧ Inv O' ∧ ∀ l sl off, L < l → l < M.E.lvl + 1 → O' ⟨l, sl, off⟩ = s.heap M.E ⟨l, sl, off⟩) (hl : L < M.E.lvl)
    (h : ∀ L' O' c', (∀ sl off x, lget s.L (sl, off) = some x → lget L' (sl, off) = some x) → Inv O' → (∀ l sl off, L < l → l < M.E.lvl → O' ⟨l, sl, off⟩ = s.O ⟨l, sl, off⟩) → P (RO M ops r k ⟨tset s.τ d (.bool b), L', O', c'⟩)) :
    P (RCl M ops (some d) r k (.mref q ver) args s) := by
  obtain ⟨c', O', h1, h2, h3⟩ := hr
  rw [RCl_yield (b := b) (c' := c') (O' := O') hd (by rw [hM]; exact h1)]
  refine h _ _ _ (fun sl off x hx => ?_) h2 fun l sl off h0 hl' => ?_
  · exact back_get hx (by rw [h3 _ _ _ hl (by omega), heap_of, if_pos rfl, hx])
  · rw [h3 _ _ _ h0 (by omega), heap_of, if_neg (by omega), if_pos hl']
def BodyG {σ : Type} (L : Nat) (q : Key) (ver lvl : Nat) (ob : Obj) (O : Heap) (jf : σ → Code) (U : σ → Bool → Heap → Prop) (res : Bool × σ) (r : Option (Ex × St)) : Prop :=
  ∃ e s3, r = some (e, s3) ∧ jumpOf e = some (if res.1 then none else some (jf res.2)) ∧ s3.O q = some (ver, ob) ∧ U res.2 res.1 s3.O ∧ ∀ l sl off, L < l → l < lvl → s3.O ⟨l, sl, off⟩ = O ⟨l, sl, off⟩
theorem yields_ofG {σ : Type} {H : FuncId → Option (List V → Option V)} {n0 ver L : Nat} {q : Key} {lp : Lp} {τ : List (Nat × V)} {ps : List Nat} {ac bd : Code} {jf : σ → Code} {U : σ → Bool → Heap → Prop} {ok : Tm → Prop} {step : σ → Tm → Bool × σ} (hq : q.lvl = L)
    (hs : ps.length = 1 ∧ lp.ok.all ((Cx H).ok.contains ·) = true ∧ ps.all (· < lp.n) = true) (hU : ∀ x b O O', (∀ l sl off, l ≤ L → (⟨l, sl, off⟩ : Key) ≠ q → O' ⟨l, sl, off⟩ = O ⟨l, sl, off⟩) → U x b O → U x b O')
    (hb : ∀ n lvl x t c O, n0 ≤ n → L + 1 < lvl → ok t → U x true O → ∃ s1 : St, R (mcRd (Cx H) lp lvl n) ac .top ⟨setPs τ ps [tv t], [], O, c⟩ = some (.norm, s1) ∧ s1.O = O ∧
      ∀ O2, (∀ k, k ≠ q → O2 k = O k) → O2 q = some (ver, .loop lp τ ps ac bd .busy none) → BodyG L q ver lvl (.loop lp τ ps ac bd .busy none) O2 jf U (step x t) (R (mcRd (Cx H) lp lvl n) bd .top ⟨s1.τ, s1.L, O2, s1.c⟩)) :
    YlG H n0 L q ver ok (InvL q ver lp τ ps ac bd jf U) step := by
  intro n lvl x t c O hn hlv hok ⟨h1, h2⟩
  obtain ⟨s1, r1, e1, hb⟩ := hb n lvl x t c O hn hlv hok h2
  obtain ⟨e, s3, r3, hj, hq3, hU3, hS⟩ := hb (oput O q (ver, .loop lp τ ps ac bd .busy none)) (fun k hk => by rw [oput_get, if_neg hk]) (by rw [oput_get, if_pos rfl])
  have hlt : q.lvl < lvl := by omega
  obtain ⟨ql, qs, qo⟩ := q
  dsimp only at hq hlt
  subst hq
  have hne : ∀ l sl off, ql < l → ¬ (⟨l, sl, off⟩ : Key) = ⟨ql, qs, qo⟩ := fun l sl off h0 h => by injection h; omega
  have hL : ql < (envLp (Cx H).P lp lvl).lvl := hlt
  have s2 : setLoop (envLp (Cx H).P lp lvl) ⟨ql, qs, qo⟩ ver .ready .busy none s1 = some ⟨s1.τ, s1.L, oput O ⟨ql, qs, qo⟩ (ver, .loop lp τ ps ac bd .busy none), s1.c⟩ := by
    unfold setLoop
    rw [obj_lo hL, e1, h1]
    simp only [ob, if_true]
    rw [put_lo hL, e1]
    rfl
  have s4 : setLoop (envLp (Cx H).P lp lvl) ⟨ql, qs, qo⟩ ver .busy (if (if (step x t).1 then none else some (jf (step x t).2)).isNone then .ready else .done) (some (if (step x t).1 then none else some (jf (step x t).2))) s3 = some ⟨s3.τ, s3.L, oput s3.O ⟨ql, qs, qo⟩ (ver, .loop lp τ ps ac bd (if (step x t).1 then .ready else .done) (if (step x t).1 then none else some (jf (step x t).2))), s3.c⟩ := by
    unfold setLoop
    rw [obj_lo hL, hq3]
    simp only [ob, if_true]
    rw [put_lo hL]
    cases (step x t).1 <;> rfl
  have hR := round_of (call := evF (Cx H) n) (C := Cx H) (n := n) (args := [tv t]) (lvl := lvl) (c := c) h1 ⟨hs.1.symm, hlt, hs.2.1, hs.2.2⟩ r1 s2 r3 hj s4
  rw [show (if (step x t).1 = true then none else some (jf (step x t).2)).isNone = (step x t).1 by cases (step x t).1 <;> rfl] at hR
  refine ⟨_, _, hR, ?_, ?_⟩
  · refine ⟨?_, hU _ _ s3.O _ (fun l sl off hl hk => ?_) hU3⟩
    · dsimp only; rw [lower_get, if_pos hlt, oput_get, if_pos rfl]
    · dsimp only; rw [lower_get, if_pos (by omega), oput_get, if_neg hk]
  · intro l sl off h0 hl
    dsimp only
    rw [lower_get, if_pos hl, oput_get, if_neg (hne _ _ _ h0), hS l sl off h0 hl, oput_get, if_neg (hne _ _ _ h0)]
/-- A range, at any level. -/
theorem range_G {M : Mc} {k : K} {s : St} {f : Operand} {ps : Array Nat} {ac bd : Code} {g : FuncId} {caps : List V} {b : Bool} {j : Code} {e : Ex} {Inv : Heap → Prop} {P : Option (Ex × St) → Prop} (hf : evalO s f = .fn (.func g) [] caps) (hk : M.E.ok.contains g = true) (hi : M.E.inr = false)
    (hc : ∃ c' O', M.call.fn g ([] ++ [.mref (loopKey M.E) s.c] ++ caps) (M.E.lvl + 1) (s.c + 1) (heapOf M.E.lvl (lput s.L (M.E.n + 1, 0) (s.c, .loop (lpOf M.E) s.τ ps.toList ac bd .ready none)) s.O) = some (.ret (.tup []), c', O') ∧
      O' (loopKey M.E) = some (s.c, .loop (lpOf M.E) s.τ ps.toList ac bd (if b then .ready else .done) (if b then none else some j)) ∧ Inv O') (hj : jumpEx (if b then none else some j) = some e)
    (h : ∀ s' : St, s'.τ = s.τ → Inv s'.O → (∀ sl off y, sl ≠ M.E.n + 1 → ((lget s.L (sl, off)).isSome = true ∨ ∃ v cs j, lget s.L (sl, 0) = some (v, .var cs) ∧ off = j + 1 ∧ j < cs.length) → s'.O ⟨M.E.lvl, sl, off⟩ = some y → lget s'.L (sl, off) = some y) → P (X M e k s')) :
    P (R M (.rangeFunc f ps ac bd) k s) := by
  obtain ⟨c', O', hcall, hO1, hO2⟩ := hc
  have hkey : loopKey M.E = ⟨M.E.lvl, M.E.n + 1, 0⟩ := rfl
  rw [R_range (g := g) (first := []) (c' := c') (O' := O') hf hk hi hcall hO1 (by cases b <;> simp) hj]
  refine h _ (by rw [hkey, del_s rfl]; rfl) (by rw [hkey, del_s rfl]; exact hO2) (fun sl off y hs hx hy => ?_)
  rw [hkey, del_s rfl] at hy ⊢
  have hb : lget (back M.E ⟨s.τ, lput s.L (M.E.n + 1, 0) (s.c, .loop (lpOf M.E) s.τ ps.toList ac bd .ready none), s.O, s.c + 1⟩ c' O').L (sl, off) = some y := by
    refine mergeL_get _ _ _ _ (.inl ?_) hy
    rcases hx with hx | ⟨v, cs, j, hx, rfl, hj⟩
    · obtain ⟨z, hx⟩ := Option.isSome_iff_exists.1 hx
      exact keysOf_mem _ _ z (by show lget (lput s.L (M.E.n + 1, 0) _) (sl, off) = some z; rw [lget_lput, if_neg (by simp [hs]), hx])
    · have := keysOf_var (lput s.L (M.E.n + 1, 0) (s.c, .loop (lpOf M.E) s.τ ps.toList ac bd .ready none)) (sl, 0) v cs (by rw [lget_lput, if_neg (by simp [hs]), hx]) j hj
      rwa [Nat.zero_add] at this
  show lget (ldel _ (M.E.n + 1, 0)) (sl, off) = some y
  rw [lget_ldel, if_neg (by simp [hs])]
  exact hb
end Go.Vi
set_option maxRecDepth 100000
set_option maxHeartbeats 1000000
namespace Go.Vi
open Go Go.Proofs

/-- variables, whose closure keeps the expression. -/
theorem w51 (a : List Tm) : SoundPure Tryz.prog 36 [Ts a] (.ret (.fn (.func 66) [] [.iptr [Ts a]])) := by
  refine s751 (H := []) sound_nil 1 (by simp) rfl ?_
  simp only [c751, Tryz.f36, gets, sub]
  simp only [vmr, vmw, vmp, vza, ↓reduceIte, Nat.reduceBEq, Nat.reduceLT, Nat.reduceAdd, Nat.reduceEqDiff, reduceCtorEq, vmt, vzb, vzc, vlen, vleaf, velems, oks, vst, vmd, ty, Nat.reduceLeDiff, Nat.reduceMul, Nat.reduceSub, vzr, m751]
noncomputable def F51 : List V → Option V := hF (α := List Tm) (fun p => [Ts p]) (fun _ => True) (fun p => .fn (.func 66) [] [.iptr [Ts p]])
theorem F51_eq (a : List Tm) : F51 [Ts a] = some (.fn (.func 66) [] [.iptr [Ts a]]) := hF_eq (a := a) (one_inj' fun _ _ => Ts_inj) (by simp only [cans, can_Ts]) trivial
theorem F51_sound : ∀ args v, F51 args = some v → SoundPure Tryz.prog 36 args (.ret v) := hF_sound fun p _ => w51 p

/-- Only the variables count. -/
def vS {σ : Type} (step : σ → Tm → Bool × σ) (x : σ) : Tm → Bool × σ
  | .mk k s c => if isV k = true then step x (.mk k s c) else (true, x)
noncomputable abbrev A81 (H : FuncId → Option (List V → Option V)) (lvl n : Nat) : Mc := mcAt (Cx H) 66 Tryz.f66 lvl n
theorem a81 (H lvl n) : (A81 H lvl n).E.keep = [0, 1, 2, 4, 5, 6, 7, 8, 9, 19, 22, 23, 27] ∧ (A81 H lvl n).E.cnd = [9, 19, 27] ∧ (A81 H lvl n).E.frz = [] ∧ (A81 H lvl n).E.pro = [] ∧ (A81 H lvl n).E.imp = [] ∧ (A81 H lvl n).E.n = 29 ∧ (A81 H lvl n).E.lvl = lvl ∧ (A81 H lvl n).E.P = Tryz.prog ∧ (A81 H lvl n).fuel = n ∧ (A81 H lvl n).C = H ∧ (A81 H lvl n).E.ok = okL := ⟨rfl, rfl, rfl, rfl, rfl, rfl, rfl, rfl, rfl, rfl, rfl⟩
noncomputable abbrev B81 (H : FuncId → Option (List V → Option V)) (lvl n : Nat) : Mc := mcRd (Cx H) (lpOf (A81 H 0 0).E) lvl n
theorem b81 (H lvl n) : (B81 H lvl n).E.keep = [0, 1, 2, 4, 5, 6, 7, 8, 9, 19, 22, 23, 27] ∧ (B81 H lvl n).E.cnd = [9, 19, 27] ∧ (B81 H lvl n).E.frz = [] ∧ (B81 H lvl n).E.pro = [] ∧ (B81 H lvl n).E.imp = [] ∧ (B81 H lvl n).E.n = 29 ∧ (B81 H lvl n).E.lvl = lvl ∧ (B81 H lvl n).E.P = Tryz.prog ∧ (B81 H lvl n).fuel = n ∧ (B81 H lvl n).C = H ∧ (B81 H lvl n).E.ok = okL := ⟨rfl, rfl, rfl, rfl, rfl, rfl, rfl, rfl, rfl, rfl, rfl⟩
noncomputable abbrev as81 : Code := (rfA (sub [1, 1, 0, 0, 1, 1, 0, 0, 1, 1, 1, 0] c781)).1
noncomputable abbrev bd81 : Code := (rfA (sub [1, 1, 0, 0, 1, 1, 0, 0, 1, 1, 1, 0] c781)).2
def LocI {σ : Type} (L : Nat) (Inv : σ → Bool → Heap → Prop) : Prop := ∀ x b O O', (∀ l sl off, l ≤ L → O' ⟨l, sl, off⟩ = O ⟨l, sl, off⟩) → Inv x b O → Inv x b O'
/-- What lies around the inner range. -/
def U81 {σ : Type} (L lvl v2 : Nat) (q : Key) (ver : Nat) (Inv : σ → Bool → Heap → Prop) (O0 : Heap) (x : σ) (b : Bool) (O : Heap) : Prop :=
  O ⟨lvl, 2, 0⟩ = some (v2, .var [.mref q ver]) ∧ Inv x b O ∧ ∀ l sl off, L < l → l < lvl → O ⟨l, sl, off⟩ = O0 ⟨l, sl, off⟩
/-- The inner range's rounds. -/
theorem y81 {σ : Type} {H : FuncId → Option (List V → Option V)} {n0 L lvl v2 ver ver' : Nat} {q : Key} {ok : Tm → Prop} {Inv : σ → Bool → Heap → Prop} {step : σ → Tm → Bool × σ} {O0 : Heap} {τ : List (Nat × V)} (hL : L < lvl) (hY : YlG H n0 L q ver ok Inv step) (hI : LocI L Inv) (h2 : tget τ 2 = .ptr ⟨lvl, 2, 0⟩ v2 0 0) :
    YlG H (n0 + 1) lvl ⟨lvl, 30, 0⟩ ver' ok (InvL ⟨lvl, 30, 0⟩ ver' (lpOf (A81 H 0 0).E) τ [23] as81 bd81 (fun _ => .ret) (U81 L lvl v2 q ver Inv O0)) step := by
  refine yields_ofG rfl ⟨rfl, (show (okL.all fun x => okL.contains x) = true by decide), (show ([23].all fun x => decide (x < 29)) = true by decide)⟩ (fun x b O O' e ⟨u1, u2, u3⟩ => ⟨(e lvl 2 0 (Nat.le_refl _) (by simp)).trans u1, hI _ _ _ _ (fun l sl off hl => e l sl off (by omega) (by simp; omega)) u2, fun l sl off h0 h1 => (e l sl off (by omega) (by simp; omega)).trans (u3 l sl off h0 h1)⟩) ?_
  intro n lvl' x t c O hn hlv hok ⟨u1, u2, u3⟩
  obtain ⟨n, rfl⟩ : ∃ n', n = n' + 1 := ⟨n - 1, by omega⟩
  have lv1 := eq_true (show lvl < lvl' by omega)
  obtain ⟨k1, s1, c1⟩ := t
  have hyy := fun c O hO => hY n (lvl' + 1) x (.mk k1 s1 c1) c O (by omega) (by omega) hok hO
  simp only [tv_mk] at hyy ⊢
  have hA : ∃ s : St, R (mcRd (Cx H) (lpOf (A81 H 0 0).E) lvl' (n + 1)) as81 .top ⟨setPs τ [23] [.agg [I k1, .str s1, Ts c1]], [], O, c⟩ = some (.norm, s) ∧ s.O = O ∧ tget s.τ 2 = .ptr ⟨lvl, 2, 0⟩ v2 0 0 ∧ tget s.τ 5 = .ptr ⟨lvl', 5, 0⟩ c 0 0 ∧ lget s.L (5, 0) = some (c, .var [I k1, .str s1, Ts c1]) := by
    simp only [as81, rfA, sub, c781, Tryz.f66, gets]
    change ∃ s : St, R (B81 H lvl' (n + 1)) _ _ _ = _ ∧ _
    simp only [vmr, vmw, vmp, vza, ↓reduceIte, Nat.reduceBEq, Nat.reduceLT, Nat.reduceAdd, Nat.reduceEqDiff, reduceCtorEq, vmt, vzb, vzc, vlen, vleaf, velems, oks, vst, vmd, ty, Nat.reduceLeDiff, Nat.reduceMul, Nat.reduceSub, b81, setPs, X_top]
    refine ⟨_, rfl, rfl, ?_, ?_, ?_⟩
    all_goals simp only [vmr, vmw, vmp, vza, ↓reduceIte, Nat.reduceBEq, Nat.reduceLT, Nat.reduceAdd, Nat.reduceEqDiff, reduceCtorEq, vmt, vzb, vzc, vlen, vleaf, velems, oks, vst, vmd, ty, Nat.reduceLeDiff, Nat.reduceMul, Nat.reduceSub, b81, h2]
  obtain ⟨s, hr, hO, t2, t5, l5⟩ := hA
  refine ⟨s, hr, hO, fun O2 ho hq => ?_⟩
  have g1 := (ho ⟨lvl, 2, 0⟩ (by simp)).trans u1
  generalize Obj.loop (lpOf (A81 H 0 0).E) τ [23] as81 bd81 .busy none = ob at hq ⊢
  simp only [bd81, rfA, sub, c781, Tryz.f66, gets]
  change BodyG _ _ _ _ _ _ _ _ _ (R (B81 H lvl' (n + 1)) _ _ _)
  simp only [vmr, vmw, vmp, vza, ↓reduceIte, Nat.reduceBEq, Nat.reduceLT, Nat.reduceAdd, Nat.reduceEqDiff, reduceCtorEq, vmt, vzb, vzc, vlen, vleaf, velems, oks, vst, vmd, ty, Nat.reduceLeDiff, Nat.reduceMul, Nat.reduceSub, b81, t2, t5, l5, g1, obj_lo, lv1]
  refine yield_atG (L := L) rfl (show 26 < 29 by omega) (hyy _ _ (hI _ _ O _ (fun l sl off hl => ?_) u2)) (show L < lvl' by omega) fun L' O3 c3 hL3 hi3 ho3 => ?_
  · rw [heap_lw (m := lvl') rfl (by omega)]
    exact ho _ (by simp; omega)
  · have q3 : O3 ⟨lvl, 30, 0⟩ = some (ver', ob) := (ho3 lvl 30 0 hL (show lvl < lvl' by omega)).trans hq
    have q4 : O3 ⟨lvl, 2, 0⟩ = some (v2, .var [.mref q ver]) := (ho3 lvl 2 0 hL (show lvl < lvl' by omega)).trans g1
    have q5 : ∀ l sl off, L < l → l < lvl → O3 ⟨l, sl, off⟩ = O0 ⟨l, sl, off⟩ := fun l sl off h0 h1 => ((ho3 l sl off h0 (show l < lvl' by omega)).trans (ho _ (by simp; omega))).trans (u3 l sl off h0 h1)
    have q6 : ∀ l sl off, lvl < l → l < lvl' → O3 ⟨l, sl, off⟩ = O2 ⟨l, sl, off⟩ := fun l sl off h0 h1 => ho3 l sl off (by omega) h1
    clear hL3 ho3 hyy
    cases hb : (step x (.mk k1 s1 c1)).1 with
    | false =>
      rw [hb] at hi3
      simp only [vmr, vmw, vmp, vza, ↓reduceIte, Nat.reduceBEq, Nat.reduceLT, Nat.reduceAdd, Nat.reduceEqDiff, reduceCtorEq, vmt, vzb, vzc, vlen, vleaf, velems, oks, vst, vmd, ty, Nat.reduceLeDiff, Nat.reduceMul, Nat.reduceSub, b81, X_top]
      exact ⟨_, _, rfl, by rw [hb]; rfl, q3, ⟨q4, by rw [hb]; exact hi3, q5⟩, q6⟩
    | true =>
      rw [hb] at hi3
      simp only [vmr, vmw, vmp, vza, ↓reduceIte, Nat.reduceBEq, Nat.reduceLT, Nat.reduceAdd, Nat.reduceEqDiff, reduceCtorEq, vmt, vzb, vzc, vlen, vleaf, velems, oks, vst, vmd, ty, Nat.reduceLeDiff, Nat.reduceMul, Nat.reduceSub, b81, X_top]
      exact ⟨_, _, rfl, by rw [hb]; rfl, q3, ⟨q4, by rw [hb]; exact hi3, q5⟩, q6⟩
/-! ### the closure -/
def Q81 {σ : Type} (L : Nat) (Inv : σ → Bool → Heap → Prop) (lvl : Nat) (O : Heap) (res : Bool × σ) (r : Option (Ex × St)) : Prop :=
  ∃ e s', r = some (e, s') ∧ (e = .norm ∨ e = .ret) ∧ Inv res.2 res.1 s'.O ∧ ∀ l sl off, L < l → l < lvl → s'.O ⟨l, sl, off⟩ = O ⟨l, sl, off⟩
/-- The closure, for expressions of a size. -/
def C81 {σ : Type} (H : FuncId → Option (List V → Option V)) (ok : Tm → Prop) (step : σ → Tm → Bool × σ) (m : Nat) : Prop :=
  ∀ (a : List Tm) (n0 L : Nat) (q : Key) (ver : Nat) (Inv : σ → Bool → Heap → Prop) (n lvl c : Nat) (O : Heap) (x : σ), szs a < m → szs a ≤ 1000000 → (∀ t ∈ a, ok t) → q.lvl = L → YlG H n0 L q ver ok Inv step → LocI L Inv → n0 + 3 * szs a + 5 ≤ n → L < lvl → Inv x true O →
    ∃ c' O', (evF (Cx H) n).fn 66 [.mref q ver, .iptr [Ts a]] lvl c O = some (.ret (.tup []), c', O') ∧ Inv (visL (vS step) x a).2 (visL (vS step) x a).1 O' ∧ ∀ l sl off, L < l → l < lvl → O' ⟨l, sl, off⟩ = O ⟨l, sl, off⟩
theorem r81 {σ : Type} {H : FuncId → Option (List V → Option V)} {ok : Tm → Prop} {step : σ → Tm → Bool × σ} {m : Nat} (IH : C81 H ok step m)
    {n0 L lvl v2 ver n : Nat} {k : K} {q : Key} {Inv : σ → Bool → Heap → Prop} {O : Heap} (hY : YlG H n0 L q ver ok Inv step) (hI : LocI L Inv) (hL : L < lvl) {c1 : List Tm} (hc1 : szs c1 < m) (hcb : szs c1 ≤ 1000000) (hco : ∀ t ∈ c1, ok t) (hn : n0 + 3 * szs c1 + 5 ≤ n) {P : Option (Ex × St) → Prop} {s : St} {x1 : σ}
    (h2 : tget s.τ 2 = .ptr ⟨lvl, 2, 0⟩ v2 0 0) (h2' : lget s.L (2, 0) = some (v2, .var [.mref q ver])) (h22 : tget s.τ 22 = .fn (.func 66) [] [.iptr [Ts c1]]) (hinv : Inv x1 true s.O) (hS : ∀ l sl off, L < l → l < lvl → s.O ⟨l, sl, off⟩ = O ⟨l, sl, off⟩)
    (hx : ∀ s' : St, s'.τ = s.τ → lget s'.L (2, 0) = some (v2, .var [.mref q ver]) → Inv (visL (vS step) x1 c1).2 (visL (vS step) x1 c1).1 s'.O → (∀ l sl off, L < l → l < lvl → s'.O ⟨l, sl, off⟩ = O ⟨l, sl, off⟩) → P (X (A81 H lvl (n + 1)) (if (visL (vS step) x1 c1).1 = true then .norm else .ret) k s')) :
    P (R (A81 H lvl (n + 1)) (.rangeFunc (.tmp 22) #[23] as81 bd81) k s) := by
  have hyy := y81 (ver' := s.c) (O0 := O) hL hY hI h2
  have hloc : LocI lvl (InvL (⟨lvl, 30, 0⟩ : Key) s.c (lpOf (A81 H 0 0).E) s.τ [23] as81 bd81 (fun _ => .ret) (U81 L lvl v2 q ver Inv O)) := fun x b O O' e ⟨u0, u1, u2, u3⟩ =>
    ⟨(e lvl 30 0 (Nat.le_refl _)).trans u0, (e lvl 2 0 (Nat.le_refl _)).trans u1, hI _ _ _ _ (fun l sl off hl => e l sl off (by omega)) u2, fun l sl off h0 h1 => (e l sl off (by omega)).trans (u3 l sl off h0 h1)⟩
  have hin : InvL (⟨lvl, 30, 0⟩ : Key) s.c (lpOf (A81 H 0 0).E) s.τ [23] as81 bd81 (fun _ => .ret) (U81 L lvl v2 q ver Inv O) x1 true (heapOf lvl (lput s.L (30, 0) (s.c, .loop (lpOf (A81 H 0 0).E) s.τ [23] as81 bd81 .ready none)) s.O) := by
    refine ⟨?_, ?_, hI _ _ _ _ (fun l sl off hl => ?_) hinv, fun l sl off h0 h1 => ?_⟩
    · rw [heapOf_get, if_pos rfl, lget_lput, if_pos rfl]; rfl
    · rw [heapOf_get, if_pos rfl, lget_lput, if_neg (by simp), h2']
    · rw [heapOf_get, if_neg (by omega), if_pos (by omega)]
    · rw [heapOf_get, if_neg (by omega), if_pos h1]; exact hS l sl off h0 h1
  obtain ⟨c', O', q1, ⟨q2, q3⟩, _⟩ := IH c1 (n0 + 1) lvl ⟨lvl, 30, 0⟩ s.c _ (n + 1) (lvl + 1) (s.c + 1) _ x1 hc1 hcb hco rfl hyy hloc (by omega) (by omega) hin
  refine range_G (M := A81 H lvl (n + 1)) (g := 66) (caps := [.iptr [Ts c1]]) (b := (visL (vS step) x1 c1).1) (j := .ret) (e := if (visL (vS step) x1 c1).1 = true then .norm else .ret) (Inv := U81 L lvl v2 q ver Inv O (visL (vS step) x1 c1).2 (visL (vS step) x1 c1).1) h22 (show okL.contains 66 = true by decide) rfl ⟨c', O', q1, q2, q3⟩ (by cases (visL (vS step) x1 c1).1 <;> rfl) fun s' e ⟨u1, u2, u3⟩ hl => ?_
  exact hx s' e (hl 2 0 _ (by show 2 ≠ 30; omega) (.inl (by rw [h2']; rfl)) u1) u2 u3
theorem l81 {σ : Type} {H : FuncId → Option (List V → Option V)} (h25 : H 67 = some FisV) (h51 : H 36 = some F51) {ok : Tm → Prop} {step : σ → Tm → Bool × σ} (hok : ∀ k s c, ok (.mk k s c) → s.length ≤ 1000000000000000 ∧ ∀ u ∈ c, ok u) {m : Nat} (IH : C81 H ok step m)
    {n0 L lvl v2 ver n : Nat} {k : K} {q : Key} {Inv : σ → Bool → Heap → Prop} {O : Heap} (hq : q.lvl = L) (hY : YlG H n0 L q ver ok Inv step) (hI : LocI L Inv) (hL : L < lvl) (a : List Tm) (ha : szs a ≤ 1000000) (ham : szs a < m + 1) (hao : ∀ t ∈ a, ok t) (hn : n0 + 3 * szs a + 3 ≤ n) {res : Bool × σ} :
    ∀ r i x n' s, a.drop i = r → r.length < n' → tget s.τ 2 = .ptr ⟨lvl, 2, 0⟩ v2 0 0 → lget s.L (2, 0) = some (v2, .var [.mref q ver]) → tget s.τ 6 = Ts a → tget s.τ 7 = I a.length → tget s.τ 8 = I (i : Nat) → Inv x true s.O → (∀ l sl off, L < l → l < lvl → s.O ⟨l, sl, off⟩ = O ⟨l, sl, off⟩) →
    visL (vS step) x r = res → (∀ s' x', res = (true, x') → Inv x' true s'.O → (∀ l sl off, L < l → l < lvl → s'.O ⟨l, sl, off⟩ = O ⟨l, sl, off⟩) → Q81 L Inv lvl O res (X (A81 H lvl (n + 1)) (.exit 0) k s')) →
    (∀ s', Inv res.2 res.1 s'.O → (∀ l sl off, L < l → l < lvl → s'.O ⟨l, sl, off⟩ = O ⟨l, sl, off⟩) → Q81 L Inv lvl O res (some (.ret, s'))) →
    Q81 L Inv lvl O res (Go.Vi.L (A81 H lvl (n + 1)) (sub [1, 1, 0, 0] c781) n' k s)
  | [], i, x, n' + 1, s, hi, hn', h2, h2', h6, h7, h8, hinv, hS, hres, hx, hf => by
    have hc := inlt (drop_nil' hi)
    rw [L_succ]
    simp only [vmr, vmw, vmp, vza, ↓reduceIte, Nat.reduceBEq, Nat.reduceLT, Nat.reduceAdd, Nat.reduceEqDiff, reduceCtorEq, vmt, vzb, vzc, vlen, vleaf, velems, oks, vst, vmd, ty, Nat.reduceLeDiff, Nat.reduceMul, Nat.reduceSub, c781, Tryz.f66, a81, h6, h7, h8, hc]
    exact hx _ x hres.symm hinv hS
  | .mk k1 s1 c1 :: r, i, x, n' + 1, s, hi, hn', h2, h2', h6, h7, h8, hinv, hS, hres, hx, hf => by
    obtain ⟨g1, g2, g3⟩ := drop_cons hi
    have hcl := ilt g3
    have ga : (a.map tv)[i]? = some (.agg [I k1, .str s1, Ts c1]) := by rw [List.getElem?_map, g1, Option.map_some, tv_mk]
    have hsz := szs_mem (l := a) (List.mem_of_getElem? g1)
    have hok1 := hao _ (List.mem_of_getElem? g1)
    have hlen := szs_len a
    have w4 := wsuc g3 (by omega)
    obtain ⟨hs1, hok2⟩ := hok _ _ _ hok1
    have e := Ftm_eq (f := fun k _ => .bool (isV k)) k1 c1 hs1
    have e2 := F51_eq c1
    have ih := fun x s => l81 (k := k) (v2 := v2) (O := O) h25 h51 hok IH hq hY hI hL a ha ham hao hn (res := res) r (i + 1) x n' s g2 (by simp at hn'; omega)
    have r1 := fun x1 s k => r81 (v2 := v2) (n := n) (k := k) (O := O) (P := Q81 L Inv lvl O res) (s := s) (x1 := x1) IH hY hI hL (c1 := c1) (by omega) (by omega) hok2 (by omega)
    simp only [as81, bd81, rfA, sub, c781, Tryz.f66, gets] at r1 ih
    simp only [visL, visT, vS] at hres
    rw [L_succ]
    cases hv : isV k1 with
    | false =>
      rw [hv] at e hres
      simp only [Bool.false_eq_true, if_false] at hres
      simp only [vmr, vmw, vmp, vza, ↓reduceIte, Nat.reduceBEq, Nat.reduceLT, Nat.reduceAdd, Nat.reduceEqDiff, reduceCtorEq, vmt, vzb, vzc, vlen, vleaf, velems, oks, vst, vmd, ty, Nat.reduceLeDiff, Nat.reduceMul, Nat.reduceSub, callV_s2, c781, Tryz.f66, a81, h25, h51, h2, h2', h6, h7, h8, hcl, ga, e, e2]
      refine r1 x _ _ ?_ ?_ ?_ ?_ ?_ fun s' e' l2 hi2 hS2 => ?_
      case refine_6 =>
        generalize visL (vS step) x c1 = p at hres hi2 ⊢
        obtain ⟨b1, y1⟩ := p
        cases b1 with
        | false =>
          dsimp only at hres hi2
          subst hres
          simp only [vmr, vmw, vmp, vza, ↓reduceIte, Nat.reduceBEq, Nat.reduceLT, Nat.reduceAdd, Nat.reduceEqDiff, reduceCtorEq, vmt, vzb, vzc, vlen, vleaf, velems, oks, vst, vmd, ty, Nat.reduceLeDiff, Nat.reduceMul, Nat.reduceSub, a81, X_ret]
          exact hf _ hi2 hS2
        | true =>
          dsimp only at hres hi2
          simp only [vmr, vmw, vmp, vza, ↓reduceIte, Nat.reduceBEq, Nat.reduceLT, Nat.reduceAdd, Nat.reduceEqDiff, reduceCtorEq, vmt, vzb, vzc, vlen, vleaf, velems, oks, vst, vmd, ty, Nat.reduceLeDiff, Nat.reduceMul, Nat.reduceSub, a81, e', h8, w4]
          refine ih y1 _ ?_ ?_ ?_ ?_ ?_ ?_ ?_ hres hx hf
          case refine_6 => simp only [vmr, vmw, vmp, vza, ↓reduceIte, Nat.reduceBEq, Nat.reduceLT, Nat.reduceAdd, Nat.reduceEqDiff, reduceCtorEq, vmt, vzb, vzc, vlen, vleaf, velems, oks, vst, vmd, ty, Nat.reduceLeDiff, Nat.reduceMul, Nat.reduceSub, a81]; exact hi2
          case refine_7 => simp only [vmr, vmw, vmp, vza, ↓reduceIte, Nat.reduceBEq, Nat.reduceLT, Nat.reduceAdd, Nat.reduceEqDiff, reduceCtorEq, vmt, vzb, vzc, vlen, vleaf, velems, oks, vst, vmd, ty, Nat.reduceLeDiff, Nat.reduceMul, Nat.reduceSub, a81]; exact hS2
          all_goals simp only [vmr, vmw, vmp, vza, ↓reduceIte, Nat.reduceBEq, Nat.reduceLT, Nat.reduceAdd, Nat.reduceEqDiff, reduceCtorEq, vmt, vzb, vzc, vlen, vleaf, velems, oks, vst, vmd, ty, Nat.reduceLeDiff, Nat.reduceMul, Nat.reduceSub, a81, e', h2, l2, h6, h7]
      case refine_4 => simp only [vmr, vmw, vmp, vza, ↓reduceIte, Nat.reduceBEq, Nat.reduceLT, Nat.reduceAdd, Nat.reduceEqDiff, reduceCtorEq, vmt, vzb, vzc, vlen, vleaf, velems, oks, vst, vmd, ty, Nat.reduceLeDiff, Nat.reduceMul, Nat.reduceSub, a81]; exact hinv
      case refine_5 => simp only [vmr, vmw, vmp, vza, ↓reduceIte, Nat.reduceBEq, Nat.reduceLT, Nat.reduceAdd, Nat.reduceEqDiff, reduceCtorEq, vmt, vzb, vzc, vlen, vleaf, velems, oks, vst, vmd, ty, Nat.reduceLeDiff, Nat.reduceMul, Nat.reduceSub, a81]; exact hS
      all_goals simp only [vmr, vmw, vmp, vza, ↓reduceIte, Nat.reduceBEq, Nat.reduceLT, Nat.reduceAdd, Nat.reduceEqDiff, reduceCtorEq, vmt, vzb, vzc, vlen, vleaf, velems, oks, vst, vmd, ty, Nat.reduceLeDiff, Nat.reduceMul, Nat.reduceSub, a81, h2, h2']
    | true =>
      rw [hv] at e hres
      simp only [if_true] at hres
      have hyy := fun c O hO => hY (n) (lvl + 1) x (.mk k1 s1 c1) c O (by omega) (by omega) hok1 hO
      simp only [tv_mk] at hyy
      simp only [vmr, vmw, vmp, vza, ↓reduceIte, Nat.reduceBEq, Nat.reduceLT, Nat.reduceAdd, Nat.reduceEqDiff, reduceCtorEq, vmt, vzb, vzc, vlen, vleaf, velems, oks, vst, vmd, ty, Nat.reduceLeDiff, Nat.reduceMul, Nat.reduceSub, callV_s2, c781, Tryz.f66, a81, h25, h51, h2, h2', h6, h7, h8, hcl, ga, e, e2]
      refine yield_atG (L := L) rfl (show 17 < 29 by omega) (hyy _ _ (hI _ _ s.O _ (fun l sl off hl => ?_) hinv)) hL fun L' O3 c3 hL3 hi3 ho3 => ?_
      · rw [heap_lw (m := lvl) rfl (by omega)]
      have hS3 : ∀ l sl off, L < l → l < lvl → O3 ⟨l, sl, off⟩ = O ⟨l, sl, off⟩ := fun l sl off h0 h1 => (ho3 l sl off h0 h1).trans (hS l sl off h0 h1)
      have l2 := hL3 2 0 (v2, .var [.mref q ver]) (by simp only [vmr, vmw, vmp, vza, ↓reduceIte, Nat.reduceBEq, Nat.reduceLT, Nat.reduceAdd, Nat.reduceEqDiff, reduceCtorEq, vmt, vzb, vzc, vlen, vleaf, velems, oks, vst, vmd, ty, Nat.reduceLeDiff, Nat.reduceMul, Nat.reduceSub, a81, h2'])
      have l4 := hL3 4 0 (s.c, .var [I k1, .str s1, Ts c1]) (by simp only [vmr, vmw, vmp, vza, ↓reduceIte, Nat.reduceBEq, Nat.reduceLT, Nat.reduceAdd, Nat.reduceEqDiff, reduceCtorEq, vmt, vzb, vzc, vlen, vleaf, velems, oks, vst, vmd, ty, Nat.reduceLeDiff, Nat.reduceMul, Nat.reduceSub, a81])
      clear hL3 ho3 hyy
      generalize step x (.mk k1 s1 c1) = st at hres hi3 ⊢
      obtain ⟨b0, x0⟩ := st
      cases b0 with
      | false =>
        dsimp only at hres hi3
        subst hres
        simp only [vmr, vmw, vmp, vza, ↓reduceIte, Nat.reduceBEq, Nat.reduceLT, Nat.reduceAdd, Nat.reduceEqDiff, reduceCtorEq, vmt, vzb, vzc, vlen, vleaf, velems, oks, vst, vmd, ty, Nat.reduceLeDiff, Nat.reduceMul, Nat.reduceSub, a81, h25, h51, e]
        exact hf _ hi3 hS3
      | true =>
        dsimp only at hres hi3
        simp only [vmr, vmw, vmp, vza, ↓reduceIte, Nat.reduceBEq, Nat.reduceLT, Nat.reduceAdd, Nat.reduceEqDiff, reduceCtorEq, vmt, vzb, vzc, vlen, vleaf, velems, oks, vst, vmd, ty, Nat.reduceLeDiff, Nat.reduceMul, Nat.reduceSub, callV_s2, a81, h25, h51, h2, h6, h7, h8, l2, l4, e, e2]
        refine r1 x0 _ _ ?_ ?_ ?_ ?_ ?_ fun s' e' l2' hi2 hS2 => ?_
        case refine_6 =>
          generalize visL (vS step) x0 c1 = p at hres hi2 ⊢
          obtain ⟨b1, y1⟩ := p
          cases b1 with
          | false =>
            dsimp only at hres hi2
            subst hres
            simp only [vmr, vmw, vmp, vza, ↓reduceIte, Nat.reduceBEq, Nat.reduceLT, Nat.reduceAdd, Nat.reduceEqDiff, reduceCtorEq, vmt, vzb, vzc, vlen, vleaf, velems, oks, vst, vmd, ty, Nat.reduceLeDiff, Nat.reduceMul, Nat.reduceSub, a81, X_ret]
            exact hf _ hi2 hS2
          | true =>
            dsimp only at hres hi2
            simp only [vmr, vmw, vmp, vza, ↓reduceIte, Nat.reduceBEq, Nat.reduceLT, Nat.reduceAdd, Nat.reduceEqDiff, reduceCtorEq, vmt, vzb, vzc, vlen, vleaf, velems, oks, vst, vmd, ty, Nat.reduceLeDiff, Nat.reduceMul, Nat.reduceSub, a81, e', h8, w4]
            refine ih y1 _ ?_ ?_ ?_ ?_ ?_ ?_ ?_ hres hx hf
            case refine_6 => simp only [vmr, vmw, vmp, vza, ↓reduceIte, Nat.reduceBEq, Nat.reduceLT, Nat.reduceAdd, Nat.reduceEqDiff, reduceCtorEq, vmt, vzb, vzc, vlen, vleaf, velems, oks, vst, vmd, ty, Nat.reduceLeDiff, Nat.reduceMul, Nat.reduceSub, a81]; exact hi2
            case refine_7 => simp only [vmr, vmw, vmp, vza, ↓reduceIte, Nat.reduceBEq, Nat.reduceLT, Nat.reduceAdd, Nat.reduceEqDiff, reduceCtorEq, vmt, vzb, vzc, vlen, vleaf, velems, oks, vst, vmd, ty, Nat.reduceLeDiff, Nat.reduceMul, Nat.reduceSub, a81]; exact hS2
            all_goals simp only [vmr, vmw, vmp, vza, ↓reduceIte, Nat.reduceBEq, Nat.reduceLT, Nat.reduceAdd, Nat.reduceEqDiff, reduceCtorEq, vmt, vzb, vzc, vlen, vleaf, velems, oks, vst, vmd, ty, Nat.reduceLeDiff, Nat.reduceMul, Nat.reduceSub, a81, e', h2, l2', h6, h7]
        case refine_4 => simp only [vmr, vmw, vmp, vza, ↓reduceIte, Nat.reduceBEq, Nat.reduceLT, Nat.reduceAdd, Nat.reduceEqDiff, reduceCtorEq, vmt, vzb, vzc, vlen, vleaf, velems, oks, vst, vmd, ty, Nat.reduceLeDiff, Nat.reduceMul, Nat.reduceSub, a81]; exact hi3
        case refine_5 => simp only [vmr, vmw, vmp, vza, ↓reduceIte, Nat.reduceBEq, Nat.reduceLT, Nat.reduceAdd, Nat.reduceEqDiff, reduceCtorEq, vmt, vzb, vzc, vlen, vleaf, velems, oks, vst, vmd, ty, Nat.reduceLeDiff, Nat.reduceMul, Nat.reduceSub, a81]; exact hS3
        all_goals simp only [vmr, vmw, vmp, vza, ↓reduceIte, Nat.reduceBEq, Nat.reduceLT, Nat.reduceAdd, Nat.reduceEqDiff, reduceCtorEq, vmt, vzb, vzc, vlen, vleaf, velems, oks, vst, vmd, ty, Nat.reduceLeDiff, Nat.reduceMul, Nat.reduceSub, a81, h2, l2]
theorem c81 {σ : Type} {H : FuncId → Option (List V → Option V)} (h25 : H 67 = some FisV) (h51 : H 36 = some F51) {ok : Tm → Prop} {step : σ → Tm → Bool × σ} (hok : ∀ k s c, ok (.mk k s c) → s.length ≤ 1000000000000000 ∧ ∀ u ∈ c, ok u) : ∀ m, C81 H ok step m
  | 0 => fun a n0 L q ver Inv n lvl c O x h => by omega
  | m + 1 => fun a n0 L q ver Inv n lvl c O x hsz ha hao hq hY hI hn hL hinv => by
    obtain ⟨n, rfl⟩ : ∃ n', n = n' + 2 := ⟨n - 2, by omega⟩
    have hq1 : (q.lvl = lvl) = False := eq_false (by omega)
    have hlen := szs_len a
    have key : Q81 L Inv lvl O (visL (vS step) x a) (R (A81 H lvl (n + 1)) c781 .top ⟨params 0 [.mref q ver, .iptr [Ts a]], [], O, c⟩) := by
      have a1 := fun k s => l81 (k := k) (v2 := c) (O := O) (n := n) h25 h51 hok (c81 h25 h51 hok m) hq hY hI hL a ha hsz hao (by omega) (res := visL (vS step) x a) a 0 x (n + 1) s rfl (by omega)
      simp only [sub, c781, Tryz.f66, gets] at a1
      simp only [vmr, vmw, vmp, vza, ↓reduceIte, Nat.reduceBEq, Nat.reduceLT, Nat.reduceAdd, Nat.reduceEqDiff, reduceCtorEq, vmt, vzb, vzc, vlen, vleaf, velems, oks, vst, vmd, ty, Nat.reduceLeDiff, Nat.reduceMul, Nat.reduceSub, c781, Tryz.f66, a81, hq1, false_and, if_false]
      refine a1 _ _ ?_ ?_ ?_ ?_ ?_ ?_ ?_ trivial (fun s' x' e hi hS => ?_) (fun s' hi hS => ⟨_, s', rfl, .inr rfl, hi, hS⟩)
      case refine_8 =>
        rw [e]
        simp only [vmr, vmw, vmp, vza, ↓reduceIte, Nat.reduceBEq, Nat.reduceLT, Nat.reduceAdd, Nat.reduceEqDiff, reduceCtorEq, vmt, vzb, vzc, vlen, vleaf, velems, oks, vst, vmd, ty, Nat.reduceLeDiff, Nat.reduceMul, Nat.reduceSub, a81, X_top]
        exact ⟨_, _, rfl, .inl rfl, hi, hS⟩
      case refine_6 => simp only [vmr, vmw, vmp, vza, ↓reduceIte, Nat.reduceBEq, Nat.reduceLT, Nat.reduceAdd, Nat.reduceEqDiff, reduceCtorEq, vmt, vzb, vzc, vlen, vleaf, velems, oks, vst, vmd, ty, Nat.reduceLeDiff, Nat.reduceMul, Nat.reduceSub, a81]; exact hinv
      case refine_7 => exact fun l sl off _ _ => by simp only [vmr, vmw, vmp, vza, ↓reduceIte, Nat.reduceBEq, Nat.reduceLT, Nat.reduceAdd, Nat.reduceEqDiff, reduceCtorEq, vmt, vzb, vzc, vlen, vleaf, velems, oks, vst, vmd, ty, Nat.reduceLeDiff, Nat.reduceMul, Nat.reduceSub, a81]
      all_goals simp only [vmr, vmw, vmp, vza, ↓reduceIte, Nat.reduceBEq, Nat.reduceLT, Nat.reduceAdd, Nat.reduceEqDiff, reduceCtorEq, vmt, vzb, vzc, vlen, vleaf, velems, oks, vst, vmd, ty, Nat.reduceLeDiff, Nat.reduceMul, Nat.reduceSub, a81]
    obtain ⟨e, s', hr, he, hi, hS⟩ := key
    refine ⟨_, _, evF_at (C := Cx H) (n := n + 1) (fn := Tryz.f66) (b := c781) (s' := s') Tryz.func66 rfl (show 2 ≤ 29 by omega) rfl (by rcases he with rfl | rfl; exact .inl hr; exact .inr hr), hI _ _ s'.O _ (fun l sl off hl => by rw [lower_get, if_pos (by omega)]) hi, fun l sl off h0 h1 => by rw [lower_get, if_pos h1]; exact hS l sl off h0 h1⟩
end Go.Vi
set_option maxRecDepth 100000
set_option maxHeartbeats 1000000
namespace Go.Vi
open Go Go.Proofs

abbrev Us := List (List UInt8 × Nat)
/-- One occurrence more. -/
def addU : Us → List UInt8 → Us
  | [], x => [(x, 1)]
  | (y, t) :: r, x => if y = x then (y, t + 1) :: r else (y, t) :: addU r x
def usS (w : Us) : Tm → Bool × Us
  | .mk k s _ => (true, addU w (nameP k s))
def kvI : Us → Nat → List (V × V)
  | [], _ => []
  | (x, _) :: r, i => (.str x, I i) :: kvI r (i + 1)
def useV (p : List UInt8 × Nat) : V := .agg [.str p.1, I (IntKind.i64.wrap p.2)]
abbrev nmU (w : Us) : List (List UInt8) := w.map (·.1)
theorem kvI_find (x : List UInt8) : ∀ (w : Us) (i j : Nat), mfind (.str x) (kvI w i) j = if x ∈ nmU w then some (some (j + ixW x (nmU w), I ((i + ixW x (nmU w) : Nat) : Int))) else some none
  | [], i, j => by simp [kvI, mfind]
  | (y, t) :: r, i, j => by
    simp only [kvI, mfind, keyEq_str, nmU, List.map_cons, ixW]
    by_cases q : y = x
    · subst q; simp
    · have hq : (x == y) = false := by simpa using fun e : x = y => q e.symm
      rw [hq]
      dsimp only
      rw [if_neg q, kvI_find x r (i + 1) (j + 1)]
      by_cases h : x ∈ nmU r
      · rw [if_pos h, if_pos (List.mem_cons_of_mem _ h), show j + 1 + ixW x (nmU r) = j + (ixW x (nmU r) + 1) by omega, show i + 1 + ixW x (nmU r) = i + (ixW x (nmU r) + 1) by omega]
      · rw [if_neg h, if_neg (fun hm => (List.mem_cons.1 hm).elim (fun e => q e.symm) h)]
theorem addU_new : ∀ {w : Us} {x}, x ∉ nmU w → addU w x = w ++ [(x, 1)]
  | [], x, h => rfl
  | (y, t) :: r, x, h => by
    simp only [nmU, List.map_cons, List.mem_cons, not_or] at h
    rw [addU, if_neg (fun e => h.1 e.symm), addU_new h.2]; rfl
theorem addU_old : ∀ {w : Us} {x}, x ∈ nmU w → ∃ t, w[ixW x (nmU w)]? = some (x, t) ∧ addU w x = w.set (ixW x (nmU w)) (x, t + 1)
  | (y, t) :: r, x, h => by
    simp only [nmU, List.map_cons, ixW]
    by_cases q : y = x
    · subst q; exact ⟨t, by simp, by simp [addU]⟩
    · obtain ⟨t', h1, h2⟩ := addU_old ((List.mem_cons.1 h).resolve_left (fun e => q e.symm))
      exact ⟨t', by rw [if_neg q]; simpa using h1, by rw [addU, if_neg q, if_neg q, h2]; rfl⟩
theorem kvI_app : ∀ (w : Us) (i : Nat) (p : List UInt8 × Nat), kvI (w ++ [p]) i = kvI w i ++ [(.str p.1, I ((i + w.length : Nat) : Int))]
  | [], i, p => rfl
  | (y, t) :: r, i, p => by
    simp only [List.cons_append, kvI, kvI_app r (i + 1) p, List.length_cons]
    rw [show i + 1 + r.length = i + (r.length + 1) by omega]
theorem kvI_set : ∀ (w : Us) (i j : Nat) (x t t'), w[j]? = some (x, t) → kvI (w.set j (x, t')) i = kvI w i
  | (y, u) :: r, i, 0, x, t, t', h => by
    have : (y, u) = (x, t) := by simpa using h
    injection this with e1 e2
    subst e1
    rfl
  | (y, u) :: r, i, j + 1, x, t, t', h => by
    simp only [List.set_cons_succ, kvI, kvI_set r (i + 1) j x t t' (by simpa using h)]
theorem nmU_set (w : Us) (j : Nat) (x t t') (h : w[j]? = some (x, t)) : nmU (w.set j (x, t')) = nmU w := by
  unfold nmU
  rw [List.map_set]
  apply List.ext_getElem?
  intro n
  rw [List.getElem?_set]
  split
  · rename_i e
    subst e
    rw [List.getElem?_map, h]
    split
    · rfl
    · rename_i q; exact absurd (List.getElem?_eq_some_iff.1 h).1 (by simpa using q)
  · rfl
def rowU (O : Heap) (w : Us) (row : V) : Prop := (w = [] ∧ row = .nilS) ∨ ∃ vr, row = .ref ⟨0, 4, 1⟩ vr 0 w.length ∧ O ⟨0, 4, 1⟩ = some (vr, .arr 2 (w.map useV))
def U23 (N : List (List UInt8)) (v3 v4 vm : Nat) (w : Us) (b : Bool) (O : Heap) : Prop :=
  (∃ row, O ⟨0, 4, 0⟩ = some (v4, .var [row]) ∧ rowU O w row) ∧ O ⟨0, 3, 0⟩ = some (v3, .var [.mref ⟨0, 3, 1⟩ vm]) ∧ O ⟨0, 3, 1⟩ = some (vm, .map (kvI w 0)) ∧ (nmU w).Nodup ∧ ∀ y ∈ nmU w, y ∈ N
theorem U23.of {N : List (List UInt8)} {v3 v4 vm : Nat} {w : Us} {b : Bool} {O : Heap} (h1 : O ⟨0, 4, 0⟩ = some (v4, .var [.ref ⟨0, 4, 1⟩ (verO O ⟨0, 4, 1⟩) 0 w.length])) (h2 : O ⟨0, 4, 1⟩ = some (verO O ⟨0, 4, 1⟩, .arr 2 (w.map useV)))
    (h3 : O ⟨0, 3, 0⟩ = some (v3, .var [.mref ⟨0, 3, 1⟩ vm])) (h4 : O ⟨0, 3, 1⟩ = some (vm, .map (kvI w 0))) (h5 : (nmU w).Nodup ∧ ∀ y ∈ nmU w, y ∈ N) : U23 N v3 v4 vm w b O := ⟨⟨_, h1, .inr ⟨_, rfl, h2⟩⟩, h3, h4, h5⟩
theorem U23.cong {N : List (List UInt8)} {v3 v4 vm : Nat} {w : Us} {b : Bool} {O O' : Heap} (e : ∀ sl off, sl < 43 → O' ⟨0, sl, off⟩ = O ⟨0, sl, off⟩) : U23 N v3 v4 vm w b O → U23 N v3 v4 vm w b O' := fun ⟨⟨row, h1, h2⟩, h3, h4, h5⟩ => ⟨⟨row, (e 4 0 (by omega)).trans h1, by
  rcases h2 with h2 | ⟨vr, h2, h3⟩
  · exact .inl h2
  · exact .inr ⟨vr, h2, (e 4 1 (by omega)).trans h3⟩⟩, (e 3 0 (by omega)).trans h3, (e 3 1 (by omega)).trans h4, h5⟩
noncomputable abbrev T723 : List (FuncId × (List V → Option V)) := [(67, FisV), (36, F51), (37, FnameP)]
noncomputable abbrev B23 (lvl n : Nat) : Mc := mcRd (Cx (hand T723)) (lpOf (M723 (hand T723) 0).E) lvl n
theorem b23 (lvl n) : (B23 lvl n).E.keep = [0, 2, 3, 4, 5, 6, 7, 8, 11, 12, 22] ∧ (B23 lvl n).E.cnd = [22] ∧ (B23 lvl n).E.frz = [6, 7, 8] ∧ (B23 lvl n).E.pro = [] ∧ (B23 lvl n).E.imp = [] ∧ (B23 lvl n).E.n = 42 ∧ (B23 lvl n).E.lvl = lvl ∧ (B23 lvl n).E.P = Tryz.prog ∧ (B23 lvl n).fuel = n ∧ (B23 lvl n).C = hand T723 ∧ (B23 lvl n).E.ok = okL := ⟨rfl, rfl, rfl, rfl, rfl, rfl, rfl, rfl, rfl, rfl, rfl⟩
noncomputable abbrev as23 : Code := (rfA (sub [1, 1, 1, 0, 1, 0] c723)).1
noncomputable abbrev bd23 : Code := (rfA (sub [1, 1, 1, 0, 1, 0] c723)).2
noncomputable abbrev lp23 : Lp := lpOf (M723 (hand T723) 0).E
theorem room53 {n : Nat} (h : n ≤ 2000000) : roomOk Tryz.prog 33 n = true := by simp [roomOk, ty, cellsV, leafV]; omega
theorem fits53 (x : List UInt8) (n : Int) : fitsE Tryz.prog 33 (.agg [.str x, I n]) = true := by simp [fitsE, ty, leafV]
theorem y23 {N : List (List UInt8)} (hN : N.length ≤ 1000000) {v3 v4 vm ver : Nat} {τ : List (Nat × V)} (h3 : tget τ 3 = .ptr ⟨0, 3, 0⟩ v3 0 0) (h4 : tget τ 4 = .ptr ⟨0, 4, 0⟩ v4 0 0) :
    YlG (hand T723) 0 0 ⟨0, 43, 0⟩ ver (ok27 N) (InvL ⟨0, 43, 0⟩ ver lp23 τ [12] as23 bd23 (fun _ => .ret) (U23 N v3 v4 vm)) usS := by
  refine yields_ofG rfl ⟨rfl, by decide, by decide⟩ (fun x b O O' e => U23.cong fun sl off hs => e 0 sl off (Nat.le_refl _) (by simp; omega)) ?_
  intro n lvl x t c O hn hlv hok ⟨⟨row, u1, u2⟩, u3, u4, u5⟩
  obtain ⟨k1, s1, c1⟩ := t
  obtain ⟨hok, hnm⟩ := hok
  simp only [txt1] at hok
  have hin : nameP k1 s1 ∈ N := hnm _ (by simp [nmT])
  have u5l := sub_len (nmU x) N u5.1 u5.2
  have e := Ftm_eq (f := fun k s => .str (nameP k s)) k1 c1 hok.1
  have lv0 := eq_true (show 0 < lvl by omega)
  rw [tv_mk]
  have hA : ∃ s : St, R (mcRd (Cx (hand T723)) lp23 lvl n) as23 .top ⟨setPs τ [12] [.agg [I k1, .str s1, Ts c1]], [], O, c⟩ = some (.norm, s) ∧ s.O = O ∧ tget s.τ 3 = .ptr ⟨0, 3, 0⟩ v3 0 0 ∧ tget s.τ 4 = .ptr ⟨0, 4, 0⟩ v4 0 0 ∧ tget s.τ 5 = .ptr ⟨lvl, 5, 0⟩ c 0 0 ∧ lget s.L (5, 0) = some (c, .var [I k1, .str s1, Ts c1]) := by
    simp only [as23, rfA, sub, c723, Tryz.f11, gets]
    change ∃ s : St, R (B23 lvl n) _ _ _ = _ ∧ _
    simp only [vmr, vmw, vmp, vza, ↓reduceIte, Nat.reduceBEq, Nat.reduceLT, Nat.reduceAdd, Nat.reduceEqDiff, reduceCtorEq, vmt, vzb, vzc, vlen, vleaf, velems, oks, vst, vmd, ty, Nat.reduceLeDiff, Nat.reduceMul, Nat.reduceSub, b23, setPs, X_top]
    refine ⟨_, rfl, rfl, ?_, ?_, ?_, ?_⟩
    all_goals simp only [vmr, vmw, vmp, vza, ↓reduceIte, Nat.reduceBEq, Nat.reduceLT, Nat.reduceAdd, Nat.reduceEqDiff, reduceCtorEq, vmt, vzb, vzc, vlen, vleaf, velems, oks, vst, vmd, ty, Nat.reduceLeDiff, Nat.reduceMul, Nat.reduceSub, b23, h3, h4]
  obtain ⟨s, hr, hO, t3, t4, t5, l5⟩ := hA
  refine ⟨s, hr, hO, fun O2 ho hq => ?_⟩
  have g1 := (ho ⟨0, 4, 0⟩ (by simp)).trans u1
  have g2 := (ho ⟨0, 3, 0⟩ (by simp)).trans u3
  have g3 := (ho ⟨0, 3, 1⟩ (by simp)).trans u4
  have g4 := ho ⟨0, 4, 1⟩ (by simp)
  generalize Obj.loop lp23 τ [12] as23 bd23 .busy none = ob at hq ⊢
  simp only [bd23, rfA, sub, c723, Tryz.f11, gets]
  change BodyG _ _ _ _ _ _ _ _ _ (R (B23 lvl n) _ _ _)
  simp only [usS]
  have kok : keyOk Tryz.prog 9 (.str (nameP k1 s1)) = true := by kernel_rfl
  have hf := kvI_find (nameP k1 s1) x 0 0
  by_cases q : nameP k1 s1 ∈ nmU x
  · rw [if_pos q, Nat.zero_add] at hf
    obtain ⟨t, a1, a2⟩ := addU_old q
    obtain ⟨i1, _⟩ := ix_mem q
    rw [List.length_map] at i1
    rcases u2 with ⟨rfl, _⟩ | ⟨vr, rfl, hO2⟩
    · cases q
    have g5 := g4.trans hO2
    have a3 : (x.map useV)[ixW (nameP k1 s1) (nmU x)]? = some (.agg [.str (nameP k1 s1), I (IntKind.i64.wrap t)]) := by rw [List.getElem?_map, a1]; rfl
    have a4 : (((ixW (nameP k1 s1) (nmU x) : Nat) : Int) < (x.length : Int)) = True := eq_true (by omega)
    simp only [vmr, vmw, vmp, vza, ↓reduceIte, Nat.reduceBEq, Nat.reduceLT, Nat.reduceAdd, Nat.reduceEqDiff, reduceCtorEq, vmt, vzb, vzc, vlen, vleaf, velems, oks, vst, vmd, ty, Nat.reduceLeDiff, Nat.reduceMul, Nat.reduceSub, b23, t3, t4, t5, l5, g1, g2, g3, g5, obj_lo, put_lo, oput_get, key_eq, lv0, e, X_top, kok, mapGet, hf, a3, a4, wrap_suc]
    refine ⟨_, _, rfl, rfl, ?_, U23.of ?_ ?_ ?_ ?_ ?_, fun l sl off h0 hl => ?_⟩
    case refine_6 =>
      rw [a2, nmU_set _ _ _ _ _ a1]
      exact u5
    case refine_5 =>
      rw [a2, kvI_set _ _ _ _ _ _ a1]
      simp [oput_get, key_eq, g3]
    case refine_3 =>
      simp [verO, oput_get, key_eq, a2, List.map_set, useV]
    case refine_2 =>
      simp [verO, oput_get, key_eq, a2, g1]
    all_goals simp [oput_get, key_eq, hq, g2]
    have hl0 : l ≠ 0 := by omega
    simp [hl0]
  · rw [if_neg q] at hf
    have hp : mput (.str (nameP k1 s1)) (I x.length) (kvI x 0) = some (kvI x 0 ++ [(.str (nameP k1 s1), I x.length)]) := by
      unfold mput
      rw [hf]
    have r1 := @room53 1 (by omega)
    have r2 := @room53 (x.length + 1) (by simp only [nmU, List.length_map] at u5l; omega)
    have f1 := fits53 (nameP k1 s1) 0
    have a2 := addU_new q
    have a3 : (x.map useV ++ [V.agg [.str (nameP k1 s1), I 0]])[x.length]? = some (V.agg [.str (nameP k1 s1), I 0]) := by
      rw [List.getElem?_append_right (by simp)]; simp
    have a4 : ((x.length : Int) < (((x.map useV ++ [V.agg [.str (nameP k1 s1), I 0]]).length : Nat) : Int)) = True := eq_true (by simp; omega)
    have w0 : IntKind.i64.wrap (0 + 1) = 1 := rfl
    have w1 : IntKind.i64.wrap 1 = 1 := rfl
    have z01 : ((0 : Int) < 1) = True := eq_true (by omega)
    have uN : (nmU (x ++ [(nameP k1 s1, 1)])).Nodup ∧ ∀ y ∈ nmU (x ++ [(nameP k1 s1, 1)]), y ∈ N := by
      simp only [nmU, List.map_append, List.map_cons, List.map_nil]
      refine ⟨List.nodup_append.2 ⟨u5.1, by simp, ?_⟩, fun y hy => ?_⟩
      · rintro y hy z hz rfl
        rw [List.mem_singleton] at hz
        exact q (hz ▸ hy)
      · rcases List.mem_append.1 hy with hy | hy
        · exact u5.2 y hy
        · rw [List.mem_singleton] at hy; exact hy ▸ hin
    rcases u2 with ⟨rfl, rfl⟩ | ⟨vr, rfl, hO2⟩
    · have hp0 : mput (.str (nameP k1 s1)) (I 0) (kvI [] 0) = some [(.str (nameP k1 s1), I 0)] := rfl
      simp only [vmr, vmw, vmp, vza, ↓reduceIte, Nat.reduceBEq, Nat.reduceLT, Nat.reduceAdd, Nat.reduceEqDiff, reduceCtorEq, vmt, vzb, vzc, vlen, vleaf, velems, oks, vst, vmd, ty, Nat.reduceLeDiff, Nat.reduceMul, Nat.reduceSub, hp0, z01, b23, t3, t4, t5, l5, g1, g2, g3, obj_lo, put_lo, del_lo, odel_get, oput_get, key_eq, lv0, e, X_top, kok, mapGet, mapPut, hf, hp, r1, r2, f1, a3, a4, w0, List.map_cons, List.map_nil]
      refine ⟨_, _, rfl, rfl, ?_, U23.of ?_ ?_ ?_ ?_ ?_, fun l sl off h0 hl => ?_⟩
      case refine_6 =>
        rw [a2]
        exact uN
      case refine_5 =>
        rw [a2, kvI_app]
        simp [oput_get, key_eq, g3, odel_get, kvI]
      case refine_3 =>
        simp [verO, oput_get, odel_get, key_eq, a2, useV, w1]
      case refine_2 =>
        simp [verO, oput_get, odel_get, key_eq, a2, g1]
      all_goals simp [oput_get, odel_get, key_eq, hq, g2]
      have hl0 : l ≠ 0 := by omega
      simp [hl0]
    · have g5 := g4.trans hO2
      simp only [vmr, vmw, vmp, vza, ↓reduceIte, Nat.reduceBEq, Nat.reduceLT, Nat.reduceAdd, Nat.reduceEqDiff, reduceCtorEq, vmt, vzb, vzc, vlen, vleaf, velems, oks, vst, vmd, ty, Nat.reduceLeDiff, Nat.reduceMul, Nat.reduceSub, b23, t3, t4, t5, l5, g1, g2, g3, g5, obj_lo, put_lo, del_lo, odel_get, oput_get, key_eq, lv0, e, X_top, kok, mapGet, mapPut, hf, hp, r1, r2, f1, a3, a4, w0, List.map_cons, List.map_nil]
      refine ⟨_, _, rfl, rfl, ?_, U23.of ?_ ?_ ?_ ?_ ?_, fun l sl off h0 hl => ?_⟩
      case refine_6 =>
        rw [a2]
        exact uN
      case refine_5 =>
        rw [a2, kvI_app]
        simp [oput_get, key_eq, g3, odel_get, kvI]
      case refine_3 =>
        simp [verO, oput_get, odel_get, key_eq, a2, useV, w1]
      case refine_2 =>
        simp [verO, oput_get, odel_get, key_eq, a2, g1]
      all_goals simp [oput_get, odel_get, key_eq, hq, g2]
      have hl0 : l ≠ 0 := by omega
      simp [hl0]
end Go.Vi
set_option maxRecDepth 100000
set_option maxHeartbeats 1000000
namespace Go.Vi
open Go Go.Proofs

/-- How often each variable occurs. -/
def usL (a : List Tm) : Us := (visL (vS usS) [] a).2
mutual
theorem us_T : ∀ (t : Tm) (w : Us), (visT (vS usS) w t).1 = true
  | .mk k s c, w => by
    simp only [visT, vS]
    split
    · rename_i h; split at h
      · simp only [usS] at h; injection h with _ h; exact us_L c _
      · injection h with _ h; exact us_L c _
    · rename_i h; split at h
      · simp [usS] at h
      · simp at h
theorem us_L : ∀ (l : List Tm) (w : Us), (visL (vS usS) w l).1 = true
  | [], w => rfl
  | t :: r, w => by
    simp only [visL]
    have := us_T t w
    revert this
    generalize visT (vS usS) w t = q
    obtain ⟨b, x⟩ := q
    intro h
    dsimp only at h
    subst h
    exact us_L r x
end
def totU (w : Us) : Nat := (w.map (·.2)).sum
theorem totU_add : ∀ (w : Us) x, totU (addU w x) = totU w + 1
  | [], x => rfl
  | (y, t) :: r, x => by
    have := totU_add r x
    simp only [addU, totU] at this ⊢
    split
    · simp; omega
    · simp only [List.map_cons, List.sum_cons, this]; omega
theorem totU_mem {w : Us} {p} (h : p ∈ w) : p.2 ≤ totU w := by
  unfold totU
  induction w with
  | nil => cases h
  | cons q r ih =>
    simp only [List.map_cons, List.sum_cons]
    rcases List.mem_cons.1 h with rfl | h
    · omega
    · have := ih h; omega
mutual
theorem tot_T : ∀ (t : Tm) (w : Us), totU (visT (vS usS) w t).2 ≤ totU w + szt t
  | .mk k s c, w => by
    rw [szt]
    by_cases h : isV k = true
    · have := tot_L c (addU w (nameP k s))
      rw [totU_add] at this
      simp only [visT, vS, h, if_true, usS]
      omega
    · have := tot_L c w
      simp only [visT, vS, h, if_false]
      simp only [Bool.false_eq_true, if_false]
      omega
theorem tot_L : ∀ (l : List Tm) (w : Us), totU (visL (vS usS) w l).2 ≤ totU w + szs l
  | [], w => Nat.le_refl _
  | t :: r, w => by
    have h1 := tot_T t w
    have h2 := us_T t w
    simp only [visL, szs]
    revert h1 h2
    generalize visT (vS usS) w t = q
    obtain ⟨b, x⟩ := q
    intro h1 h2
    dsimp only at h1 h2
    subst h2
    have := tot_L r x
    dsimp only
    omega
end
theorem tot_us (a : List Tm) : totU (usL a) ≤ szs a := by have := tot_L a []; simpa [totU, usL] using this
def useP (p : List UInt8 × Nat) : V := .agg [.str p.1, I p.2]
abbrev UsV (w : Us) : V := .lst (w.map useP)
theorem useV_P {w : Us} (h : totU w ≤ 1000000) : w.map useV = w.map useP := List.map_congr_left fun p hp => by
  have := totU_mem hp
  unfold useV useP
  rw [wrap_id] <;> omega
theorem cans_useP (w : Us) : cans (w.map useP) = w.map useP := by
  rw [cans_map, List.map_map]
  exact List.map_congr_left fun p _ => rfl
theorem pureUs : ∀ w : Us, pureRL (w.map useP) = true
  | [] => rfl
  | p :: r => by simp only [List.map_cons, pureRL, useP, pureR, pureUs r, Bool.and_self]
theorem h723 : SoundHand Tryz.prog (hand T723) := sound_cons F25_sound <| sound_cons F51_sound <| sound_cons F52_sound sound_nil
def Fi23 (n : Nat) (v : V) (r : Option (Ex × St)) : Prop := Fin (M723 (hand T723) n) [.tmp 2] r = some (.ret v)
theorem w23 (a : List Tm) (hb : szs a ≤ 1000000) (ho : txs a) : SoundPure Tryz.prog 11 [Ts a] (.ret (UsV (usL a))) := by
  let Po : Option (Ex × St) → Prop := fun r => ∃ v, pureR v = true ∧ can (imm v) = UsV (usL a) ∧ Fi23 (3 * szs a + 10) v r
  have hN : (nmL a).length ≤ 1000000 := by rw [nmL_len]; exact hb
  have key : Po (R (M723 (hand T723) (3 * szs a + 10)) c723 .top ⟨params 0 [Ts a], [], fun _ => none, 0⟩) := by
    have e1 := F51_eq a
    simp only [c723, Tryz.f11, gets]
    simp only [vmr, vmw, vmp, vza, ↓reduceIte, Nat.reduceBEq, Nat.reduceLT, Nat.reduceAdd, Nat.reduceEqDiff, reduceCtorEq, vmt, vzb, vzc, vlen, vleaf, velems, oks, vst, vmd, ty, Nat.reduceLeDiff, Nat.reduceMul, Nat.reduceSub, m723, e1, newMap]
    have hc : ∀ s : St, tget s.τ 3 = .ptr ⟨0, 3, 0⟩ 1 0 0 → tget s.τ 4 = .ptr ⟨0, 4, 0⟩ 3 0 0 → lget s.L (3, 0) = some (1, .var [.mref ⟨0, 3, 1⟩ 2]) → lget s.L (3, 1) = some (2, .map []) → lget s.L (4, 0) = some (3, .var [.nilS]) →
        ∃ c' O', (M723 (hand T723) (3 * szs a + 10)).call.fn 66 ([] ++ [.mref (loopKey (M723 (hand T723) (3 * szs a + 10)).E) s.c] ++ [.iptr [Ts a]]) ((M723 (hand T723) (3 * szs a + 10)).E.lvl + 1) (s.c + 1) (heapOf (M723 (hand T723) (3 * szs a + 10)).E.lvl (lput s.L ((M723 (hand T723) (3 * szs a + 10)).E.n + 1, 0) (s.c, .loop (lpOf (M723 (hand T723) (3 * szs a + 10)).E) s.τ [12] as23 bd23 .ready none)) s.O) = some (.ret (.tup []), c', O') ∧
          O' (loopKey (M723 (hand T723) (3 * szs a + 10)).E) = some (s.c, .loop (lpOf (M723 (hand T723) (3 * szs a + 10)).E) s.τ [12] as23 bd23 (if true then .ready else .done) (if true then none else some .ret)) ∧ U23 (nmL a) 1 3 2 (usL a) true O' := fun s h3 h4 g1 g2 g3 => by
      obtain ⟨c', O', q1, ⟨q2, q3⟩, _⟩ := c81 (H := hand T723) rfl rfl (ok := ok27 (nmL a)) (step := usS) (fun k s c h => ⟨by have := h.1; simp only [txt1] at this; exact this.1, ok27_kids (nmL a) k s c h⟩) (szs a + 1) a 0 0 ⟨0, 43, 0⟩ s.c (InvL (⟨0, 43, 0⟩ : Key) s.c lp23 s.τ [12] as23 bd23 (fun _ => .ret) (U23 (nmL a) 1 3 2)) (3 * szs a + 10) 1 (s.c + 1) (heapOf 0 (lput s.L (43, 0) (s.c, .loop lp23 s.τ [12] as23 bd23 .ready none)) s.O) [] (by omega) hb (fun t ht => ⟨txs_mem ho ht, fun x hx => nm_mem ht hx⟩) rfl (y23 hN h3 h4) (fun x b O O' e ⟨i1, i2⟩ => ⟨(e 0 43 0 (Nat.le_refl _)).trans i1, U23.cong (fun sl off _ => e 0 sl off (Nat.le_refl _)) i2⟩) (by omega) (by omega)
        ⟨by rw [heapOf_get, if_pos rfl, lget_lput, if_pos rfl]; rfl, ⟨.nilS, by rw [heapOf_get, if_pos rfl, lget_lput, if_neg (by simp)]; exact g3, .inl ⟨rfl, rfl⟩⟩, by rw [heapOf_get, if_pos rfl, lget_lput, if_neg (by simp)]; exact g1, by rw [heapOf_get, if_pos rfl, lget_lput, if_neg (by simp)]; exact g2, List.nodup_nil, fun y hy => by cases hy⟩
      have := us_L a []
      rw [this] at q2 q3
      exact ⟨c', O', q1, q2, q3⟩
    have rg := fun (s : St) (k : K) (h11) (hc) (hx) => range_G (M := M723 (hand T723) (3 * szs a + 10)) (k := k) (s := s) (f := .tmp 11) (ps := #[12]) (ac := as23) (bd := bd23) (g := 66) (caps := [.iptr [Ts a]]) (b := true) (j := .ret) (e := .norm) (Inv := U23 (nmL a) 1 3 2 (usL a) true) (P := Po) h11 (show okL.contains 66 = true by decide) rfl hc rfl hx
    simp only [as23, bd23, rfA, sub, c723, Tryz.f11, gets] at rg hc
    refine rg _ _ ?_ (hc _ ?_ ?_ ?_ ?_ ?_) ?_
    case refine_7 =>
      intro s' hτ hu hl
      obtain ⟨⟨row, u1, u2⟩, _⟩ := hu
      have g4 := hl 4 0 _ (by show 4 ≠ 43; omega) (.inl (by simp only [vmr, vmw, vmp, vza, ↓reduceIte, Nat.reduceBEq, Nat.reduceLT, Nat.reduceAdd, Nat.reduceEqDiff, reduceCtorEq, vmt, vzb, vzc, vlen, vleaf, velems, oks, vst, vmd, ty, Nat.reduceLeDiff, Nat.reduceMul, Nat.reduceSub, m723])) u1
      have t4 : tget s'.τ 4 = .ptr ⟨0, 4, 0⟩ 3 0 0 := by rw [hτ]; simp only [vmr, vmw, vmp, vza, ↓reduceIte, Nat.reduceBEq, Nat.reduceLT, Nat.reduceAdd, Nat.reduceEqDiff, reduceCtorEq, vmt, vzb, vzc, vlen, vleaf, velems, oks, vst, vmd, ty, Nat.reduceLeDiff, Nat.reduceMul, Nat.reduceSub, m723]
      have hm := tot_us a
      rcases u2 with ⟨hw, rfl⟩ | ⟨vr, rfl, hO⟩
      · clear hτ hl u1
        refine ⟨.nilS, rfl, by rw [hw]; rfl, ?_⟩
        simp only [vmr, vmw, vmp, vza, ↓reduceIte, Nat.reduceBEq, Nat.reduceLT, Nat.reduceAdd, Nat.reduceEqDiff, reduceCtorEq, vmt, vzb, vzc, vlen, vleaf, velems, oks, vst, vmd, ty, Nat.reduceLeDiff, Nat.reduceMul, Nat.reduceSub, m723, X_blk, t4, g4]
        unfold Fi23
        simp only [vmr, vmw, vmp, vza, ↓reduceIte, Nat.reduceBEq, Nat.reduceLT, Nat.reduceAdd, Nat.reduceEqDiff, reduceCtorEq, vmt, vzb, vzc, vlen, vleaf, velems, oks, vst, vmd, ty, Nat.reduceLeDiff, Nat.reduceMul, Nat.reduceSub, vzr, m723]
      · rw [useV_P (by omega)] at hO
        have g5 := hl 4 1 _ (by show 4 ≠ 43; omega) (.inr ⟨3, [.nilS], 0, by simp only [vmr, vmw, vmp, vza, ↓reduceIte, Nat.reduceBEq, Nat.reduceLT, Nat.reduceAdd, Nat.reduceEqDiff, reduceCtorEq, vmt, vzb, vzc, vlen, vleaf, velems, oks, vst, vmd, ty, Nat.reduceLeDiff, Nat.reduceMul, Nat.reduceSub, m723], rfl, by simp⟩) hO
        clear hτ hl u1
        refine ⟨.own 2 ((usL a).map useP), by simp only [pureR, pureUs], ?_, ?_⟩
        · rw [show imm (V.own 2 ((usL a).map useP)) = .lst ((usL a).map useP) by simp only [imm, imms_map (e := useP) (fun _ => rfl)]]
          show V.lst (cans _) = _
          rw [cans_useP]
        · simp only [vmr, vmw, vmp, vza, ↓reduceIte, Nat.reduceBEq, Nat.reduceLT, Nat.reduceAdd, Nat.reduceEqDiff, reduceCtorEq, vmt, vzb, vzc, vlen, vleaf, velems, oks, vst, vmd, ty, Nat.reduceLeDiff, Nat.reduceMul, Nat.reduceSub, m723, X_blk, t4, g4, g5]
          unfold Fi23
          simp only [vmr, vmw, vmp, vza, ↓reduceIte, Nat.reduceBEq, Nat.reduceLT, Nat.reduceAdd, Nat.reduceEqDiff, reduceCtorEq, vmt, vzb, vzc, vlen, vleaf, velems, oks, vst, vmd, ty, Nat.reduceLeDiff, Nat.reduceMul, Nat.reduceSub, vzr, m723, g5, take_len]
    all_goals simp only [vmr, vmw, vmp, vza, ↓reduceIte, Nat.reduceBEq, Nat.reduceLT, Nat.reduceAdd, Nat.reduceEqDiff, reduceCtorEq, vmt, vzb, vzc, vlen, vleaf, velems, oks, vst, vmd, ty, Nat.reduceLeDiff, Nat.reduceMul, Nat.reduceSub, m723]
  obtain ⟨v, hp, hc, hk⟩ := key
  have := sound_imm (s723 h723 (3 * szs a + 10) (by simp) hp hk) hp
  rw [hc] at this
  exact this
theorem useP_inj : ∀ {a b : Us}, a.map useP = b.map useP → a = b
  | [], [], _ => rfl
  | [], _ :: _, h => by cases h
  | _ :: _, [], h => by cases h
  | (x, t) :: r, (y, u) :: q, h => by
    simp only [List.map_cons, useP] at h
    injection h with h1 h2
    injection h1 with h1
    injection h1 with h1 h3
    injection h3 with h3 _
    rw [Str_inj h1, Int.ofNat.inj (I_inj h3), useP_inj h2]
noncomputable def F23 : List V → Option V := hF (α := List Tm) (fun p => [Ts p]) (fun p => szs p ≤ 1000000 ∧ txs p) (fun p => UsV (usL p))
theorem F23_eq {a : List Tm} (h : szs a ≤ 1000000) (ho : txs a) : F23 [Ts a] = some (UsV (usL a)) := hF_eq (a := a) (one_inj' fun _ _ => Ts_inj) (by simp only [cans, can_Ts]) ⟨h, ho⟩
theorem F23_sound : ∀ args v, F23 args = some v → SoundPure Tryz.prog 11 args (.ret v) := hF_sound fun p hp => w23 p hp.1 hp.2
end Go.Vi
set_option maxRecDepth 100000
set_option maxHeartbeats 1000000
namespace Go.Vi
open Go Go.Proofs

abbrev Ns := List (List UInt8)
theorem ss_get {a : Ns} {i : Nat} {x} (h : a[i]? = some x) : (a.map V.str)[i]? = some (.str x) := by rw [List.getElem?_map, h, Option.map_some]
theorem Ss_inj : ∀ {a b : Ns}, a.map V.str = b.map V.str → a = b
  | [], [], _ => rfl
  | [], _ :: _, h => by cases h
  | _ :: _, [], h => by cases h
  | x :: r, y :: q, h => by
    simp only [List.map_cons] at h
    injection h with h1 h2
    rw [Str_inj h1, Ss_inj h2]
theorem SsV_inj {a b : Ns} (h : Ss a = Ss b) : a = b := by injection h with h; exact Ss_inj h
def eqSs : Ns → Ns → Bool
  | [], [] => true
  | x :: r, y :: q => (x == y) && eqSs r q
  | _, _ => false
theorem eqSs_self : ∀ a, eqSs a a = true
  | [] => rfl
  | x :: r => by simp [eqSs, eqSs_self r]
theorem eqSs_len : ∀ a b : Ns, a.length ≠ b.length → eqSs a b = false
  | [], [], h => absurd rfl h
  | [], _ :: _, _ => rfl
  | _ :: _, [], _ => rfl
  | x :: r, y :: q, h => by rw [eqSs, eqSs_len r q (fun e => h (by simp [e])), Bool.and_false]
def P726 (n : Nat) (v : V) (r : Option (Ex × St)) : Prop := Fin (M726 (hand []) n) [.tmp 4] r = some (.ret v)
theorem l726 {n k v} (a b : Ns) (ha : a.length ≤ 1000000) : ∀ r t i n' s, a.drop i = r → b.drop i = t → r.length = t.length → r.length < n' → tget s.τ 0 = Ss a → tget s.τ 1 = Ss b → tget s.τ 12 = I a.length → tget s.τ 13 = I (i : Nat) →
    V.bool (eqSs r t) = v → (∀ s', V.bool true = v → P726 n v (X (M726 (hand []) n) (.exit 0) k s')) →
    P726 n v (L (M726 (hand []) n) (sub [1, 1, 0, 1, 0, 0] c726) n' k s)
  | [], [], i, n' + 1, s, hi, hj, hl, hn, h0, h1, h12, h13, hv, hx => by
    have hc := inlt (drop_nil' hi)
    rw [L_succ]
    simp only [vmr, vmw, vmp, vza, ↓reduceIte, Nat.reduceBEq, Nat.reduceLT, Nat.reduceAdd, Nat.reduceEqDiff, reduceCtorEq, vmt, vzb, vzc, vlen, vleaf, velems, oks, vst, vmd, ty, Nat.reduceLeDiff, Nat.reduceMul, Nat.reduceSub, c726, Tryz.f14, m726, h12, h13, hc]
    exact hx _ hv
  | p :: r, q :: t, i, n' + 1, s, hi, hj, hl, hn, h0, h1, h12, h13, hv, hx => by
    obtain ⟨g1, g2, g3⟩ := drop_cons hi
    obtain ⟨g4, g5, g6⟩ := drop_cons hj
    have hcl := ilt g3
    have ga := ss_get g1
    have gb := ss_get g4
    have w4 := wsuc g3 (by omega)
    have hd := @d726_6 (hand []) n
    have ih := fun s => l726 (n := n) (k := k) (v := v) a b ha r t (i + 1) n' s g2 g5 (by simpa using hl) (by simp at hn; omega)
    simp only [sub, c726, Tryz.f14, gets, opsAt] at ih hd
    rw [L_succ]
    rw [eqSs] at hv
    cases hq : p == q with
    | true =>
      have hq' : (p != q) = false := by simpa using hq
      rw [hq, Bool.true_and] at hv
      simp only [vmr, vmw, vmp, vza, ↓reduceIte, Nat.reduceBEq, Nat.reduceLT, Nat.reduceAdd, Nat.reduceEqDiff, reduceCtorEq, vmt, vzb, vzc, vlen, vleaf, velems, oks, vst, vmd, ty, Nat.reduceLeDiff, Nat.reduceMul, Nat.reduceSub, c726, Tryz.f14, m726, h0, h1, h12, h13, hcl, ga, gb, w4, hd, strOp, hq, Bool.not_true, Bool.not_false]
      refine ih _ ?_ ?_ ?_ ?_ hv hx
      all_goals simp only [vmr, vmw, vmp, vza, ↓reduceIte, Nat.reduceBEq, Nat.reduceLT, Nat.reduceAdd, Nat.reduceEqDiff, reduceCtorEq, vmt, vzb, vzc, vlen, vleaf, velems, oks, vst, vmd, ty, Nat.reduceLeDiff, Nat.reduceMul, Nat.reduceSub, m726, h0, h1, h12]
    | false =>
      have hq' : (p != q) = true := by simpa using hq
      rw [hq, Bool.false_and] at hv
      simp only [vmr, vmw, vmp, vza, ↓reduceIte, Nat.reduceBEq, Nat.reduceLT, Nat.reduceAdd, Nat.reduceEqDiff, reduceCtorEq, vmt, vzb, vzc, vlen, vleaf, velems, oks, vst, vmd, ty, Nat.reduceLeDiff, Nat.reduceMul, Nat.reduceSub, c726, Tryz.f14, m726, h0, h1, h12, h13, hcl, ga, gb, w4, hd, strOp, hq, Bool.not_true, Bool.not_false]
      rw [← hv]
      unfold P726
      simp only [vmr, vmw, vmp, vza, ↓reduceIte, Nat.reduceBEq, Nat.reduceLT, Nat.reduceAdd, Nat.reduceEqDiff, reduceCtorEq, vmt, vzb, vzc, vlen, vleaf, velems, oks, vst, vmd, ty, Nat.reduceLeDiff, Nat.reduceMul, Nat.reduceSub, vzr, m726]
theorem w26 (a b : Ns) (ha : a.length ≤ 1000000) : SoundPure Tryz.prog 14 [Ss a, Ss b] (.ret (.bool (eqSs a b))) := by
  refine s726 (H := []) sound_nil (a.length + 1) (by simp) rfl ?_
  show P726 _ _ _
  by_cases q : a.length = b.length
  · have q' : ((a.length : Int) != (b.length : Int)) = false := by simp [q]
    have a1 := fun k s => @l726 (a.length + 1) k (.bool (eqSs a b)) a b ha a b 0 (a.length + 1) s rfl rfl q (by omega)
    simp only [c726, Tryz.f14, gets, sub] at a1 ⊢
    simp only [vmr, vmw, vmp, vza, ↓reduceIte, Nat.reduceBEq, Nat.reduceLT, Nat.reduceAdd, Nat.reduceEqDiff, reduceCtorEq, vmt, vzb, vzc, vlen, vleaf, velems, oks, vst, vmd, ty, Nat.reduceLeDiff, Nat.reduceMul, Nat.reduceSub, m726, q']
    refine a1 _ _ ?_ ?_ ?_ ?_ trivial (fun s' h => ?_)
    case refine_5 =>
      rw [← h]
      simp only [vmr, vmw, vmp, vza, ↓reduceIte, Nat.reduceBEq, Nat.reduceLT, Nat.reduceAdd, Nat.reduceEqDiff, reduceCtorEq, vmt, vzb, vzc, vlen, vleaf, velems, oks, vst, vmd, ty, Nat.reduceLeDiff, Nat.reduceMul, Nat.reduceSub, m726]
      unfold P726
      simp only [vmr, vmw, vmp, vza, ↓reduceIte, Nat.reduceBEq, Nat.reduceLT, Nat.reduceAdd, Nat.reduceEqDiff, reduceCtorEq, vmt, vzb, vzc, vlen, vleaf, velems, oks, vst, vmd, ty, Nat.reduceLeDiff, Nat.reduceMul, Nat.reduceSub, vzr, m726]
    all_goals simp only [vmr, vmw, vmp, vza, ↓reduceIte, Nat.reduceBEq, Nat.reduceLT, Nat.reduceAdd, Nat.reduceEqDiff, reduceCtorEq, vmt, vzb, vzc, vlen, vleaf, velems, oks, vst, vmd, ty, Nat.reduceLeDiff, Nat.reduceMul, Nat.reduceSub, m726]
    all_goals rfl
  · have q' : ((a.length : Int) != (b.length : Int)) = true := by simp; omega
    rw [eqSs_len a b q]
    simp only [c726, Tryz.f14, gets, sub]
    simp only [vmr, vmw, vmp, vza, ↓reduceIte, Nat.reduceBEq, Nat.reduceLT, Nat.reduceAdd, Nat.reduceEqDiff, reduceCtorEq, vmt, vzb, vzc, vlen, vleaf, velems, oks, vst, vmd, ty, Nat.reduceLeDiff, Nat.reduceMul, Nat.reduceSub, m726, q']
    unfold P726
    simp only [vmr, vmw, vmp, vza, ↓reduceIte, Nat.reduceBEq, Nat.reduceLT, Nat.reduceAdd, Nat.reduceEqDiff, reduceCtorEq, vmt, vzb, vzc, vlen, vleaf, velems, oks, vst, vmd, ty, Nat.reduceLeDiff, Nat.reduceMul, Nat.reduceSub, vzr, m726]
noncomputable def F26 : List V → Option V := hF (α := Ns × Ns) (fun p => [Ss p.1, Ss p.2]) (fun p => p.1.length ≤ 1000000) (fun p => .bool (eqSs p.1 p.2))
theorem F26_eq {a b : Ns} (h : a.length ≤ 1000000) : F26 [Ss a, Ss b] = some (.bool (eqSs a b)) := hF_eq (a := (a, b)) (two_inj (fun _ _ => SsV_inj) (fun _ _ => SsV_inj)) (by simp only [cans, can_Ss]) h
theorem F26_sound : ∀ args v, F26 args = some v → SoundPure Tryz.prog 14 args (.ret v) := hF_sound fun p hp => w26 p.1 p.2 hp
end Go.Vi
set_option maxRecDepth 100000
set_option maxHeartbeats 1000000
namespace Go.Vi
open Go Go.Proofs

noncomputable def Fpat : List V → Option V := hF (α := List Tm) (fun p => [Ts p]) (fun p => szs p ≤ 1000000 ∧ txs p) (fun p => I (errB 7 p))
theorem Fpat_eq {a : List Tm} (h : szs a ≤ 1000000) (ho : txs a) : Fpat [Ts a] = some (I (errB 7 a)) := hF_eq (a := a) (one_inj' fun _ _ => Ts_inj) (by simp only [cans, can_Ts]) ⟨h, ho⟩
theorem F28_sound : ∀ args v, Fpat args = some v → SoundPure Tryz.prog 28 args (.ret v) := hF_sound fun p hp => by
  refine s754 (H := [(61, Ferr)]) (sound_cons F40_sound sound_nil) 1 (by simp) rfl ?_
  simp only [c754, Tryz.f28, gets, sub]
  have e := Ferr_eq (k := 7) hp.1 hp.2
  simp only [vmr, vmw, vmp, vza, ↓reduceIte, Nat.reduceBEq, Nat.reduceLT, Nat.reduceAdd, Nat.reduceEqDiff, reduceCtorEq, vmt, vzb, vzc, vlen, vleaf, velems, oks, vst, vmd, ty, Nat.reduceLeDiff, Nat.reduceMul, Nat.reduceSub, vzr, m754, e]
theorem F1032_sound : ∀ args v, Fpat args = some v → SoundPure Tryz.prog 32 args (.ret v) := hF_sound fun p hp => by
  refine s1032 (H := [(64, Ferr)]) (sound_cons F57_sound sound_nil) 1 (by simp) rfl ?_
  simp only [c1032, Tryz.f32, gets, sub]
  have e := Ferr_eq (k := 7) hp.1 hp.2
  simp only [vmr, vmw, vmp, vza, ↓reduceIte, Nat.reduceBEq, Nat.reduceLT, Nat.reduceAdd, Nat.reduceEqDiff, reduceCtorEq, vmt, vzb, vzc, vlen, vleaf, velems, oks, vst, vmd, ty, Nat.reduceLeDiff, Nat.reduceMul, Nat.reduceSub, vzr, m1032, e]
/-! ### slices.Index -/
def ixI (x : List UInt8) (i : Nat) (r : Ns) : Int := if x ∈ r then ((i + ixW x r : Nat) : Int) else -1
def P784 (n : Nat) (v : V) (r : Option (Ex × St)) : Prop := Fin (M784 (hand []) n) [.tmp 4] r = some (.ret v)
theorem l784 {n k v} (a : Ns) (x : List UInt8) (ha : a.length ≤ 1000000) : ∀ r i n' s, a.drop i = r → r.length < n' → tget s.τ 0 = Ss a → tget s.τ 1 = .str x → tget s.τ 7 = I a.length → tget s.τ 8 = I (i : Nat) →
    I (ixI x i r) = v → (∀ s', I (-1) = v → P784 n v (X (M784 (hand []) n) (.exit 0) k s')) →
    P784 n v (L (M784 (hand []) n) (sub [1, 0, 1, 0, 0] c784) n' k s)
  | [], i, n' + 1, s, hi, hn, h0, h1, h7, h8, hv, hx => by
    have hc := inlt (drop_nil' hi)
    rw [L_succ]
    simp only [vmr, vmw, vmp, vza, ↓reduceIte, Nat.reduceBEq, Nat.reduceLT, Nat.reduceAdd, Nat.reduceEqDiff, reduceCtorEq, vmt, vzb, vzc, vlen, vleaf, velems, oks, vst, vmd, ty, Nat.reduceLeDiff, Nat.reduceMul, Nat.reduceSub, c784, Tryz.f63, m784, h7, h8, hc]
    exact hx _ (by simpa [ixI] using hv)
  | p :: r, i, n' + 1, s, hi, hn, h0, h1, h7, h8, hv, hx => by
    obtain ⟨g1, g2, g3⟩ := drop_cons hi
    have hcl := ilt g3
    have ga := ss_get g1
    have w4 := wsuc g3 (by omega)
    have ih := fun s => l784 (n := n) (k := k) (v := v) a x ha r (i + 1) n' s g2 (by simp at hn; omega)
    simp only [sub, c784, Tryz.f63, gets] at ih
    rw [L_succ]
    cases hq : x == p with
    | true =>
      have e : x = p := by simpa using hq
      subst e
      have hv' : I (i : Nat) = v := by rw [← hv, ixI, if_pos (by simp), ixW, if_pos rfl]; rfl
      simp only [vmr, vmw, vmp, vza, ↓reduceIte, Nat.reduceBEq, Nat.reduceLT, Nat.reduceAdd, Nat.reduceEqDiff, reduceCtorEq, vmt, vzb, vzc, vlen, vleaf, velems, oks, vst, vmd, ty, Nat.reduceLeDiff, Nat.reduceMul, Nat.reduceSub, c784, Tryz.f63, m784, h0, h1, h7, h8, hcl, ga, w4, strOp, hq]
      rw [← hv']
      unfold P784
      simp only [vmr, vmw, vmp, vza, ↓reduceIte, Nat.reduceBEq, Nat.reduceLT, Nat.reduceAdd, Nat.reduceEqDiff, reduceCtorEq, vmt, vzb, vzc, vlen, vleaf, velems, oks, vst, vmd, ty, Nat.reduceLeDiff, Nat.reduceMul, Nat.reduceSub, vzr, m784]
    | false =>
      have e : ¬ p = x := fun e => by rw [e] at hq; simp at hq
      have hv' : I (ixI x (i + 1) r) = v := by
        rw [← hv]
        unfold ixI
        by_cases hm : x ∈ r
        · rw [if_pos hm, if_pos (List.mem_cons_of_mem _ hm), ixW, if_neg e, show i + 1 + ixW x r = i + (ixW x r + 1) by omega]
        · rw [if_neg hm, if_neg (fun h => (List.mem_cons.1 h).elim (fun h => e h.symm) hm)]
      simp only [vmr, vmw, vmp, vza, ↓reduceIte, Nat.reduceBEq, Nat.reduceLT, Nat.reduceAdd, Nat.reduceEqDiff, reduceCtorEq, vmt, vzb, vzc, vlen, vleaf, velems, oks, vst, vmd, ty, Nat.reduceLeDiff, Nat.reduceMul, Nat.reduceSub, c784, Tryz.f63, m784, h0, h1, h7, h8, hcl, ga, w4, strOp, hq]
      refine ih _ ?_ ?_ ?_ ?_ hv' hx
      all_goals simp only [vmr, vmw, vmp, vza, ↓reduceIte, Nat.reduceBEq, Nat.reduceLT, Nat.reduceAdd, Nat.reduceEqDiff, reduceCtorEq, vmt, vzb, vzc, vlen, vleaf, velems, oks, vst, vmd, ty, Nat.reduceLeDiff, Nat.reduceMul, Nat.reduceSub, m784, h0, h1, h7]
theorem w63i (a : Ns) (x : List UInt8) (ha : a.length ≤ 1000000) : SoundPure Tryz.prog 63 [Ss a, .str x] (.ret (I (ixI x 0 a))) := by
  refine s784 (H := []) sound_nil (a.length + 1) (by simp) rfl ?_
  show P784 _ _ _
  have a1 := fun k s => @l784 (a.length + 1) k (I (ixI x 0 a)) a x ha a 0 (a.length + 1) s rfl (by omega)
  simp only [c784, Tryz.f63, gets, sub] at a1 ⊢
  simp only [vmr, vmw, vmp, vza, ↓reduceIte, Nat.reduceBEq, Nat.reduceLT, Nat.reduceAdd, Nat.reduceEqDiff, reduceCtorEq, vmt, vzb, vzc, vlen, vleaf, velems, oks, vst, vmd, ty, Nat.reduceLeDiff, Nat.reduceMul, Nat.reduceSub, m784]
  refine a1 _ _ ?_ ?_ ?_ ?_ trivial (fun s' h => ?_)
  case refine_5 =>
    rw [← h]
    simp only [vmr, vmw, vmp, vza, ↓reduceIte, Nat.reduceBEq, Nat.reduceLT, Nat.reduceAdd, Nat.reduceEqDiff, reduceCtorEq, vmt, vzb, vzc, vlen, vleaf, velems, oks, vst, vmd, ty, Nat.reduceLeDiff, Nat.reduceMul, Nat.reduceSub, m784]
    unfold P784
    simp only [vmr, vmw, vmp, vza, ↓reduceIte, Nat.reduceBEq, Nat.reduceLT, Nat.reduceAdd, Nat.reduceEqDiff, reduceCtorEq, vmt, vzb, vzc, vlen, vleaf, velems, oks, vst, vmd, ty, Nat.reduceLeDiff, Nat.reduceMul, Nat.reduceSub, vzr, m784]
  all_goals simp only [vmr, vmw, vmp, vza, ↓reduceIte, Nat.reduceBEq, Nat.reduceLT, Nat.reduceAdd, Nat.reduceEqDiff, reduceCtorEq, vmt, vzb, vzc, vlen, vleaf, velems, oks, vst, vmd, ty, Nat.reduceLeDiff, Nat.reduceMul, Nat.reduceSub, m784]
  all_goals rfl
noncomputable def F63i : List V → Option V := hF (α := Ns × List UInt8) (fun p => [Ss p.1, .str p.2]) (fun p => p.1.length ≤ 1000000) (fun p => I (ixI p.2 0 p.1))
theorem F63i_eq {a : Ns} {x : List UInt8} (h : a.length ≤ 1000000) : F63i [Ss a, .str x] = some (I (ixI x 0 a)) := hF_eq (a := (a, x)) (two_inj (fun _ _ => SsV_inj) (fun _ _ => Str_inj)) (by simp only [cans, can_Ss, canStr]) h
theorem F63i_sound : ∀ args v, F63i args = some v → SoundPure Tryz.prog 63 args (.ret v) := hF_sound fun p hp => w63i p.1 p.2 hp
noncomputable def Fhas : List V → Option V := hF (α := Ns × List UInt8) (fun p => [Ss p.1, .str p.2]) (fun p => p.1.length ≤ 1000000) (fun p => .bool (p.1.contains p.2))
theorem Fhas_eq {a : Ns} {x : List UInt8} (h : a.length ≤ 1000000) : Fhas [Ss a, .str x] = some (.bool (a.contains x)) := hF_eq (a := (a, x)) (two_inj (fun _ _ => SsV_inj) (fun _ _ => Str_inj)) (by simp only [cans, can_Ss, canStr]) h
theorem F1031_sound : ∀ args v, Fhas args = some v → SoundPure Tryz.prog 31 args (.ret v) := hF_sound fun p hp => by
  obtain ⟨a, x⟩ := p
  refine s755 (H := [(63, F63i)]) (sound_cons F63i_sound sound_nil) 1 (by simp) rfl ?_
  simp only [c755, Tryz.f31, gets, sub]
  have e := F63i_eq (a := a) (x := x) hp
  by_cases q : x ∈ a
  · have h1 : a.contains x = true := by simpa using q
    have h2 : (ixI x 0 a ≥ 0) = True := eq_true (by unfold ixI; rw [if_pos q]; omega)
    have h3 : decide (0 ≤ ixI x 0 a) = true := by simpa using h2
    rw [h1]
    simp only [vmr, vmw, vmp, vza, ↓reduceIte, Nat.reduceBEq, Nat.reduceLT, Nat.reduceAdd, Nat.reduceEqDiff, reduceCtorEq, vmt, vzb, vzc, vlen, vleaf, velems, oks, vst, vmd, ty, Nat.reduceLeDiff, Nat.reduceMul, Nat.reduceSub, vzr, m755, e, h2, h3]
  · have h1 : a.contains x = false := by simpa using q
    have h2 : (ixI x 0 a ≥ 0) = False := eq_false (by unfold ixI; rw [if_neg q]; omega)
    have h3 : decide (0 ≤ ixI x 0 a) = false := by simpa using h2
    rw [h1]
    simp only [vmr, vmw, vmp, vza, ↓reduceIte, Nat.reduceBEq, Nat.reduceLT, Nat.reduceAdd, Nat.reduceEqDiff, reduceCtorEq, vmt, vzb, vzc, vlen, vleaf, velems, oks, vst, vmd, ty, Nat.reduceLeDiff, Nat.reduceMul, Nat.reduceSub, vzr, m755, e, h2, h3]
/-! ### 34 -/
def P1034 (n : Nat) (v : V) (r : Option (Ex × St)) : Prop := Fin (M1034 (hand []) n) [.tmp 4] r = some (.ret v)
theorem l1034 {n k v} (a : Ns) (x : List UInt8) (ha : a.length ≤ 1000000) : ∀ r i n' s, a.drop i = r → r.length < n' → tget s.τ 0 = Ss a → tget s.τ 1 = .str x → tget s.τ 5 = I (i : Nat) →
    V.bool (r.contains x) = v → (∀ s', V.bool false = v → P1034 n v (X (M1034 (hand []) n) (.exit 0) k s')) →
    P1034 n v (L (M1034 (hand []) n) (sub [1, 0, 1, 0, 0] c1034) n' k s)
  | [], i, n' + 1, s, hi, hn, h0, h1, h5, hv, hx => by
    have hc := inlt (drop_nil' hi)
    rw [L_succ]
    simp only [vmr, vmw, vmp, vza, ↓reduceIte, Nat.reduceBEq, Nat.reduceLT, Nat.reduceAdd, Nat.reduceEqDiff, reduceCtorEq, vmt, vzb, vzc, vlen, vleaf, velems, oks, vst, vmd, ty, Nat.reduceLeDiff, Nat.reduceMul, Nat.reduceSub, c1034, Tryz.f34, m1034, h0, h5, hc]
    exact hx _ hv
  | p :: r, i, n' + 1, s, hi, hn, h0, h1, h5, hv, hx => by
    obtain ⟨g1, g2, g3⟩ := drop_cons hi
    have hcl := ilt g3
    have ga := ss_get g1
    have w4 := wsuc g3 (by omega)
    have ih := fun s => l1034 (n := n) (k := k) (v := v) a x ha r (i + 1) n' s g2 (by simp at hn; omega)
    simp only [sub, c1034, Tryz.f34, gets] at ih
    rw [L_succ]
    have hc2 : (x == p) = (p == x) := by rw [Bool.eq_iff_iff, beq_iff_eq, beq_iff_eq]; exact eq_comm
    rw [List.contains_cons, hc2] at hv
    cases hq : p == x with
    | true =>
      rw [hq, Bool.true_or] at hv
      simp only [vmr, vmw, vmp, vza, ↓reduceIte, Nat.reduceBEq, Nat.reduceLT, Nat.reduceAdd, Nat.reduceEqDiff, reduceCtorEq, vmt, vzb, vzc, vlen, vleaf, velems, oks, vst, vmd, ty, Nat.reduceLeDiff, Nat.reduceMul, Nat.reduceSub, c1034, Tryz.f34, m1034, h0, h1, h5, hcl, ga, w4, strOp, hq]
      rw [← hv]
      unfold P1034
      simp only [vmr, vmw, vmp, vza, ↓reduceIte, Nat.reduceBEq, Nat.reduceLT, Nat.reduceAdd, Nat.reduceEqDiff, reduceCtorEq, vmt, vzb, vzc, vlen, vleaf, velems, oks, vst, vmd, ty, Nat.reduceLeDiff, Nat.reduceMul, Nat.reduceSub, vzr, m1034]
    | false =>
      rw [hq, Bool.false_or] at hv
      simp only [vmr, vmw, vmp, vza, ↓reduceIte, Nat.reduceBEq, Nat.reduceLT, Nat.reduceAdd, Nat.reduceEqDiff, reduceCtorEq, vmt, vzb, vzc, vlen, vleaf, velems, oks, vst, vmd, ty, Nat.reduceLeDiff, Nat.reduceMul, Nat.reduceSub, c1034, Tryz.f34, m1034, h0, h1, h5, hcl, ga, w4, strOp, hq]
      refine ih _ ?_ ?_ ?_ hv hx
      all_goals simp only [vmr, vmw, vmp, vza, ↓reduceIte, Nat.reduceBEq, Nat.reduceLT, Nat.reduceAdd, Nat.reduceEqDiff, reduceCtorEq, vmt, vzb, vzc, vlen, vleaf, velems, oks, vst, vmd, ty, Nat.reduceLeDiff, Nat.reduceMul, Nat.reduceSub, m1034, h0, h1]
theorem F1034_sound : ∀ args v, Fhas args = some v → SoundPure Tryz.prog 34 args (.ret v) := hF_sound fun p hp => by
  obtain ⟨a, x⟩ := p
  refine s1034 (H := []) sound_nil (a.length + 1) (by simp) rfl ?_
  show P1034 _ _ _
  have a1 := fun k s => @l1034 (a.length + 1) k (.bool (a.contains x)) a x hp a 0 (a.length + 1) s rfl (by omega)
  simp only [c1034, Tryz.f34, gets, sub] at a1 ⊢
  simp only [vmr, vmw, vmp, vza, ↓reduceIte, Nat.reduceBEq, Nat.reduceLT, Nat.reduceAdd, Nat.reduceEqDiff, reduceCtorEq, vmt, vzb, vzc, vlen, vleaf, velems, oks, vst, vmd, ty, Nat.reduceLeDiff, Nat.reduceMul, Nat.reduceSub, m1034]
  refine a1 _ _ ?_ ?_ ?_ trivial (fun s' h => ?_)
  case refine_4 =>
    rw [← h]
    simp only [vmr, vmw, vmp, vza, ↓reduceIte, Nat.reduceBEq, Nat.reduceLT, Nat.reduceAdd, Nat.reduceEqDiff, reduceCtorEq, vmt, vzb, vzc, vlen, vleaf, velems, oks, vst, vmd, ty, Nat.reduceLeDiff, Nat.reduceMul, Nat.reduceSub, m1034]
    unfold P1034
    simp only [vmr, vmw, vmp, vza, ↓reduceIte, Nat.reduceBEq, Nat.reduceLT, Nat.reduceAdd, Nat.reduceEqDiff, reduceCtorEq, vmt, vzb, vzc, vlen, vleaf, velems, oks, vst, vmd, ty, Nat.reduceLeDiff, Nat.reduceMul, Nat.reduceSub, vzr, m1034]
  all_goals simp only [vmr, vmw, vmp, vza, ↓reduceIte, Nat.reduceBEq, Nat.reduceLT, Nat.reduceAdd, Nat.reduceEqDiff, reduceCtorEq, vmt, vzb, vzc, vlen, vleaf, velems, oks, vst, vmd, ty, Nat.reduceLeDiff, Nat.reduceMul, Nat.reduceSub, m1034]
  all_goals rfl
/-! ### 93 -/
def P1093 (n : Nat) (v : V) (r : Option (Ex × St)) : Prop := Fin (M1093 (hand []) n) [.tmp 4] r = some (.ret v)
theorem l1093 {n k v} (a : Ns) (x : List UInt8) (ha : a.length ≤ 1000000) : ∀ r i n' s, a.drop i = r → r.length < n' → tget s.τ 0 = Ss a → tget s.τ 1 = .str x → tget s.τ 5 = I (i : Nat) →
    V.bool (r.contains x) = v → (∀ s', V.bool false = v → P1093 n v (X (M1093 (hand []) n) (.exit 0) k s')) →
    P1093 n v (L (M1093 (hand []) n) (sub [1, 0, 1, 0, 0] c1093) n' k s)
  | [], i, n' + 1, s, hi, hn, h0, h1, h5, hv, hx => by
    have hc := inlt (drop_nil' hi)
    rw [L_succ]
    simp only [vmr, vmw, vmp, vza, ↓reduceIte, Nat.reduceBEq, Nat.reduceLT, Nat.reduceAdd, Nat.reduceEqDiff, reduceCtorEq, vmt, vzb, vzc, vlen, vleaf, velems, oks, vst, vmd, ty, Nat.reduceLeDiff, Nat.reduceMul, Nat.reduceSub, c1093, Tryz.f93, m1093, h0, h5, hc]
    exact hx _ hv
  | p :: r, i, n' + 1, s, hi, hn, h0, h1, h5, hv, hx => by
    obtain ⟨g1, g2, g3⟩ := drop_cons hi
    have hcl := ilt g3
    have ga := ss_get g1
    have w4 := wsuc g3 (by omega)
    have ih := fun s => l1093 (n := n) (k := k) (v := v) a x ha r (i + 1) n' s g2 (by simp at hn; omega)
    simp only [sub, c1093, Tryz.f93, gets] at ih
    rw [L_succ]
    have hc2 : (x == p) = (p == x) := by rw [Bool.eq_iff_iff, beq_iff_eq, beq_iff_eq]; exact eq_comm
    rw [List.contains_cons, hc2] at hv
    cases hq : p == x with
    | true =>
      rw [hq, Bool.true_or] at hv
      simp only [vmr, vmw, vmp, vza, ↓reduceIte, Nat.reduceBEq, Nat.reduceLT, Nat.reduceAdd, Nat.reduceEqDiff, reduceCtorEq, vmt, vzb, vzc, vlen, vleaf, velems, oks, vst, vmd, ty, Nat.reduceLeDiff, Nat.reduceMul, Nat.reduceSub, c1093, Tryz.f93, m1093, h0, h1, h5, hcl, ga, w4, strOp, hq]
      rw [← hv]
      unfold P1093
      simp only [vmr, vmw, vmp, vza, ↓reduceIte, Nat.reduceBEq, Nat.reduceLT, Nat.reduceAdd, Nat.reduceEqDiff, reduceCtorEq, vmt, vzb, vzc, vlen, vleaf, velems, oks, vst, vmd, ty, Nat.reduceLeDiff, Nat.reduceMul, Nat.reduceSub, vzr, m1093]
    | false =>
      rw [hq, Bool.false_or] at hv
      simp only [vmr, vmw, vmp, vza, ↓reduceIte, Nat.reduceBEq, Nat.reduceLT, Nat.reduceAdd, Nat.reduceEqDiff, reduceCtorEq, vmt, vzb, vzc, vlen, vleaf, velems, oks, vst, vmd, ty, Nat.reduceLeDiff, Nat.reduceMul, Nat.reduceSub, c1093, Tryz.f93, m1093, h0, h1, h5, hcl, ga, w4, strOp, hq]
      refine ih _ ?_ ?_ ?_ hv hx
      all_goals simp only [vmr, vmw, vmp, vza, ↓reduceIte, Nat.reduceBEq, Nat.reduceLT, Nat.reduceAdd, Nat.reduceEqDiff, reduceCtorEq, vmt, vzb, vzc, vlen, vleaf, velems, oks, vst, vmd, ty, Nat.reduceLeDiff, Nat.reduceMul, Nat.reduceSub, m1093, h0, h1]
theorem F1093_sound : ∀ args v, Fhas args = some v → SoundPure Tryz.prog 93 args (.ret v) := hF_sound fun p hp => by
  obtain ⟨a, x⟩ := p
  refine s1093 (H := []) sound_nil (a.length + 1) (by simp) rfl ?_
  show P1093 _ _ _
  have a1 := fun k s => @l1093 (a.length + 1) k (.bool (a.contains x)) a x hp a 0 (a.length + 1) s rfl (by omega)
  simp only [c1093, Tryz.f93, gets, sub] at a1 ⊢
  simp only [vmr, vmw, vmp, vza, ↓reduceIte, Nat.reduceBEq, Nat.reduceLT, Nat.reduceAdd, Nat.reduceEqDiff, reduceCtorEq, vmt, vzb, vzc, vlen, vleaf, velems, oks, vst, vmd, ty, Nat.reduceLeDiff, Nat.reduceMul, Nat.reduceSub, m1093]
  refine a1 _ _ ?_ ?_ ?_ trivial (fun s' h => ?_)
  case refine_4 =>
    rw [← h]
    simp only [vmr, vmw, vmp, vza, ↓reduceIte, Nat.reduceBEq, Nat.reduceLT, Nat.reduceAdd, Nat.reduceEqDiff, reduceCtorEq, vmt, vzb, vzc, vlen, vleaf, velems, oks, vst, vmd, ty, Nat.reduceLeDiff, Nat.reduceMul, Nat.reduceSub, m1093]
    unfold P1093
    simp only [vmr, vmw, vmp, vza, ↓reduceIte, Nat.reduceBEq, Nat.reduceLT, Nat.reduceAdd, Nat.reduceEqDiff, reduceCtorEq, vmt, vzb, vzc, vlen, vleaf, velems, oks, vst, vmd, ty, Nat.reduceLeDiff, Nat.reduceMul, Nat.reduceSub, vzr, m1093]
  all_goals simp only [vmr, vmw, vmp, vza, ↓reduceIte, Nat.reduceBEq, Nat.reduceLT, Nat.reduceAdd, Nat.reduceEqDiff, reduceCtorEq, vmt, vzb, vzc, vlen, vleaf, velems, oks, vst, vmd, ty, Nat.reduceLeDiff, Nat.reduceMul, Nat.reduceSub, m1093]
  all_goals rfl
/-! ### Name -/
theorem F1092_sound : ∀ args v, FnameP args = some v → SoundPure Tryz.prog 92 args (.ret v) := Ftm_sound fun k s c hs => by
  refine s1092 (H := []) sound_nil 1 (by simp) rfl ?_
  simp only [c1092, Tryz.f92, gets, sub]
  have hl : (2 + s.length ≤ 9223372036854775807) = True := eq_true (by omega)
  by_cases q5 : k = 5
  · subst q5
    rw [show nameP 5 s = [115, 46] ++ s from rfl]
    simp only [vmr, vmw, vmp, vza, ↓reduceIte, Nat.reduceBEq, Nat.reduceLT, Nat.reduceAdd, Nat.reduceEqDiff, reduceCtorEq, vmt, vzb, vzc, vlen, vleaf, velems, oks, vst, vmd, ty, Nat.reduceLeDiff, Nat.reduceMul, Nat.reduceSub, vzr, m1092, hl, strOp, Int.reduceBEq]
  · have n5 : (k == 5) = false := by simpa using q5
    by_cases q6 : k = 6
    · subst q6
      rw [show nameP 6 s = [116, 46] ++ s from rfl]
      simp only [vmr, vmw, vmp, vza, ↓reduceIte, Nat.reduceBEq, Nat.reduceLT, Nat.reduceAdd, Nat.reduceEqDiff, reduceCtorEq, vmt, vzb, vzc, vlen, vleaf, velems, oks, vst, vmd, ty, Nat.reduceLeDiff, Nat.reduceMul, Nat.reduceSub, vzr, m1092, hl, strOp, Int.reduceBEq, n5]
    · have n6 : (k == 6) = false := by simpa using q6
      by_cases q7 : k = 7
      · subst q7
        rw [show nameP 7 s = [101, 46] ++ s from rfl]
        simp only [vmr, vmw, vmp, vza, ↓reduceIte, Nat.reduceBEq, Nat.reduceLT, Nat.reduceAdd, Nat.reduceEqDiff, reduceCtorEq, vmt, vzb, vzc, vlen, vleaf, velems, oks, vst, vmd, ty, Nat.reduceLeDiff, Nat.reduceMul, Nat.reduceSub, vzr, m1092, hl, strOp, Int.reduceBEq, n5, n6]
      · have n7 : (k == 7) = false := by simpa using q7
        have hv : isV k = false := by
          cases h : isV k with
          | false => rfl
          | true => rcases isV_iff.1 h with h | h | h <;> contradiction
        rw [nameP_no hv]
        simp only [vmr, vmw, vmp, vza, ↓reduceIte, Nat.reduceBEq, Nat.reduceLT, Nat.reduceAdd, Nat.reduceEqDiff, reduceCtorEq, vmt, vzb, vzc, vlen, vleaf, velems, oks, vst, vmd, ty, Nat.reduceLeDiff, Nat.reduceMul, Nat.reduceSub, vzr, m1092, n5, n6, n7]
end Go.Vi
