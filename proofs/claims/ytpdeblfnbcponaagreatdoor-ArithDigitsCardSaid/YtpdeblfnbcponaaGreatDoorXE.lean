/-
  Walks of slices.Reverse of bytes, and of arith.reversed: in the caller's memory.
-/
import Derived.Test.YtpdeblfnbcponaaGreatDoorXD
set_option linter.unusedSimpArgs false
set_option linter.unusedVariables false
set_option maxRecDepth 100000
set_option maxHeartbeats 1000000
namespace Go.Vi
open Go Go.Proofs

def mcAt (C : Ctx) (g : FuncId) (fn : Func) (lvl n : Nat) : Mc := ⟨evF C n, envOf C g fn lvl, C.hand, n⟩
theorem dels_tau {E : Env} : ∀ (ks : List Key) (s : St), (St.dels E ks s).τ = s.τ
  | [], _ => rfl
  | k :: r, s => by
    show (St.dels E r (s.del E k)).τ = s.τ
    rw [dels_tau r]
    exact del_lc.1
theorem evalO_tau {s s' : St} (h : s'.τ = s.τ) (x : Operand) : evalO s' x = evalO s x := by
  cases x <;> simp only [evalO, h]
theorem qState_tau {E : Env} {ops : Array Oper} {T : List (List Nat)} {acts : List Nat} {s0 s1 : St} {i : Nat} : (qState E ops T acts s0 s1 i).τ = s1.τ := by
  unfold qState
  split
  · exact dels_tau _ _
  · rfl
theorem qop_move {call : CallFn} {E : Env} {H : FuncId → Option (List V → Option V)} {d : Nat} {x : Operand} {ops : Array Oper} {T : List (List Nat)} {acts : List Nat} {s0 s1 : St} {i : Nat} :
    qop call E H d (.move x) (qState E ops T acts s0 s1 i) = some (evalO s1 x) := by
  unfold qop
  simp only [quietK, if_true, aop]
  rw [evalO_tau qState_tau]
section
variable {call : CallFn} {E : Env} {H : FuncId → Option (List V → Option V)} {d : Nat} {τ : List (Nat × V)} {L : List ((Nat × Nat) × (Nat × Obj))} {O : Heap} {c : Nat}
theorem qop_mk1 {x} : qop call E H d (.move x) ⟨τ, L, O, c⟩ = some (evalO ⟨τ, L, O, c⟩ x) := rfl
theorem qop_mk2 {t x} : qop call E H d (.load t x) ⟨τ, L, O, c⟩ = qr (aop call E H d (.load t x) ⟨τ, L, O, c⟩) := rfl
theorem qop_mk3 {t x i} : qop call E H d (.indexAddr t x i) ⟨τ, L, O, c⟩ = qr (aop call E H d (.indexAddr t x i) ⟨τ, L, O, c⟩) := rfl
end
noncomputable abbrev A116 (H : FuncId → Option (List V → Option V)) (n : Nat) : Mc := mcAt (Cx H) 84 Tryz.f84 2 n
theorem a116 (H n) : (A116 H n).E.keep = [0, 2, 3, 9] ∧ (A116 H n).E.cnd = [9] ∧ (A116 H n).E.frz = [2, 3] ∧ (A116 H n).E.pro = [] ∧ (A116 H n).E.imp = [] ∧ (A116 H n).E.n = 28 ∧ (A116 H n).E.lvl = 2 ∧ (A116 H n).E.P = Tryz.prog ∧ (A116 H n).fuel = n ∧ (A116 H n).C = H ∧ (A116 H n).E.ok = okL := ⟨rfl, rfl, rfl, rfl, rfl, rfl, rfl, rfl, rfl, rfl, rfl⟩
noncomputable abbrev ops116 : Array Oper := opsAt (sub [1, 0, 0, 1, 0, 0] c116)
def allAt (f : Oper → Nat → Bool) : List Oper → Nat → Bool
  | [], _ => true
  | o :: r, i => f o i && allAt f r (i + 1)
abbrev B8 (x : Int) : V := .int .u8 x
theorem fits5b (n : Int) : fitsE Tryz.prog 5 (.int .u8 n) = true := by simp [fitsE, ty, leafV]
theorem draw116 {n : Nat} {s : St} {vr len i j : Nat} {es : List V} {a b : Int} (h0 : tget s.τ 0 = .ref ⟨0, 3, 0⟩ vr 0 len) (h2 : tget s.τ 2 = I (i : Nat)) (h3 : tget s.τ 3 = I (j : Nat)) (h26 : tget s.τ 26 = .junk) (h27 : tget s.τ 27 = .junk) (ho : s.O ⟨0, 3, 0⟩ = some (vr, .arr 1 es))
    (hi : i < len) (hj : j < len) (ha : es[i]? = some (B8 a)) (hb : es[j]? = some (B8 b)) (hij : i ≠ j) :
    ∃ τ', drawR (A116 (hand []) n).call (A116 (hand []) n).E (A116 (hand []) n).C ops116 s = some ⟨τ', s.L, oput (oput s.O ⟨0, 3, 0⟩ (vr, .arr 1 (es.set i (B8 b)))) ⟨0, 3, 0⟩ (vr, .arr 1 ((es.set i (B8 b)).set j (B8 a))), s.c⟩ ∧ tget τ' 0 = .ref ⟨0, 3, 0⟩ vr 0 len ∧ tget τ' 2 = I (i : Nat) ∧ tget τ' 3 = I (j : Nat) := by
  unfold drawR
  have hac : actorsOf (A116 (hand []) n).E ops116.toList 0 = [13, 15] := by kernel_rfl
  have f0 : [13, 15].filter (apartI (ancTab ops116.toList []) 0) = [] := by kernel_rfl
  have f1 : [13, 15].filter (apartI (ancTab ops116.toList []) 1) = [] := by kernel_rfl
  have f2 : [13, 15].filter (apartI (ancTab ops116.toList []) 2) = [13] := by kernel_rfl
  have f3 : [13, 15].filter (apartI (ancTab ops116.toList []) 3) = [13] := by kernel_rfl
  have f4 : [13, 15].filter (apartI (ancTab ops116.toList []) 4) = [] := by kernel_rfl
  have f5 : [13, 15].filter (apartI (ancTab ops116.toList []) 5) = [] := by kernel_rfl
  have f6 : [13, 15].filter (apartI (ancTab ops116.toList []) 6) = [] := by kernel_rfl
  have f7 : [13, 15].filter (apartI (ancTab ops116.toList []) 7) = [] := by kernel_rfl
  have f8 : [13, 15].filter (apartI (ancTab ops116.toList []) 8) = [] := by kernel_rfl
  have f9 : [13, 15].filter (apartI (ancTab ops116.toList []) 9) = [] := by kernel_rfl
  have f10 : [13, 15].filter (apartI (ancTab ops116.toList []) 10) = [] := by kernel_rfl
  have f11 : [13, 15].filter (apartI (ancTab ops116.toList []) 11) = [] := by kernel_rfl
  have f12 : [13, 15].filter (apartI (ancTab ops116.toList []) 12) = [] := by kernel_rfl
  have f14 : [13, 15].filter (apartI (ancTab ops116.toList []) 14) = [] := by kernel_rfl
  have hst : allAt (fun o i => staticOk (A116 (hand []) n).E ops116 (ancTab ops116.toList []) [13, 15] o i) ops116.toList 0 = true := by kernel_rfl
  have hlk : ops116.toList.map (Oper.looksAt ops116) = [[0], [2], [0], [3], [0], [3], [18, 19], [20], [0], [2], [22, 23], [24], [14, 15], [26, 21], [16, 17], [27, 25]] := by kernel_rfl
  rw [hac]
  generalize ancTab ops116.toList [] = T at f0 f1 f2 f3 f4 f5 f6 f7 f8 f9 f10 f11 f12 f14 hst
  have g13 : ∀ s0 : St, estAt (A116 (hand []) n).E ops116 s0 13 = (match evalO s0 (.tmp 26) with | .ptr k _ _ _ => some [k] | _ => none) := fun s0 => by kernel_rfl
  have g15 : ∀ s0 : St, estAt (A116 (hand []) n).E ops116 s0 15 = (match evalO s0 (.tmp 27) with | .ptr k _ _ _ => some [k] | _ => none) := fun s0 => by kernel_rfl
  have Q0 : ∀ s0 s1, qState (A116 (hand []) n).E ops116 T [13, 15] s0 s1 0 = ⟨s1.τ, s1.L, s1.O, s1.c + slack⟩ := fun s0 s1 => by unfold qState; rw [f0]; rfl
  have Q1 : ∀ s0 s1, qState (A116 (hand []) n).E ops116 T [13, 15] s0 s1 1 = ⟨s1.τ, s1.L, s1.O, s1.c + slack⟩ := fun s0 s1 => by unfold qState; rw [f1]; rfl
  have Q4 : ∀ s0 s1, qState (A116 (hand []) n).E ops116 T [13, 15] s0 s1 4 = ⟨s1.τ, s1.L, s1.O, s1.c + slack⟩ := fun s0 s1 => by unfold qState; rw [f4]; rfl
  have Q5 : ∀ s0 s1, qState (A116 (hand []) n).E ops116 T [13, 15] s0 s1 5 = ⟨s1.τ, s1.L, s1.O, s1.c + slack⟩ := fun s0 s1 => by unfold qState; rw [f5]; rfl
  have Q6 : ∀ s0 s1, qState (A116 (hand []) n).E ops116 T [13, 15] s0 s1 6 = ⟨s1.τ, s1.L, s1.O, s1.c + slack⟩ := fun s0 s1 => by unfold qState; rw [f6]; rfl
  have Q7 : ∀ s0 s1, qState (A116 (hand []) n).E ops116 T [13, 15] s0 s1 7 = ⟨s1.τ, s1.L, s1.O, s1.c + slack⟩ := fun s0 s1 => by unfold qState; rw [f7]; rfl
  have Q8 : ∀ s0 s1, qState (A116 (hand []) n).E ops116 T [13, 15] s0 s1 8 = ⟨s1.τ, s1.L, s1.O, s1.c + slack⟩ := fun s0 s1 => by unfold qState; rw [f8]; rfl
  have Q9 : ∀ s0 s1, qState (A116 (hand []) n).E ops116 T [13, 15] s0 s1 9 = ⟨s1.τ, s1.L, s1.O, s1.c + slack⟩ := fun s0 s1 => by unfold qState; rw [f9]; rfl
  have Q10 : ∀ s0 s1, qState (A116 (hand []) n).E ops116 T [13, 15] s0 s1 10 = ⟨s1.τ, s1.L, s1.O, s1.c + slack⟩ := fun s0 s1 => by unfold qState; rw [f10]; rfl
  have Q11 : ∀ s0 s1, qState (A116 (hand []) n).E ops116 T [13, 15] s0 s1 11 = ⟨s1.τ, s1.L, s1.O, s1.c + slack⟩ := fun s0 s1 => by unfold qState; rw [f11]; rfl
  have Q12 : ∀ s0 s1, qState (A116 (hand []) n).E ops116 T [13, 15] s0 s1 12 = ⟨s1.τ, s1.L, s1.O, s1.c + slack⟩ := fun s0 s1 => by unfold qState; rw [f12]; rfl
  have Q14 : ∀ s0 s1, qState (A116 (hand []) n).E ops116 T [13, 15] s0 s1 14 = ⟨s1.τ, s1.L, s1.O, s1.c + slack⟩ := fun s0 s1 => by unfold qState; rw [f14]; rfl
  simp only [ops116, sub, c116, Tryz.f84, gets, opsAt, allAt, Bool.and_eq_true, List.map_cons, List.map_nil, List.cons.injEq, Nat.zero_add, Nat.reduceAdd, and_true] at hst hlk g13 g15 Q0 Q1 Q4 Q5 Q6 Q7 Q8 Q9 Q10 Q11 Q12 Q14 ⊢
  obtain ⟨s0, s1, s2, s3, s4, s5, s6, s7, s8, s9, s10, s11, s12, s13, s14, s15⟩ := hst
  obtain ⟨l0, l1, l2, l3, l4, l5, l6, l7, l8, l9, l10, l11, l12, l13, l14, l15⟩ := hlk
  have hib : ((i : Int) < (len : Int)) = True := eq_true (by omega)
  have hjb : ((j : Int) < (len : Int)) = True := eq_true (by omega)
  have haj : (es.set i (B8 b))[j]? = some (B8 b) := by rw [List.getElem?_set_ne hij]; exact hb
  refine ⟨?t, ?h, ?_, ?_, ?_⟩
  case h =>
    simp only [vmr, vmw, vmp, vza, ↓reduceIte, Nat.reduceBEq, Nat.reduceLT, Nat.reduceAdd, Nat.reduceEqDiff, reduceCtorEq, vmt, vzb, vzc, vlen, vleaf, velems, oks, vst, vmd, ty, Nat.reduceLeDiff, Nat.reduceMul, Nat.reduceSub, drawOps, s0, s1, s2, s3, s4, s5, s6, s7, s8, s9, s10, s11, s12, s13, s14, s15, l0, l1, l2, l3, l4, l5, l6, l7, l8, l9, l10, l11, l12, l13, l14, l15, wantedV, focus, fget, a116, qop_move, qop_mk1, qop_mk2, qop_mk3, aop, setD, touchOk, obj_lo, put_lo, oput, fits5b, List.contains_cons, List.isEmpty_nil, Bool.or_true, hib, hjb, ha, hb, haj, ho, Q0, Q1, Q4, Q5, Q6, Q7, Q8, Q9, Q10, Q11, Q12, Q14, g13, g15, h0, h2, h3, h26, h27]
    exact rfl
  all_goals simp only [vmr, vmw, vmp, vza, ↓reduceIte, Nat.reduceBEq, Nat.reduceLT, Nat.reduceAdd, Nat.reduceEqDiff, reduceCtorEq, vmt, vzb, vzc, vlen, vleaf, velems, oks, vst, vmd, ty, Nat.reduceLeDiff, Nat.reduceMul, Nat.reduceSub, a116, h0, h2, h3]
theorem R_drawn {M : Mc} {k : K} {s s' : St} {id : Nat} {ops : Array Oper} (h : drawR M.call M.E M.C ops s = some s') : R M (.region id ops true) k s = X M .norm k ⟨tkeep s'.τ M.E.keep, lkeep s'.L M.E.keep, s'.O, s'.c⟩ := by
  unfold R X evM
  conv => lhs; unfold evC
  rw [h]
  rfl
theorem R116 {n : Nat} {k : K} {s : St} {vr len i j : Nat} {es : List V} {a b : Int} (h0 : tget s.τ 0 = .ref ⟨0, 3, 0⟩ vr 0 len) (h2 : tget s.τ 2 = I (i : Nat)) (h3 : tget s.τ 3 = I (j : Nat)) (h26 : tget s.τ 26 = .junk) (h27 : tget s.τ 27 = .junk) (ho : s.O ⟨0, 3, 0⟩ = some (vr, .arr 1 es))
    (hi : i < len) (hj : j < len) (ha : es[i]? = some (B8 a)) (hb : es[j]? = some (B8 b)) (hij : i ≠ j) {P : Option (Ex × St) → Prop}
    (h : ∀ τ', tget τ' 0 = .ref ⟨0, 3, 0⟩ vr 0 len → tget τ' 2 = I (i : Nat) → tget τ' 3 = I (j : Nat) → P (X (A116 (hand []) n) .norm k ⟨τ', lkeep s.L (A116 (hand []) n).E.keep, oput (oput s.O ⟨0, 3, 0⟩ (vr, .arr 1 (es.set i (B8 b)))) ⟨0, 3, 0⟩ (vr, .arr 1 ((es.set i (B8 b)).set j (B8 a))), s.c⟩)) :
    P (R (A116 (hand []) n) (sub [1, 0, 0, 1, 0, 0] c116) k s) := by
  obtain ⟨τ', hd, e0, e2, e3⟩ := draw116 (n := n) h0 h2 h3 h26 h27 ho hi hj ha hb hij
  have hd' : R (A116 (hand []) n) (sub [1, 0, 0, 1, 0, 0] c116) k s = _ := R_drawn (id := 3) hd
  rw [hd']
  refine h _ ?_ ?_ ?_
  all_goals simp only [vmr, vmw, vmp, vza, ↓reduceIte, Nat.reduceBEq, Nat.reduceLT, Nat.reduceAdd, Nat.reduceEqDiff, reduceCtorEq, vmt, vzb, vzc, vlen, vleaf, velems, oks, vst, vmd, ty, Nat.reduceLeDiff, Nat.reduceMul, Nat.reduceSub, a116, e0, e2, e3]
/-- A row on its way to its reverse: i of each end have changed places. -/
def Rv (xs : List Int) (i : Nat) (r : List Int) : Prop := r.length = xs.length ∧ ∀ k, k < xs.length → r[k]? = if k < i ∨ xs.length < k + 1 + i then xs[xs.length - 1 - k]? else xs[k]?
theorem rv_zero {xs : List Int} : Rv xs 0 xs := ⟨rfl, fun k h => by rw [if_neg (by omega)]⟩
theorem rv_end {xs r : List Int} {i : Nat} (h : Rv xs i r) (hi : xs.length ≤ 2 * i + 1) (hi2 : 2 * i ≤ xs.length) : r = xs.reverse := by
  apply List.ext_getElem?
  intro k
  by_cases hk : k < xs.length
  · rw [h.2 k hk, List.getElem?_reverse hk]
    split
    · rfl
    · rw [show xs.length - 1 - k = k by omega]
  · rw [List.getElem?_eq_none (by rw [h.1]; omega), List.getElem?_eq_none (by simp; omega)]
theorem rv_step {xs r : List Int} {i : Nat} {a b : Int} (h : Rv xs i r) (hi : 2 * i + 1 < xs.length) (ha : r[i]? = some a) (hb : r[xs.length - 1 - i]? = some b) : Rv xs (i + 1) ((r.set i b).set (xs.length - 1 - i) a) := by
  refine ⟨by simp [h.1], fun k hk => ?_⟩
  have e := h.2 k hk
  have ei := h.2 i (by omega)
  have ej := h.2 (xs.length - 1 - i) (by omega)
  rw [if_neg (by omega), ha] at ei
  rw [if_neg (by omega), hb] at ej
  rw [List.getElem?_set, List.getElem?_set]
  simp only [List.length_set, h.1]
  by_cases e1 : xs.length - 1 - i = k
  · subst e1
    rw [if_pos rfl, if_pos (by omega), if_pos (by omega), show xs.length - 1 - (xs.length - 1 - i) = i by omega, ei]
  · rw [if_neg e1]
    by_cases e2 : i = k
    · subst e2
      rw [if_pos rfl, if_pos (by omega), if_pos (by omega), ej]
    · rw [if_neg e2, e]
      by_cases e3 : k < i ∨ xs.length < k + 1 + i
      · rw [if_pos e3, if_pos (by omega)]
      · rw [if_neg e3, if_neg (by omega)]
theorem l116 {n k vr} {xs : List Int} (hx : xs.length ≤ 1000000) {P : Option (Ex × St) → Prop} : ∀ d i r n' s, xs.length ≤ 2 * i + d → d < n' → 2 * i ≤ xs.length → Rv xs i r → tget s.τ 0 = .ref ⟨0, 3, 0⟩ vr 0 xs.length → tget s.τ 2 = I (i : Nat) → tget s.τ 3 = I ((xs.length : Int) - 1 - (i : Nat)) → s.O ⟨0, 3, 0⟩ = some (vr, .arr 1 (r.map B8)) →
    (∀ s', s'.O ⟨0, 3, 0⟩ = some (vr, .arr 1 (xs.reverse.map B8)) → P (X (A116 (hand []) n) (.exit 0) k s')) →
    P (L (A116 (hand []) n) (sub [1, 0, 0] c116) n' k s) := by
  intro d
  induction d with
  | zero =>
    intro i r n' s hd hn hi hr h0 h2 h3 ho hP
    obtain ⟨n', rfl⟩ : ∃ m, n' = m + 1 := ⟨n' - 1, by omega⟩
    have hc : ((i : Int) < (xs.length : Int) - 1 - (i : Int)) = False := eq_false (by omega)
    have := rv_end hr (by omega) hi
    subst this
    rw [L_succ]
    simp only [vmr, vmw, vmp, vza, ↓reduceIte, Nat.reduceBEq, Nat.reduceLT, Nat.reduceAdd, Nat.reduceEqDiff, reduceCtorEq, vmt, vzb, vzc, vlen, vleaf, velems, oks, vst, vmd, ty, Nat.reduceLeDiff, Nat.reduceMul, Nat.reduceSub, c116, Tryz.f84, a116, h2, h3, hc]
    exact hP _ ho
  | succ d ih =>
    intro i r n' s hd hn hi hr h0 h2 h3 ho hP
    obtain ⟨n', rfl⟩ : ∃ m, n' = m + 1 := ⟨n' - 1, by omega⟩
    by_cases he : xs.length ≤ 2 * i + 1
    · have hc : ((i : Int) < (xs.length : Int) - 1 - (i : Int)) = False := eq_false (by omega)
      have := rv_end hr he hi
      subst this
      rw [L_succ]
      simp only [vmr, vmw, vmp, vza, ↓reduceIte, Nat.reduceBEq, Nat.reduceLT, Nat.reduceAdd, Nat.reduceEqDiff, reduceCtorEq, vmt, vzb, vzc, vlen, vleaf, velems, oks, vst, vmd, ty, Nat.reduceLeDiff, Nat.reduceMul, Nat.reduceSub, c116, Tryz.f84, a116, h2, h3, hc]
      exact hP _ ho
    · have hc : ((i : Int) < (xs.length : Int) - 1 - (i : Int)) = True := eq_true (by omega)
      have ej : (xs.length : Int) - 1 - (i : Nat) = ((xs.length - 1 - i : Nat) : Int) := by omega
      have la : i < r.length := by rw [hr.1]; omega
      have lb : xs.length - 1 - i < r.length := by rw [hr.1]; omega
      have ha : r[i]? = some r[i] := List.getElem?_eq_getElem la
      have hb : r[xs.length - 1 - i]? = some r[xs.length - 1 - i] := List.getElem?_eq_getElem lb
      have hr' := rv_step hr (by omega) ha hb
      have w1 := wsucc9' (i := i) (by omega)
      have w2 : IntKind.i64.wrap (((xs.length - 1 - i : Nat) : Int) - 1) = (xs.length : Int) - 1 - ((i + 1 : Nat) : Int) := by rw [wrap_id] <;> omega
      have ih := fun s => ih (i + 1) _ n' s (by omega) (by omega) (by omega) hr'
      have a1 := fun k s h0 h2 h3 h26 h27 ho => @R116 n k s vr xs.length i (xs.length - 1 - i) (r.map B8) r[i] r[xs.length - 1 - i] h0 h2 h3 h26 h27 ho (by omega) (by omega) (by simp [ha]) (by simp [hb]) (by omega) P
      generalize r[i] = a at *
      generalize r[xs.length - 1 - i] = b at *
      simp only [sub, c116, Tryz.f84, gets] at a1 ih
      rw [L_succ]
      simp only [vmr, vmw, vmp, vza, ↓reduceIte, Nat.reduceBEq, Nat.reduceLT, Nat.reduceAdd, Nat.reduceEqDiff, reduceCtorEq, vmt, vzb, vzc, vlen, vleaf, velems, oks, vst, vmd, ty, Nat.reduceLeDiff, Nat.reduceMul, Nat.reduceSub, c116, Tryz.f84, a116, h2, h3, hc]
      refine a1 _ _ ?_ ?_ ?_ ?_ ?_ ?_ (fun τ' e0 e2 e3 => ?_)
      case refine_7 =>
        simp only [vmr, vmw, vmp, vza, ↓reduceIte, Nat.reduceBEq, Nat.reduceLT, Nat.reduceAdd, Nat.reduceEqDiff, reduceCtorEq, vmt, vzb, vzc, vlen, vleaf, velems, oks, vst, vmd, ty, Nat.reduceLeDiff, Nat.reduceMul, Nat.reduceSub, a116, e0, e2, e3, w1, w2]
        refine ih _ ?_ ?_ ?_ ?_ hP
        all_goals simp only [vmr, vmw, vmp, vza, ↓reduceIte, Nat.reduceBEq, Nat.reduceLT, Nat.reduceAdd, Nat.reduceEqDiff, reduceCtorEq, vmt, vzb, vzc, vlen, vleaf, velems, oks, vst, vmd, ty, Nat.reduceLeDiff, Nat.reduceMul, Nat.reduceSub, a116, e0, List.map_set, oput, if_true]
      all_goals simp only [vmr, vmw, vmp, vza, ↓reduceIte, Nat.reduceBEq, Nat.reduceLT, Nat.reduceAdd, Nat.reduceEqDiff, reduceCtorEq, vmt, vzb, vzc, vlen, vleaf, velems, oks, vst, vmd, ty, Nat.reduceLeDiff, Nat.reduceMul, Nat.reduceSub, a116, h0, h2, h3, ej, ho]
end Go.Vi
set_option maxRecDepth 100000
set_option maxHeartbeats 1000000
namespace Go.Vi
open Go Go.Proofs

/-- A call that is handed the caller's memory. -/
def CI (E : Env) (d : Nat) (s : St) : Option (COut × Nat × Heap) → Option Res
  | some (.ret v, c', O') => if shapeR v then some (.val (importV E d v (back E s c' O')).1 (importV E d v (back E s c' O')).2) else none
  | some (.pan v, c', O') => some (.pan v (back E s c' O'))
  | none => none
theorem callV_i {call : CallFn} {E : Env} {H : FuncId → Option (List V → Option V)} {d : Nat} {g : FuncId} {first caps args : List V} {s : St} (hg : E.ok.contains g = true) (hi : E.imp.contains g = true ∨ frzs E s (first ++ args ++ caps) = none) :
    callV call E H d (.fn (.func g) first caps) args s = CI E d s (call.fn g (first ++ args ++ caps) (E.lvl + 1) s.c (s.heap E)) := by
  unfold callV
  have hn : (if E.imp.contains g then none else frzs E s (first ++ args ++ caps)) = none := by
    rcases hi with h | h
    · rw [if_pos h]
    · rw [h]; split <;> rfl
  dsimp only
  rw [if_pos hg, hn]
  dsimp only
  cases call.fn g (first ++ args ++ caps) (E.lvl + 1) s.c (s.heap E) with
  | none => rfl
  | some q =>
    obtain ⟨o, c', O'⟩ := q
    cases o <;> rfl
theorem evF_at1 {C : Ctx} {g : FuncId} {fn : Func} {b : Code} {args : List V} {n lvl c r : Nat} {O : Heap} {s' : St} {v : V} (hf : C.P.funcs[g]? = some fn) (hb : fn.body = some b) (hl : args.length ≤ fn.ntmps) (hr : fn.results.toList = [.tmp r])
    (h : R ⟨evF C n, envOf C g fn lvl, C.hand, n⟩ b .top ⟨params 0 args, [], O, c⟩ = some (.norm, s') ∨ R ⟨evF C n, envOf C g fn lvl, C.hand, n⟩ b .top ⟨params 0 args, [], O, c⟩ = some (.ret, s')) (he : exports (envOf C g fn lvl) s' [tget s'.τ r] = some [v]) :
    (evF C (n + 1)).fn g args lvl c O = some (.ret v, s'.c, lower lvl s'.O) := by
  simp only [R, evM, K.back] at h
  unfold evF
  simp only [hf, hb, if_pos hl]
  rcases h with h | h <;> simp only [h, hr, resV, Option.map_some, Option.bind_some, he, tupV]
def Q116 (vr : Nat) (xs : List Int) (r : Option (Ex × St)) : Prop := ∃ s', r = some (.norm, s') ∧ s'.O ⟨0, 3, 0⟩ = some (vr, .arr 1 (xs.reverse.map B8))
theorem w116 {n c vr O} {xs : List Int} (hx : xs.length ≤ 1000000) (hn : 1000001 < n) (hO : O ⟨0, 3, 0⟩ = some (vr, .arr 1 (xs.map B8))) :
    ∃ c' O', (evF (Cx (hand [])) (n + 1)).fn 84 [.ref ⟨0, 3, 0⟩ vr 0 xs.length] 2 c O = some (.ret (.tup []), c', O') ∧ O' ⟨0, 3, 0⟩ = some (vr, .arr 1 (xs.reverse.map B8)) := by
  have key : Q116 vr xs (R (A116 (hand []) n) c116 .top ⟨params 0 [.ref ⟨0, 3, 0⟩ vr 0 xs.length], [], O, c⟩) := by
    have a1 := fun k s => @l116 n k vr xs hx (Q116 vr xs) xs.length 0 xs n s (by omega) (by omega) (by omega) rv_zero
    have w1 : IntKind.i64.wrap ((xs.length : Int) - 1) = (xs.length : Int) - 1 - ((0 : Nat) : Int) := by rw [wrap_id] <;> omega
    simp only [sub, c116, Tryz.f84, gets] at a1
    simp only [vmr, vmw, vmp, vza, ↓reduceIte, Nat.reduceBEq, Nat.reduceLT, Nat.reduceAdd, Nat.reduceEqDiff, reduceCtorEq, vmt, vzb, vzc, vlen, vleaf, velems, oks, vst, vmd, ty, Nat.reduceLeDiff, Nat.reduceMul, Nat.reduceSub, c116, Tryz.f84, a116, w1]
    refine a1 _ _ ?_ ?_ ?_ hO (fun s' hs => ?_)
    case refine_4 =>
      simp only [vmr, vmw, vmp, vza, ↓reduceIte, Nat.reduceBEq, Nat.reduceLT, Nat.reduceAdd, Nat.reduceEqDiff, reduceCtorEq, vmt, vzb, vzc, vlen, vleaf, velems, oks, vst, vmd, ty, Nat.reduceLeDiff, Nat.reduceMul, Nat.reduceSub, a116]
      exact ⟨s', rfl, hs⟩
    all_goals simp only [vmr, vmw, vmp, vza, ↓reduceIte, Nat.reduceBEq, Nat.reduceLT, Nat.reduceAdd, Nat.reduceEqDiff, reduceCtorEq, vmt, vzb, vzc, vlen, vleaf, velems, oks, vst, vmd, ty, Nat.reduceLeDiff, Nat.reduceMul, Nat.reduceSub, a116]
  obtain ⟨s', hr, hi⟩ := key
  refine ⟨_, _, evF_at (C := Cx (hand [])) (n := n) (fn := Tryz.f84) (b := c116) (s' := s') Tryz.func84 rfl (show 1 ≤ 28 by omega) rfl (.inl hr), ?_⟩
  rw [lower_get, if_pos (by omega)]
  exact hi
theorem lk_nil {ks} : lkeep [] ks = [] := by induction ks <;> simp_all [lkeep]
noncomputable abbrev A104 (H : FuncId → Option (List V → Option V)) (n : Nat) : Mc := mcAt (Cx H) 71 Tryz.f71 1 n
theorem a104 (H n) : (A104 H n).E.keep = [0, 2] ∧ (A104 H n).E.cnd = [] ∧ (A104 H n).E.frz = [] ∧ (A104 H n).E.pro = [] ∧ (A104 H n).E.imp = [84] ∧ (A104 H n).E.n = 6 ∧ (A104 H n).E.lvl = 1 ∧ (A104 H n).E.P = Tryz.prog ∧ (A104 H n).fuel = n ∧ (A104 H n).C = H ∧ (A104 H n).E.ok = okL := ⟨rfl, rfl, rfl, rfl, rfl, rfl, rfl, rfl, rfl, rfl, rfl⟩
def Q104 (vr : Nat) (xs : List Int) (r : Option (Ex × St)) : Prop := ∃ s', r = some (.ret, s') ∧ s'.O ⟨0, 3, 0⟩ = some (vr, .arr 1 (xs.reverse.map B8)) ∧ tget s'.τ 2 = .ref ⟨0, 3, 0⟩ vr 0 xs.length
theorem w104 {n c vr O} {xs : List Int} (hx : xs.length ≤ 1000000) (hn : 1000001 < n) (hO : O ⟨0, 3, 0⟩ = some (vr, .arr 1 (xs.map B8))) :
    ∃ c' O', (evF (Cx (hand [])) (n + 2)).fn 71 [.ref ⟨0, 3, 0⟩ vr 0 xs.length] 1 c O = some (.ret (.ref ⟨0, 3, 0⟩ vr 0 xs.length), c', O') ∧ O' ⟨0, 3, 0⟩ = some (vr, .arr 1 (xs.reverse.map B8)) := by
  have key : Q104 vr xs (R (A104 (hand []) (n + 1)) c104 .top ⟨params 0 [.ref ⟨0, 3, 0⟩ vr 0 xs.length], [], O, c⟩) := by
    obtain ⟨c', O', hc, ho⟩ := w116 (n := n) (c := c) (vr := vr) (O := heapOf 1 [] O) (xs := xs) hx hn (by rw [heapOf_get]; exact hO)
    have hcall : (A104 (hand []) (n + 1)).call = evF (Cx (hand [])) (n + 1) := rfl
    simp only [vmr, vmw, vmp, vza, ↓reduceIte, Nat.reduceBEq, Nat.reduceLT, Nat.reduceAdd, Nat.reduceEqDiff, reduceCtorEq, vmt, vzb, vzc, vlen, vleaf, velems, oks, vst, vmd, ty, Nat.reduceLeDiff, Nat.reduceMul, Nat.reduceSub, c104, Tryz.f71, a104, callV_i, St.heap, lk_nil]
    rw [hcall, hc]
    simp only [vmr, vmw, vmp, vza, ↓reduceIte, Nat.reduceBEq, Nat.reduceLT, Nat.reduceAdd, Nat.reduceEqDiff, reduceCtorEq, vmt, vzb, vzc, vlen, vleaf, velems, oks, vst, vmd, ty, Nat.reduceLeDiff, Nat.reduceMul, Nat.reduceSub, CI, a104, back_τ, back_O, back_c]
    exact ⟨_, rfl, ho, by simp only [vmr, vmw, vmp, vza, ↓reduceIte, Nat.reduceBEq, Nat.reduceLT, Nat.reduceAdd, Nat.reduceEqDiff, reduceCtorEq, vmt, vzb, vzc, vlen, vleaf, velems, oks, vst, vmd, ty, Nat.reduceLeDiff, Nat.reduceMul, Nat.reduceSub, back_τ]⟩
  obtain ⟨s', hr, hi, ht⟩ := key
  refine ⟨_, _, evF_at1 (C := Cx (hand [])) (n := n + 1) (fn := Tryz.f71) (b := c104) (s' := s') Tryz.func71 rfl (show 1 ≤ 6 by omega) rfl (.inr hr) (by rw [ht]; rfl), ?_⟩
  rw [lower_get, if_pos (by omega)]
  exact hi
end Go.Vi
set_option maxRecDepth 100000
set_option maxHeartbeats 1000000
namespace Go.Vi
open Go Go.Proofs

theorem room5 {n : Nat} (h : n ≤ 10000000) : roomOk Tryz.prog 5 n = true := by
  simp [roomOk, ty, cellsV, leafV]; omega
/-- The digits, least first, as bytes. -/
def dgV (p n : Nat) : List V := (fx 10 p n).map fun d => B8 (48 + d)
theorem dgV_len {p n} : (dgV p n).length = p := by simp [dgV, fx_len]
theorem dgV_succ (p n : Nat) : dgV (p + 1) n = dgV p n ++ [B8 (48 + ((n / 10 ^ p % 10 : Nat) : Int))] := by simp [dgV, fx_snoc]
theorem lm_of {B p n : Nat} (hB : 2 ≤ B) (h1 : n < B ^ p) (h2 : B ^ (p - 1) ≤ n) : fx B p n = lm B n := by
  have hl : (lm B n).length = p := by
    have a := (lm_len_le hB n p).2 h1
    by_cases hp : p = 0
    · omega
    · have b := mt (lm_len_le hB n (p - 1)).1 (by omega)
      omega
  unfold lm
  rw [lm_len] at hl
  rw [hl]
def txt (n : Nat) : List UInt8 := if n = 0 then [48] else ((lm 10 n).map fun d => UInt8.ofNat (48 + d.toNat)).reverse
structure P86 (s : St) (n l v3 p : Nat) : Prop where
  h0 : tget s.τ 0 = N n
  h3 : tget s.τ 3 = .ref ⟨0, 3, 0⟩ v3 0 p
  h3' : lget s.L (3, 0) = some (v3, .arr (szi p) (dgV p n))
  h10 : tget s.τ 10 = N n
  h11 : tget s.τ 11 = I (l : Nat)
theorem wsub1 {l : Nat} (h : 0 < l) (h2 : l ≤ 1000000) : IntKind.i64.wrap ((l : Int) - 1) = ((l - 1 : Nat) : Int) := by rw [wrap_id] <;> omega
theorem w48 {d : Nat} (h : d < 10) : IntKind.u8.wrap (48 + (d : Int)) = 48 + (d : Int) := by
  simp [IntKind.wrap, IntKind.signed, IntKind.bits]
  omega
theorem l86a {n k} {x l i : Nat} (hl : (lm 10000 x).length = l) (hil : i < l) (hfew : l ≤ 100000) {P : Option (Ex × St) → Prop} : ∀ d m v3 n' s, m + d = 4 → d < n' → P86 s x l v3 (4 * i + m) → tget s.τ 12 = I (i : Nat) → tget s.τ 4 = I (i : Nat) → tget s.τ 6 = I (m : Nat) → tget s.τ 5 = I ((x / 10 ^ (4 * i + m) % 10 ^ d : Nat) : Int) → 10 ^ (4 * i + m - 1) ≤ x →
    (∀ s' v3 p, (i + 1 < l ∧ p = 4 * (i + 1) ∨ i + 1 = l ∧ x < 10 ^ p) → p ≤ 4 * (i + 1) → 10 ^ (p - 1) ≤ x → P86 s' x l v3 p → tget s'.τ 12 = I (i : Nat) → P (X (M86 (hand []) n) (.exit 2) k s')) →
    P (L (M86 (hand []) n) (sub [1, 1, 1, 0, 1, 0, 0, 1, 1, 0, 0, 1, 1, 0, 0] c86) n' k s) := by
  have hx0 : 10 ^ (4 * (l - 1)) ≤ x := by
    have := mt (lm_len_le (B := 10000) (by omega) x (l - 1)).2 (by omega)
    rw [Nat.pow_mul]
    have e : (10 : Nat) ^ 4 = 10000 := rfl
    rw [e]
    omega
  have hx1 : x < 10 ^ (4 * l) := by
    have := lm_lt (B := 10000) (by omega) x
    rw [hl] at this
    rw [Nat.pow_mul]
    exact this
  intro d
  induction d with
  | zero =>
    intro m v3 n' s hd hn hP h12 h4 h6 h5 hp hx
    obtain ⟨n', rfl⟩ : ∃ m, n' = m + 1 := ⟨n' - 1, by omega⟩
    obtain ⟨h0, h3, h3', h10, h11⟩ := hP
    have hc : ((m : Int) < 4) = False := eq_false (by omega)
    rw [L_succ]
    simp only [vmr, vmw, vmp, vza, ↓reduceIte, Nat.reduceBEq, Nat.reduceLT, Nat.reduceAdd, Nat.reduceEqDiff, reduceCtorEq, vmt, vzb, vzc, vlen, vleaf, velems, oks, vst, vmd, ty, Nat.reduceLeDiff, Nat.reduceMul, Nat.reduceSub, c86, Tryz.f55, m86, h6, hc]
    refine hx _ v3 (4 * i + m) ?_ (by omega) hp ⟨?_, ?_, ?_, ?_, ?_⟩ ?_
    · by_cases hi : i + 1 < l
      · exact .inl ⟨hi, by omega⟩
      · refine .inr ⟨by omega, ?_⟩
        rw [show 4 * i + m = 4 * l by omega]
        exact hx1
    all_goals simp only [vmr, vmw, vmp, vza, ↓reduceIte, Nat.reduceBEq, Nat.reduceLT, Nat.reduceAdd, Nat.reduceEqDiff, reduceCtorEq, vmt, vzb, vzc, vlen, vleaf, velems, oks, vst, vmd, ty, Nat.reduceLeDiff, Nat.reduceMul, Nat.reduceSub, m86, h0, h3, h3', h10, h11, h12]
  | succ d ih =>
    intro m v3 n' s hd hn hP h12 h4 h6 h5 hp hx
    obtain ⟨n', rfl⟩ : ∃ m, n' = m + 1 := ⟨n' - 1, by omega⟩
    obtain ⟨h0, h3, h3', h10, h11⟩ := hP
    have hc : ((m : Int) < 4) = True := eq_true (by omega)
    have w1 := wsub1 (l := l) (by omega) (by omega)
    have hlen : (lm 10000 x).length = l := hl
    by_cases hz : i + 1 = l ∧ x < 10 ^ (4 * i + m)
    · have c1 : ((i : Int) < ((l - 1 : Nat) : Int)) = False := eq_false (by omega)
      have e5 : x / 10 ^ (4 * i + m) % 10 ^ (d + 1) = 0 := by rw [Nat.div_eq_of_lt hz.2]; exact Nat.zero_mod _
      rw [e5] at h5
      have c2 : (((0 : Nat) : Int) > 0) = False := eq_false (by omega)
      rw [L_succ]
      simp only [vmr, vmw, vmp, vza, ↓reduceIte, Nat.reduceBEq, Nat.reduceLT, Nat.reduceAdd, Nat.reduceEqDiff, reduceCtorEq, vmt, vzb, vzc, vlen, vleaf, velems, oks, vst, vmd, ty, Nat.reduceLeDiff, Nat.reduceMul, Nat.reduceSub, c86, Tryz.f55, m86, h6, hc, h4, h0, h5, w1, c1, c2, hlen]
      refine hx _ v3 (4 * i + m) (.inr hz) (by omega) hp ⟨?_, ?_, ?_, ?_, ?_⟩ ?_
      all_goals simp only [vmr, vmw, vmp, vza, ↓reduceIte, Nat.reduceBEq, Nat.reduceLT, Nat.reduceAdd, Nat.reduceEqDiff, reduceCtorEq, vmt, vzb, vzc, vlen, vleaf, velems, oks, vst, vmd, ty, Nat.reduceLeDiff, Nat.reduceMul, Nat.reduceSub, m86, h0, h3, h3', h10, h11, h12]
    · have hge : 10 ^ (4 * i + m) ≤ x := by
        by_cases hi : i + 1 = l
        · have : ¬ x < 10 ^ (4 * i + m) := fun h => hz ⟨hi, h⟩
          omega
        · have : (10 : Nat) ^ (4 * i + m) ≤ 10 ^ (4 * (l - 1)) := Nat.pow_le_pow_right (by omega) (by omega)
          omega
      have ih := fun v3 s hP => ih (m + 1) v3 n' s (by omega) (by omega) hP
      have hq : x / 10 ^ (4 * i + m) % 10 ^ (d + 1) / 10 = x / 10 ^ (4 * i + (m + 1)) % 10 ^ d := by
        rw [show 4 * i + (m + 1) = 4 * i + m + 1 by omega, Nat.pow_succ 10 (4 * i + m), ← Nat.div_div_eq_div_mul, Nat.pow_succ, Nat.mul_comm (10 ^ d) 10, Nat.mod_mul_right_div_self]
      have hr : x / 10 ^ (4 * i + m) % 10 ^ (d + 1) % 10 = x / 10 ^ (4 * i + m) % 10 := Nat.mod_mod_of_dvd _ (Nat.pow_succ 10 d ▸ Nat.dvd_mul_left _ _)
      have hpos : i + 1 = l → 0 < x / 10 ^ (4 * i + m) % 10 ^ (d + 1) := by
        intro hi
        have h1 : x / 10 ^ (4 * i + m) < 10 ^ (d + 1) := by
          rw [Nat.div_lt_iff_lt_mul (Nat.pow_pos (by omega)), ← Nat.pow_add, show d + 1 + (4 * i + m) = 4 * l by omega]
          exact hx1
        rw [Nat.mod_eq_of_lt h1]
        exact Nat.div_pos hge (Nat.pow_pos (by omega))
      have hlt : x / 10 ^ (4 * i + m) % 10 ^ (d + 1) < 10000 := by
        have := Nat.mod_lt (x / 10 ^ (4 * i + m)) (Nat.pow_pos (n := d + 1) (show 0 < 10 by omega))
        have h4 : (10 : Nat) ^ (d + 1) ≤ 10 ^ 4 := Nat.pow_le_pow_right (by omega) (by omega)
        omega
      have hsu := dgV_succ (4 * i + m) x
      rw [← hr, show 4 * i + m + 1 = 4 * i + (m + 1) by omega] at hsu
      rw [← hq] at ih
      rw [show 4 * i + (m + 1) - 1 = 4 * i + m by omega] at ih
      generalize x / 10 ^ (4 * i + m) % 10 ^ (d + 1) = t at *
      generalize hp' : 4 * i + m = p at *
      have w2 : IntKind.i64.wrap ((t : Int).tdiv 10) = ((t / 10 : Nat) : Int) := by
        rw [show Int.tdiv (t : Int) 10 = ((t / 10 : Nat) : Int) from rfl, wrap_id] <;> omega
      have w3 : Int.tmod (t : Int) 10 = ((t % 10 : Nat) : Int) := rfl
      have w4 : IntKind.i64.wrap (48 + ((t % 10 : Nat) : Int)) = 48 + ((t % 10 : Nat) : Int) := by rw [wrap_id] <;> omega
      have w5 := w48 (d := t % 10) (by omega)
      have w6 := wsucc9' (i := m) (by omega)
      simp only [sub, c86, Tryz.f55, gets] at ih
      have hr1 := @room5 1 (by omega)
      have hr2 := @room5 (p + 1) (by omega)
      have hdl := @dgV_len p x
      have hz3 : szi (4 * i + (m + 1)) = 1 := by unfold szi; rw [if_neg (by omega)]
      have hp1 : p + 1 = 4 * i + (m + 1) := by omega
      have n10 : ((10 : Int) = 0) = False := by decide
      by_cases hi : i + 1 < l
      · have c1 : ((i : Int) < ((l - 1 : Nat) : Int)) = True := eq_true (by omega)
        rcases Nat.eq_zero_or_pos p with hp0 | hp0
        · have hS : szi p = 0 := by rw [hp0]; rfl
          have hD : dgV p x = [] := by rw [hp0]; rfl
          have hpe : (p = 0) = True := eq_true hp0
          have hp1 : 4 * i + (m + 1) = 1 := by omega
          rw [hp1] at hsu hz3
          rw [hS, hD] at h3'
          rw [hD] at hsu
          rw [L_succ]
          simp only [vmr, vmw, vmp, vza, ↓reduceIte, Nat.reduceBEq, Nat.reduceLT, Nat.reduceAdd, Nat.reduceEqDiff, reduceCtorEq, vmt, vzb, vzc, vlen, vleaf, velems, oks, vst, vmd, ty, Nat.reduceLeDiff, Nat.reduceMul, Nat.reduceSub, c86, Tryz.f55, m86, h6, hc, h4, h0, h5, w1, c1, hlen, w2, w3, w4, w5, w6, n10, h3, h3', fits5b, hr1, hr2, dgV_len, hpe, List.map_cons]
          refine ih (s.c + 1 + 1) _ ⟨?_, ?_, ?_, ?_, ?_⟩ ?_ ?_ ?_ ?_ hge hx
          all_goals simp only [vmr, vmw, vmp, vza, ↓reduceIte, Nat.reduceBEq, Nat.reduceLT, Nat.reduceAdd, Nat.reduceEqDiff, reduceCtorEq, vmt, vzb, vzc, vlen, vleaf, velems, oks, vst, vmd, ty, Nat.reduceLeDiff, Nat.reduceMul, Nat.reduceSub, m86, h0, h3, h3', h10, h11, h12, h4, hz3, hsu, hp1, List.length_append, dgV_len]
        · have hS : szi p = 1 := by unfold szi; rw [if_neg (by omega)]
          have hpe : (p = 0) = False := eq_false (by omega)
          rw [hS] at h3'
          rw [L_succ]
          simp only [vmr, vmw, vmp, vza, ↓reduceIte, Nat.reduceBEq, Nat.reduceLT, Nat.reduceAdd, Nat.reduceEqDiff, reduceCtorEq, vmt, vzb, vzc, vlen, vleaf, velems, oks, vst, vmd, ty, Nat.reduceLeDiff, Nat.reduceMul, Nat.reduceSub, c86, Tryz.f55, m86, h6, hc, h4, h0, h5, w1, c1, hlen, w2, w3, w4, w5, w6, n10, h3, h3', fits5b, hr1, hr2, dgV_len, hpe, List.map_cons]
          refine ih (s.c + 1 + 1) _ ⟨?_, ?_, ?_, ?_, ?_⟩ ?_ ?_ ?_ ?_ hge hx
          all_goals simp only [vmr, vmw, vmp, vza, ↓reduceIte, Nat.reduceBEq, Nat.reduceLT, Nat.reduceAdd, Nat.reduceEqDiff, reduceCtorEq, vmt, vzb, vzc, vlen, vleaf, velems, oks, vst, vmd, ty, Nat.reduceLeDiff, Nat.reduceMul, Nat.reduceSub, m86, h0, h3, h3', h10, h11, h12, h4, hz3, hsu, hp1, List.length_append, dgV_len]
      · have c1 : ((i : Int) < ((l - 1 : Nat) : Int)) = False := eq_false (by omega)
        have c2 : ((t : Int) > 0) = True := eq_true (by have := hpos (by omega); omega)
        rcases Nat.eq_zero_or_pos p with hp0 | hp0
        · have hS : szi p = 0 := by rw [hp0]; rfl
          have hD : dgV p x = [] := by rw [hp0]; rfl
          have hpe : (p = 0) = True := eq_true hp0
          have hp1 : 4 * i + (m + 1) = 1 := by omega
          rw [hp1] at hsu hz3
          rw [hS, hD] at h3'
          rw [hD] at hsu
          rw [L_succ]
          simp only [vmr, vmw, vmp, vza, ↓reduceIte, Nat.reduceBEq, Nat.reduceLT, Nat.reduceAdd, Nat.reduceEqDiff, reduceCtorEq, vmt, vzb, vzc, vlen, vleaf, velems, oks, vst, vmd, ty, Nat.reduceLeDiff, Nat.reduceMul, Nat.reduceSub, c86, Tryz.f55, m86, h6, hc, h4, h0, h5, w1, c1, c2, hlen, w2, w3, w4, w5, w6, n10, h3, h3', fits5b, hr1, hr2, dgV_len, hpe, List.map_cons]
          refine ih (s.c + 1 + 1) _ ⟨?_, ?_, ?_, ?_, ?_⟩ ?_ ?_ ?_ ?_ hge hx
          all_goals simp only [vmr, vmw, vmp, vza, ↓reduceIte, Nat.reduceBEq, Nat.reduceLT, Nat.reduceAdd, Nat.reduceEqDiff, reduceCtorEq, vmt, vzb, vzc, vlen, vleaf, velems, oks, vst, vmd, ty, Nat.reduceLeDiff, Nat.reduceMul, Nat.reduceSub, m86, h0, h3, h3', h10, h11, h12, h4, hz3, hsu, hp1, List.length_append, dgV_len]
        · have hS : szi p = 1 := by unfold szi; rw [if_neg (by omega)]
          have hpe : (p = 0) = False := eq_false (by omega)
          rw [hS] at h3'
          rw [L_succ]
          simp only [vmr, vmw, vmp, vza, ↓reduceIte, Nat.reduceBEq, Nat.reduceLT, Nat.reduceAdd, Nat.reduceEqDiff, reduceCtorEq, vmt, vzb, vzc, vlen, vleaf, velems, oks, vst, vmd, ty, Nat.reduceLeDiff, Nat.reduceMul, Nat.reduceSub, c86, Tryz.f55, m86, h6, hc, h4, h0, h5, w1, c1, c2, hlen, w2, w3, w4, w5, w6, n10, h3, h3', fits5b, hr1, hr2, dgV_len, hpe, List.map_cons]
          refine ih (s.c + 1 + 1) _ ⟨?_, ?_, ?_, ?_, ?_⟩ ?_ ?_ ?_ ?_ hge hx
          all_goals simp only [vmr, vmw, vmp, vza, ↓reduceIte, Nat.reduceBEq, Nat.reduceLT, Nat.reduceAdd, Nat.reduceEqDiff, reduceCtorEq, vmt, vzb, vzc, vlen, vleaf, velems, oks, vst, vmd, ty, Nat.reduceLeDiff, Nat.reduceMul, Nat.reduceSub, m86, h0, h3, h3', h10, h11, h12, h4, hz3, hsu, hp1, List.length_append, dgV_len]
end Go.Vi
set_option maxRecDepth 100000
set_option maxHeartbeats 1000000
namespace Go.Vi
open Go Go.Proofs

theorem l86 {n k} {x l : Nat} (hl : (lm 10000 x).length = l) (hfew : l ≤ 100000) (hnn : 5 < n) {P : Option (Ex × St) → Prop} : ∀ d i v3 p n' s, l = i + d → d < n' → P86 s x l v3 p → tget s.τ 12 = I (i : Nat) → (0 < d → p = 4 * i) → (d = 0 → x < 10 ^ p) → p ≤ 400000 → 10 ^ (p - 1) ≤ x →
    (∀ s' v3 p, x < 10 ^ p → p ≤ 400000 → 10 ^ (p - 1) ≤ x → P86 s' x l v3 p → P (X (M86 (hand []) n) (.exit 0) k s')) →
    P (L (M86 (hand []) n) (sub [1, 1, 1, 0, 1, 0, 0] c86) n' k s) := by
  intro d
  induction d with
  | zero =>
    intro i v3 p n' s hd hn hP h12 hp1 hp2 hp3 hp4 hx
    obtain ⟨n', rfl⟩ : ∃ m, n' = m + 1 := ⟨n' - 1, by omega⟩
    obtain ⟨h0, h3, h3', h10, h11⟩ := hP
    have hc : ((i : Int) < (l : Int)) = False := eq_false (by omega)
    rw [L_succ]
    simp only [vmr, vmw, vmp, vza, ↓reduceIte, Nat.reduceBEq, Nat.reduceLT, Nat.reduceAdd, Nat.reduceEqDiff, reduceCtorEq, vmt, vzb, vzc, vlen, vleaf, velems, oks, vst, vmd, ty, Nat.reduceLeDiff, Nat.reduceMul, Nat.reduceSub, c86, Tryz.f55, m86, h11, h12, hc]
    refine hx _ v3 p (hp2 rfl) hp3 hp4 ⟨?_, ?_, ?_, ?_, ?_⟩
    all_goals simp only [vmr, vmw, vmp, vza, ↓reduceIte, Nat.reduceBEq, Nat.reduceLT, Nat.reduceAdd, Nat.reduceEqDiff, reduceCtorEq, vmt, vzb, vzc, vlen, vleaf, velems, oks, vst, vmd, ty, Nat.reduceLeDiff, Nat.reduceMul, Nat.reduceSub, m86, h0, h3, h3', h10, h11, h12]
  | succ d ih =>
    intro i v3 p n' s hd hn hP h12 hp1 hp2 hp3 hp4 hx
    obtain ⟨n', rfl⟩ : ∃ m, n' = m + 1 := ⟨n' - 1, by omega⟩
    obtain ⟨h0, h3, h3', h10, h11⟩ := hP
    obtain rfl : p = 4 * i := hp1 (by omega)
    have hc : ((i : Int) < (l : Int)) = True := eq_true (by omega)
    have hg := lm_get (B := 10000) (by omega) x i (by omega)
    have hgm : ((lm 10000 x).map I)[i]? = some (I ((x / 10000 ^ i % 10000 : Nat) : Int)) := by simp [hg]
    have e5 : x / 10000 ^ i % 10000 = x / 10 ^ (4 * i + 0) % 10 ^ 4 := by
      rw [show 4 * i + 0 = 4 * i from rfl, Nat.pow_mul]
    rw [e5] at hgm
    have w6 := wsucc9' (i := i) (by omega)
    have hlen : (lm 10000 x).length = l := hl
    have ih := fun v3 p s => ih (i + 1) v3 p n' s (by omega) (by omega)
    have a1 := fun k s => @l86a n k x l i hl (by omega) hfew P 4 0 v3 n s rfl (by omega)
    generalize hv : x / 10 ^ (4 * i + 0) % 10 ^ 4 = t at *
    simp only [sub, c86, Tryz.f55, gets, Nat.add_zero] at a1 ih
    rw [L_succ]
    simp only [vmr, vmw, vmp, vza, ↓reduceIte, Nat.reduceBEq, Nat.reduceLT, Nat.reduceAdd, Nat.reduceEqDiff, reduceCtorEq, vmt, vzb, vzc, vlen, vleaf, velems, oks, vst, vmd, ty, Nat.reduceLeDiff, Nat.reduceMul, Nat.reduceSub, c86, Tryz.f55, m86, h10, h11, h12, hc, hgm, hlen]
    refine a1 _ _ ⟨?_, ?_, ?_, ?_, ?_⟩ ?_ ?_ ?_ ?_ hp4 (fun s' v3 p hp5 hp6 hp7 ⟨h0, h3, h3', h10, h11⟩ h12 => ?_)
    case refine_10 =>
      simp only [vmr, vmw, vmp, vza, ↓reduceIte, Nat.reduceBEq, Nat.reduceLT, Nat.reduceAdd, Nat.reduceEqDiff, reduceCtorEq, vmt, vzb, vzc, vlen, vleaf, velems, oks, vst, vmd, ty, Nat.reduceLeDiff, Nat.reduceMul, Nat.reduceSub, m86, h12, w6]
      refine ih v3 p _ ⟨?_, ?_, ?_, ?_, ?_⟩ ?_ ?_ ?_ (by omega) hp7 hx
      case refine_7 => intro h; rcases hp5 with h5 | h5 <;> omega
      case refine_8 =>
        intro h
        rcases hp5 with h5 | h5
        · omega
        · exact h5.2
      all_goals simp only [vmr, vmw, vmp, vza, ↓reduceIte, Nat.reduceBEq, Nat.reduceLT, Nat.reduceAdd, Nat.reduceEqDiff, reduceCtorEq, vmt, vzb, vzc, vlen, vleaf, velems, oks, vst, vmd, ty, Nat.reduceLeDiff, Nat.reduceMul, Nat.reduceSub, m86, h0, h3, h3', h10, h11, h12]
    all_goals simp only [vmr, vmw, vmp, vza, ↓reduceIte, Nat.reduceBEq, Nat.reduceLT, Nat.reduceAdd, Nat.reduceEqDiff, reduceCtorEq, vmt, vzb, vzc, vlen, vleaf, velems, oks, vst, vmd, ty, Nat.reduceLeDiff, Nat.reduceMul, Nat.reduceSub, m86, h0, h3, h3', h10, h11, h12]
theorem bytesV_map : ∀ l : List Int, (∀ x ∈ l, 0 ≤ x ∧ x < 256) → bytesV (l.map B8) = some (l.map fun x => UInt8.ofNat x.toNat)
  | [], _ => rfl
  | x :: r, h => by
    have hx := h x (by simp)
    simp only [List.map_cons, bytesV, if_pos hx, bytesV_map r fun y hy => h y (List.mem_cons_of_mem _ hy), Option.map_some]
theorem fx_dig (B : Nat) (hB : 0 < B) : ∀ k n, ∀ x ∈ fx B k n, 0 ≤ x ∧ x < B := by
  intro k n x hx
  obtain ⟨i, hi, rfl⟩ := List.getElem_of_mem hx
  have h := fx_get B k n i (by rw [fx_len] at hi; exact hi)
  rw [List.getElem?_eq_getElem hi] at h
  injection h with h
  rw [h]
  have := Nat.mod_lt (n / B ^ i) hB
  omega
/-- The digits as numbers of bytes. -/
def asc (p n : Nat) : List Int := (fx 10 p n).map fun d => 48 + d
theorem asc_len {p n} : (asc p n).length = p := by simp [asc, fx_len]
theorem dgV_asc (p n : Nat) : dgV p n = (asc p n).map B8 := by simp [dgV, asc]
theorem asc_bytes (p n : Nat) (h : n ≠ 0) (h1 : n < 10 ^ p) (h2 : 10 ^ (p - 1) ≤ n) : bytesV ((asc p n).reverse.map B8) = some (txt n) := by
  rw [bytesV_map]
  · unfold txt asc
    rw [if_neg h, lm_of (by omega) h1 h2, List.map_reverse, List.map_map]
    congr 2
    apply List.map_congr_left
    intro x hx
    have := fx_dig 10 (by omega) _ _ x (by unfold lm at hx; exact hx)
    show UInt8.ofNat (48 + x).toNat = UInt8.ofNat (48 + x.toNat)
    congr 1
    omega
  · intro x hx
    simp only [asc, List.mem_reverse, List.mem_map] at hx
    obtain ⟨d, hd, rfl⟩ := hx
    have := fx_dig 10 (by omega) _ _ d hd
    omega
def cv2 : Option V → Option V
  | some (.lst es) => (bytesV es).map .str
  | some .nilS => some (.str [])
  | _ => none
theorem cv2_lst {es} : cv2 (some (.lst es)) = (bytesV es).map .str := rfl
theorem convB_ref {E : Env} {src dst k v o l s} (h : (strT E.P dst && u8T E.P src) = true) : convB E src dst (.ref k v o l) s = cv2 (frz E s (.ref k v o l)) := by
  unfold convB
  dsimp only
  rw [if_pos h]
  unfold cv2
  cases frz E s (.ref k v o l) with
  | none => rfl
  | some x => cases x <;> rfl
def Q86 (H : FuncId → Option (List V → Option V)) (n : Nat) (out : COut) (r : Option (Ex × St)) : Prop := Fin (M86 H n) Tryz.f55.results.toList r = some out
theorem str100 : strT Tryz.prog 9 = true ∧ u8T Tryz.prog 70 = true := by constructor <;> kernel_rfl
theorem w86 (x : Nat) (hfew : few x) : SoundPure Tryz.prog 55 [N x] (.ret (.str (txt x))) := by
  refine s86 (H := []) sound_nil 1400010 (by simp) rfl ?_
  show Q86 (hand []) 1400010 _ _
  by_cases h0 : x = 0
  · subst h0
    have e1 : ((lm 10000 0).length : Int) = 0 := rfl
    simp only [c86, Tryz.f55, gets]
    simp only [vmr, vmw, vmp, vza, ↓reduceIte, Nat.reduceBEq, Nat.reduceLT, Nat.reduceAdd, Nat.reduceEqDiff, reduceCtorEq, vmt, vzb, vzc, vlen, vleaf, velems, oks, vst, vmd, ty, Nat.reduceLeDiff, Nat.reduceMul, Nat.reduceSub, m86, e1]
    rfl
  · have hlp : 0 < (lm 10000 x).length := by
      have := mt (lm_nil (B := 10000) (by omega) x).1 h0
      omega
    have e1 : (((lm 10000 x).length : Int) == 0) = false := by rw [beq_eq_false_iff_ne]; omega
    have a1 := fun k s => @l86 1400010 k x _ rfl hfew (by omega) (Q86 (hand []) 1400010 (.ret (.str (txt x)))) (lm 10000 x).length 0 0 0 1400010 s (by omega) (by have : (lm 10000 x).length ≤ 100000 := hfew; omega)
    simp only [sub, c86, Tryz.f55, gets] at a1 ⊢
    simp only [vmr, vmw, vmp, vza, ↓reduceIte, Nat.reduceBEq, Nat.reduceLT, Nat.reduceAdd, Nat.reduceEqDiff, reduceCtorEq, vmt, vzb, vzc, vlen, vleaf, velems, oks, vst, vmd, ty, Nat.reduceLeDiff, Nat.reduceMul, Nat.reduceSub, m86, e1]
    refine a1 _ _ ⟨?_, ?_, ?_, ?_, ?_⟩ ?_ (fun _ => by simp) (fun h => absurd h (by omega)) (by omega) (by simp; omega) (fun s' v3 p hp1 hp2 hp3 ⟨h0', h3, h3', h10, h11⟩ => ?_)
    case refine_7 =>
      have hp0 : p ≠ 0 := by rintro rfl; simp at hp1; omega
      obtain ⟨τ, L, O, c⟩ := s'
      dsimp only at h3 h3'
      have hS : szi p = 1 := by unfold szi; rw [if_neg hp0]
      rw [hS, dgV_asc] at h3'
      obtain ⟨c', O', hc, ho⟩ := w104 (n := 1400008) (c := c) (vr := v3) (O := heapOf 0 L O) (xs := asc p x) (by rw [asc_len]; omega) (by omega) (by rw [heapOf_get, if_pos rfl]; exact h3')
      rw [asc_len] at hc
      have hcall : (M86 (hand []) 1400010).call = evF (Cx (hand [])) (1400008 + 2) := rfl
      have hb : ∀ τ1 O1 c1, lget (back (M86 (hand []) 1400010).E ⟨τ1, L, O1, c1⟩ c' O').L (3, 0) = some (v3, .arr 1 ((asc p x).reverse.map B8)) := fun τ1 O1 c1 => back_get (s := ⟨τ1, L, O1, c1⟩) h3' ho
      have htk : ((asc p x).reverse.map B8).take p = (asc p x).reverse.map B8 := List.take_of_length_le (by simp [asc_len])
      have hle : (p ≤ (asc p x).reverse.length) = True := eq_true (by rw [List.length_reverse, asc_len]; exact Nat.le_refl _)
      have hby := asc_bytes p x h0 hp1 hp3
      simp only [vmr, vmw, vmp, vza, ↓reduceIte, Nat.reduceBEq, Nat.reduceLT, Nat.reduceAdd, Nat.reduceEqDiff, reduceCtorEq, vmt, vzb, vzc, vlen, vleaf, velems, oks, vst, vmd, ty, Nat.reduceLeDiff, Nat.reduceMul, Nat.reduceSub, m86, h3, h3', callV_i, St.heap]
      rw [hcall, hc]
      simp only [vmr, vmw, vmp, vza, ↓reduceIte, Nat.reduceBEq, Nat.reduceLT, Nat.reduceAdd, Nat.reduceEqDiff, reduceCtorEq, vmt, vzb, vzc, vlen, vleaf, velems, oks, vst, vmd, ty, Nat.reduceLeDiff, Nat.reduceMul, Nat.reduceSub, CI, m86, back_τ, back_O, back_c, hb]
      simp only [vmr, vmw, vmp, vza, ↓reduceIte, Nat.reduceBEq, Nat.reduceLT, Nat.reduceAdd, Nat.reduceEqDiff, reduceCtorEq, vmt, vzb, vzc, vlen, vleaf, velems, oks, vst, vmd, ty, Nat.reduceLeDiff, Nat.reduceMul, Nat.reduceSub, m86, str100.1, str100.2, convB_ref, cv2_lst, hb, htk, hby, hle, List.drop_zero]
      show Fin _ [.tmp 2] _ = _
      simp only [vmr, vmw, vmp, vza, ↓reduceIte, Nat.reduceBEq, Nat.reduceLT, Nat.reduceAdd, Nat.reduceEqDiff, reduceCtorEq, vmt, vzb, vzc, vlen, vleaf, velems, oks, vst, vmd, ty, Nat.reduceLeDiff, Nat.reduceMul, Nat.reduceSub, vzr, m86]
    all_goals simp only [vmr, vmw, vmp, vza, ↓reduceIte, Nat.reduceBEq, Nat.reduceLT, Nat.reduceAdd, Nat.reduceEqDiff, reduceCtorEq, vmt, vzb, vzc, vlen, vleaf, velems, oks, vst, vmd, ty, Nat.reduceLeDiff, Nat.reduceMul, Nat.reduceSub, m86, szi0]
    rfl
noncomputable def F86 : List V → Option V := hF (α := Nat) (fun a => [N a]) few (fun a => .str (txt a))
theorem F86_eq {x : Nat} (h : few x) : F86 [N x] = some (.str (txt x)) := hF_eq (a := x) (one_inj' fun _ _ h => lm_inj (by omega) (Is_inj h)) (by simp only [cans, canN]) h
end Go.Vi
