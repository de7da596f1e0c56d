/-
  Walks of package ref: of.
-/
import Derived.Test.YtpdeblfnbcponaaGreatDoorYA
set_option linter.unusedSimpArgs false
set_option linter.unusedVariables false
set_option maxRecDepth 100000
set_option maxHeartbeats 1000000
set_option exponentiation.threshold 256
namespace Go.Vi
open Go Go.Proofs

noncomputable abbrev ops45 : Array Oper := opsAt (sub [1, 1, 1, 0, 1, 0, 0, 1, 0, 0] c45)
theorem draw45a {H} {n : Nat} {s : St} {b : Bool} {v3 m : Nat} {t : List UInt8} {u : UInt8} {x2 : Nat × Go.Vi.Obj} (h0 : tget s.τ 0 = .str t) (h2 : tget s.τ 2 = .ptr ⟨0, 2, 0⟩ 0 0 0) (h2' : lget s.L (2, 0) = some x2) (h3 : tget s.τ 3 = .ptr ⟨0, 3, 0⟩ v3 0 0) (h4 : tget s.τ 4 = I (m : Nat)) (h28 : tget s.τ 28 = .junk) (hg : t[m]? = some u) (hu : isDig u = true)
    (h3' : lget s.L (3, 0) = some (v3, .var [.bool b, .nilS])) :
    ∃ τ' L' c' vr', drawR (M45 H n).call (M45 H n).E (M45 H n).C ops45 s = some ⟨τ', L', s.O, c'⟩ ∧ tget τ' 0 = .str t ∧ tget τ' 2 = .ptr ⟨0, 2, 0⟩ 0 0 0 ∧ tget τ' 3 = .ptr ⟨0, 3, 0⟩ v3 0 0 ∧ tget τ' 4 = I (m : Nat) ∧ lget L' (2, 0) = some x2 ∧ lget L' (3, 0) = some (v3, .var [.bool b, .ref ⟨0, 3, 2⟩ vr' 0 1]) ∧ lget L' (3, 2) = some (vr', .arr 1 [I (dg u : Nat)]) := by
  unfold drawR
  have hac : actorsOf (M45 H n).E ops45.toList 0 = [7, 8, 10] := by kernel_rfl
  have f0 : [7, 8, 10].filter (apartI (ancTab ops45.toList []) 0) = [7] := by kernel_rfl
  have f1 : [7, 8, 10].filter (apartI (ancTab ops45.toList []) 1) = [7] := by kernel_rfl
  have f2 : [7, 8, 10].filter (apartI (ancTab ops45.toList []) 2) = [] := by kernel_rfl
  have f3 : [7, 8, 10].filter (apartI (ancTab ops45.toList []) 3) = [] := by kernel_rfl
  have f4 : [7, 8, 10].filter (apartI (ancTab ops45.toList []) 4) = [] := by kernel_rfl
  have f5 : [7, 8, 10].filter (apartI (ancTab ops45.toList []) 5) = [] := by kernel_rfl
  have f6 : [7, 8, 10].filter (apartI (ancTab ops45.toList []) 6) = [] := by kernel_rfl
  have f9 : [7, 8, 10].filter (apartI (ancTab ops45.toList []) 9) = [] := by kernel_rfl
  have hst : allAt (fun o i => staticOk (M45 H n).E ops45 (ancTab ops45.toList []) [7, 8, 10] o i) ops45.toList 0 = true := by kernel_rfl
  have hlk : ops45.toList.map (Oper.looksAt ops45) = [[3], [19], [0], [4], [21, 22], [23], [24], [25], [20, 26], [3], [28, 27]] := by kernel_rfl
  have w8 : watched ops45 (ancTab ops45.toList []) [7, 8, 10] 8 = false := by kernel_rfl
  have w10 : watched ops45 (ancTab ops45.toList []) [7, 8, 10] 10 = false := by kernel_rfl
  rw [hac]
  generalize ancTab ops45.toList [] = T at f0 f1 f2 f3 f4 f5 f6 f9 hst w8 w10
  have g7 : ∀ s0 : St, estAt (M45 H n).E ops45 s0 7 = some [⟨0, 26, 0⟩] := fun s0 => by kernel_rfl
  have Q0 : ∀ s0 s1, qState (M45 H n).E ops45 T [7, 8, 10] s0 s1 0 = ⟨(s1.del (M45 H n).E ⟨0, 26, 0⟩).τ, (s1.del (M45 H n).E ⟨0, 26, 0⟩).L, (s1.del (M45 H n).E ⟨0, 26, 0⟩).O, s1.c + slack⟩ := fun s0 s1 => by unfold qState; rw [f0]; simp only [gatherK, g7]; rfl
  have Q1 : ∀ s0 s1, qState (M45 H n).E ops45 T [7, 8, 10] s0 s1 1 = ⟨(s1.del (M45 H n).E ⟨0, 26, 0⟩).τ, (s1.del (M45 H n).E ⟨0, 26, 0⟩).L, (s1.del (M45 H n).E ⟨0, 26, 0⟩).O, s1.c + slack⟩ := fun s0 s1 => by unfold qState; rw [f1]; simp only [gatherK, g7]; rfl
  have Q2 : ∀ s0 s1, qState (M45 H n).E ops45 T [7, 8, 10] s0 s1 2 = ⟨s1.τ, s1.L, s1.O, s1.c + slack⟩ := fun s0 s1 => by unfold qState; rw [f2]; rfl
  have Q3 : ∀ s0 s1, qState (M45 H n).E ops45 T [7, 8, 10] s0 s1 3 = ⟨s1.τ, s1.L, s1.O, s1.c + slack⟩ := fun s0 s1 => by unfold qState; rw [f3]; rfl
  have Q4 : ∀ s0 s1, qState (M45 H n).E ops45 T [7, 8, 10] s0 s1 4 = ⟨s1.τ, s1.L, s1.O, s1.c + slack⟩ := fun s0 s1 => by unfold qState; rw [f4]; rfl
  have Q5 : ∀ s0 s1, qState (M45 H n).E ops45 T [7, 8, 10] s0 s1 5 = ⟨s1.τ, s1.L, s1.O, s1.c + slack⟩ := fun s0 s1 => by unfold qState; rw [f5]; rfl
  have Q6 : ∀ s0 s1, qState (M45 H n).E ops45 T [7, 8, 10] s0 s1 6 = ⟨s1.τ, s1.L, s1.O, s1.c + slack⟩ := fun s0 s1 => by unfold qState; rw [f6]; rfl
  have Q9 : ∀ s0 s1, qState (M45 H n).E ops45 T [7, 8, 10] s0 s1 9 = ⟨s1.τ, s1.L, s1.O, s1.c + slack⟩ := fun s0 s1 => by unfold qState; rw [f9]; rfl
  simp only [ops45, sub, c45, Tryz.f27, gets, opsAt, allAt, Bool.and_eq_true, List.map_cons, List.map_nil, List.cons.injEq, Nat.zero_add, Nat.reduceAdd, and_true] at hst hlk g7 w8 w10 Q0 Q1 Q2 Q3 Q4 Q5 Q6 Q9 ⊢
  obtain ⟨s0, s1, s2, s3, s4, s5, s6, s7, s8, s9, s10⟩ := hst
  obtain ⟨l0, l1, l2, l3, l4, l5, l6, l7, l8, l9, l10⟩ := hlk
  simp only [isDig, Bool.and_eq_true, decide_eq_true_eq] at hu
  have w2 : IntKind.u8.wrap ((u.toNat : Int) - 48) = ((dg u : Nat) : Int) := by
    unfold dg
    simp [IntKind.wrap, IntKind.signed, IntKind.bits]
    omega
  have w3 : IntKind.i64.wrap ((dg u : Nat) : Int) = ((dg u : Nat) : Int) := wrapN' (by unfold dg; omega)
  have hr1 := @room3 1 (by omega)
  have hsl : (s.c + 1 + 1 + 1 ≤ s.c + slack) = True := eq_true (by unfold slack; omega)
  refine ⟨?t, ?L, ?c, s.c + 1 + 1, ?h, ?_⟩
  case h =>
    simp only [vmr, vmw, vmp, vza, ↓reduceIte, Nat.reduceBEq, Nat.reduceLT, Nat.reduceAdd, Nat.reduceEqDiff, reduceCtorEq, vmt, vzb, vzc, vlen, vleaf, velems, oks, vst, vmd, ty, Nat.reduceLeDiff, Nat.reduceMul, Nat.reduceSub, drawOps, s0, s1, s2, s3, s4, s5, s6, s7, s8, s9, s10, l0, l1, l2, l3, l4, l5, l6, l7, l8, l9, l10, w8, w10, wantedV, focus, fget, m45, qop, quietK, qop_mk1, qop_mk2, qop_mk3, aop, setD, touchOk, List.contains_cons, List.isEmpty_nil, Bool.or_true, hg, Q0, Q1, Q2, Q3, Q4, Q5, Q6, Q9, g7, h0, h3, h4, h28, h3', w2, w3, hr1, fitsI, List.map_cons, hsl]
    exact rfl
  refine ⟨?_, ?_, ?_, ?_, ?_, ?_, ?_⟩
  all_goals simp only [vmr, vmw, vmp, vza, ↓reduceIte, Nat.reduceBEq, Nat.reduceLT, Nat.reduceAdd, Nat.reduceEqDiff, reduceCtorEq, vmt, vzb, vzc, vlen, vleaf, velems, oks, vst, vmd, ty, Nat.reduceLeDiff, Nat.reduceMul, Nat.reduceSub, m45, h0, h2, h2', h3, h4, List.map_cons, List.length_append, List.length_cons, List.length_nil]
theorem draw45b {H} {n : Nat} {s : St} {b : Bool} {v3 m : Nat} {t : List UInt8} {u : UInt8} {x2 : Nat × Go.Vi.Obj} {vr : Nat} {es : List V} (h0 : tget s.τ 0 = .str t) (h2 : tget s.τ 2 = .ptr ⟨0, 2, 0⟩ 0 0 0) (h2' : lget s.L (2, 0) = some x2) (h3 : tget s.τ 3 = .ptr ⟨0, 3, 0⟩ v3 0 0) (h4 : tget s.τ 4 = I (m : Nat)) (h28 : tget s.τ 28 = .junk) (hg : t[m]? = some u) (hu : isDig u = true)
    (h3' : lget s.L (3, 0) = some (v3, .var [.bool b, .ref ⟨0, 3, 2⟩ vr 0 es.length])) (h32 : lget s.L (3, 2) = some (vr, .arr 1 es)) (hes : es.length ≤ 100000) :
    ∃ τ' L' c' vr', drawR (M45 H n).call (M45 H n).E (M45 H n).C ops45 s = some ⟨τ', L', s.O, c'⟩ ∧ tget τ' 0 = .str t ∧ tget τ' 2 = .ptr ⟨0, 2, 0⟩ 0 0 0 ∧ tget τ' 3 = .ptr ⟨0, 3, 0⟩ v3 0 0 ∧ tget τ' 4 = I (m : Nat) ∧ lget L' (2, 0) = some x2 ∧ lget L' (3, 0) = some (v3, .var [.bool b, .ref ⟨0, 3, 2⟩ vr' 0 (es.length + 1)]) ∧ lget L' (3, 2) = some (vr', .arr 1 (es ++ [I (dg u : Nat)])) := by
  unfold drawR
  have hac : actorsOf (M45 H n).E ops45.toList 0 = [7, 8, 10] := by kernel_rfl
  have f0 : [7, 8, 10].filter (apartI (ancTab ops45.toList []) 0) = [7] := by kernel_rfl
  have f1 : [7, 8, 10].filter (apartI (ancTab ops45.toList []) 1) = [7] := by kernel_rfl
  have f2 : [7, 8, 10].filter (apartI (ancTab ops45.toList []) 2) = [] := by kernel_rfl
  have f3 : [7, 8, 10].filter (apartI (ancTab ops45.toList []) 3) = [] := by kernel_rfl
  have f4 : [7, 8, 10].filter (apartI (ancTab ops45.toList []) 4) = [] := by kernel_rfl
  have f5 : [7, 8, 10].filter (apartI (ancTab ops45.toList []) 5) = [] := by kernel_rfl
  have f6 : [7, 8, 10].filter (apartI (ancTab ops45.toList []) 6) = [] := by kernel_rfl
  have f9 : [7, 8, 10].filter (apartI (ancTab ops45.toList []) 9) = [] := by kernel_rfl
  have hst : allAt (fun o i => staticOk (M45 H n).E ops45 (ancTab ops45.toList []) [7, 8, 10] o i) ops45.toList 0 = true := by kernel_rfl
  have hlk : ops45.toList.map (Oper.looksAt ops45) = [[3], [19], [0], [4], [21, 22], [23], [24], [25], [20, 26], [3], [28, 27]] := by kernel_rfl
  have w8 : watched ops45 (ancTab ops45.toList []) [7, 8, 10] 8 = false := by kernel_rfl
  have w10 : watched ops45 (ancTab ops45.toList []) [7, 8, 10] 10 = false := by kernel_rfl
  rw [hac]
  generalize ancTab ops45.toList [] = T at f0 f1 f2 f3 f4 f5 f6 f9 hst w8 w10
  have g7 : ∀ s0 : St, estAt (M45 H n).E ops45 s0 7 = some [⟨0, 26, 0⟩] := fun s0 => by kernel_rfl
  have Q0 : ∀ s0 s1, qState (M45 H n).E ops45 T [7, 8, 10] s0 s1 0 = ⟨(s1.del (M45 H n).E ⟨0, 26, 0⟩).τ, (s1.del (M45 H n).E ⟨0, 26, 0⟩).L, (s1.del (M45 H n).E ⟨0, 26, 0⟩).O, s1.c + slack⟩ := fun s0 s1 => by unfold qState; rw [f0]; simp only [gatherK, g7]; rfl
  have Q1 : ∀ s0 s1, qState (M45 H n).E ops45 T [7, 8, 10] s0 s1 1 = ⟨(s1.del (M45 H n).E ⟨0, 26, 0⟩).τ, (s1.del (M45 H n).E ⟨0, 26, 0⟩).L, (s1.del (M45 H n).E ⟨0, 26, 0⟩).O, s1.c + slack⟩ := fun s0 s1 => by unfold qState; rw [f1]; simp only [gatherK, g7]; rfl
  have Q2 : ∀ s0 s1, qState (M45 H n).E ops45 T [7, 8, 10] s0 s1 2 = ⟨s1.τ, s1.L, s1.O, s1.c + slack⟩ := fun s0 s1 => by unfold qState; rw [f2]; rfl
  have Q3 : ∀ s0 s1, qState (M45 H n).E ops45 T [7, 8, 10] s0 s1 3 = ⟨s1.τ, s1.L, s1.O, s1.c + slack⟩ := fun s0 s1 => by unfold qState; rw [f3]; rfl
  have Q4 : ∀ s0 s1, qState (M45 H n).E ops45 T [7, 8, 10] s0 s1 4 = ⟨s1.τ, s1.L, s1.O, s1.c + slack⟩ := fun s0 s1 => by unfold qState; rw [f4]; rfl
  have Q5 : ∀ s0 s1, qState (M45 H n).E ops45 T [7, 8, 10] s0 s1 5 = ⟨s1.τ, s1.L, s1.O, s1.c + slack⟩ := fun s0 s1 => by unfold qState; rw [f5]; rfl
  have Q6 : ∀ s0 s1, qState (M45 H n).E ops45 T [7, 8, 10] s0 s1 6 = ⟨s1.τ, s1.L, s1.O, s1.c + slack⟩ := fun s0 s1 => by unfold qState; rw [f6]; rfl
  have Q9 : ∀ s0 s1, qState (M45 H n).E ops45 T [7, 8, 10] s0 s1 9 = ⟨s1.τ, s1.L, s1.O, s1.c + slack⟩ := fun s0 s1 => by unfold qState; rw [f9]; rfl
  simp only [ops45, sub, c45, Tryz.f27, gets, opsAt, allAt, Bool.and_eq_true, List.map_cons, List.map_nil, List.cons.injEq, Nat.zero_add, Nat.reduceAdd, and_true] at hst hlk g7 w8 w10 Q0 Q1 Q2 Q3 Q4 Q5 Q6 Q9 ⊢
  obtain ⟨s0, s1, s2, s3, s4, s5, s6, s7, s8, s9, s10⟩ := hst
  obtain ⟨l0, l1, l2, l3, l4, l5, l6, l7, l8, l9, l10⟩ := hlk
  simp only [isDig, Bool.and_eq_true, decide_eq_true_eq] at hu
  have w2 : IntKind.u8.wrap ((u.toNat : Int) - 48) = ((dg u : Nat) : Int) := by
    unfold dg
    simp [IntKind.wrap, IntKind.signed, IntKind.bits]
    omega
  have w3 : IntKind.i64.wrap ((dg u : Nat) : Int) = ((dg u : Nat) : Int) := wrapN' (by unfold dg; omega)
  have hr1 := @room3 1 (by omega)
  have hsl : (s.c + 1 + 1 + 1 ≤ s.c + slack) = True := eq_true (by unfold slack; omega)
  have hr2 := @room3 (es.length + 1) (by omega)
  have hl : (es.length = 0) = False ∨ True := .inr trivial
  refine ⟨?t, ?L, ?c, s.c + 1 + 1, ?h, ?_⟩
  case h =>
    simp only [vmr, vmw, vmp, vza, ↓reduceIte, Nat.reduceBEq, Nat.reduceLT, Nat.reduceAdd, Nat.reduceEqDiff, reduceCtorEq, vmt, vzb, vzc, vlen, vleaf, velems, oks, vst, vmd, ty, Nat.reduceLeDiff, Nat.reduceMul, Nat.reduceSub, drawOps, s0, s1, s2, s3, s4, s5, s6, s7, s8, s9, s10, l0, l1, l2, l3, l4, l5, l6, l7, l8, l9, l10, w8, w10, wantedV, focus, fget, m45, qop, quietK, qop_mk1, qop_mk2, qop_mk3, aop, setD, touchOk, List.contains_cons, List.isEmpty_nil, Bool.or_true, hg, Q0, Q1, Q2, Q3, Q4, Q5, Q6, Q9, g7, h0, h3, h4, h28, h3', w2, w3, hr1, hr2, hl, h32, fitsI, List.map_cons, hsl]
    exact rfl
  refine ⟨?_, ?_, ?_, ?_, ?_, ?_, ?_⟩
  all_goals simp only [vmr, vmw, vmp, vza, ↓reduceIte, Nat.reduceBEq, Nat.reduceLT, Nat.reduceAdd, Nat.reduceEqDiff, reduceCtorEq, vmt, vzb, vzc, vlen, vleaf, velems, oks, vst, vmd, ty, Nat.reduceLeDiff, Nat.reduceMul, Nat.reduceSub, m45, h0, h2, h2', h3, h4, List.map_cons, List.length_append, List.length_cons, List.length_nil]
end Go.Vi
set_option maxRecDepth 100000
set_option maxHeartbeats 1000000
set_option exponentiation.threshold 256
namespace Go.Vi
open Go Go.Proofs

theorem dval_one (u : UInt8) : dval [u] = dg u := by
  show dacc 0 [u] = dg u
  rw [dacc_cons]
  show 10 * 0 + dg u = dg u
  omega
theorem dval_digit {t : List UInt8} (h : t.all isDig = true) (j : Nat) (hj : j < t.length) {u : UInt8} (hu : t[t.length - 1 - j]? = some u) : dval t / 10 ^ j % 10 = dg u := by
  have h1 := dval_take h (t.length - 1 - j + 1)
  rw [show t.length - (t.length - 1 - j + 1) = j by omega] at h1
  rw [← h1, List.take_add_one, hu]
  show dval (t.take (t.length - 1 - j) ++ [u]) % 10 = dg u
  rw [dval_append, dval_one]
  have hd : isDig u = true := List.all_eq_true.1 h u (List.mem_of_getElem? hu)
  simp only [isDig, Bool.and_eq_true, decide_eq_true_eq] at hd
  have : dg u ≤ 9 := by unfold dg; omega
  simp only [List.length_cons, List.length_nil]
  omega
structure P45 (s : St) (t : List UInt8) (b : Bool) (v3 j : Nat) : Prop where
  h0 : tget s.τ 0 = .str t
  h2 : tget s.τ 2 = .ptr ⟨0, 2, 0⟩ 0 0 0
  h2' : lget s.L (2, 0) = some (0, .var [.bool false, .nilS])
  h3 : tget s.τ 3 = .ptr ⟨0, 3, 0⟩ v3 0 0
  hr : (j = 0 ∧ lget s.L (3, 0) = some (v3, .var [.bool b, .nilS])) ∨ (0 < j ∧ ∃ vr, lget s.L (3, 0) = some (v3, .var [.bool b, .ref ⟨0, 3, 2⟩ vr 0 j]) ∧ lget s.L (3, 2) = some (vr, .arr 1 ((fx 10 j (dval t)).map I)))
theorem R45 {H} {n : Nat} {k : K} {s : St} {b : Bool} {v3 j m : Nat} {t : List UInt8} {u : UInt8} (hP : P45 s t b v3 j) (ht : t.all isDig = true) (hj : j < t.length) (hjb : j ≤ 1000) (hm : m = t.length - 1 - j) (h4 : tget s.τ 4 = I (m : Nat)) (h28 : tget s.τ 28 = .junk) (hg : t[m]? = some u) {P : Option (Ex × St) → Prop}
    (h : ∀ s', P45 s' t b v3 (j + 1) → tget s'.τ 4 = I (m : Nat) → P (X (M45 H n) .norm k s')) :
    P (R (M45 H n) (sub [1, 1, 1, 0, 1, 0, 0, 1, 0, 0] c45) k s) := by
  obtain ⟨h0, h2, h2', h3, hr⟩ := hP
  have hu : isDig u = true := List.all_eq_true.1 ht u (List.mem_of_getElem? hg)
  have hd := dval_digit ht j hj (hm ▸ hg)
  have hsn := fx_snoc 10 j (dval t)
  rw [hd] at hsn
  rcases hr with ⟨rfl, h3'⟩ | ⟨hj0, vr, h3', h32⟩
  · obtain ⟨τ', L', c', vr', hdr, e0, e2, e3, e4, e2', e3', e32⟩ := draw45a (H := H) (n := n) h0 h2 h2' h3 h4 h28 hg hu h3'
    have hd' : R (M45 H n) (sub [1, 1, 1, 0, 1, 0, 0, 1, 0, 0] c45) k s = _ := R_drawn (id := 8) hdr
    rw [hd']
    refine h _ ⟨?_, ?_, ?_, ?_, .inr ⟨by omega, vr', ?_, ?_⟩⟩ ?_
    all_goals simp only [vmr, vmw, vmp, vza, ↓reduceIte, Nat.reduceBEq, Nat.reduceLT, Nat.reduceAdd, Nat.reduceEqDiff, reduceCtorEq, vmt, vzb, vzc, vlen, vleaf, velems, oks, vst, vmd, ty, Nat.reduceLeDiff, Nat.reduceMul, Nat.reduceSub, m45, e0, e2, e3, e4, e2', e3', e32, hsn, fx0, List.map_cons]
  · obtain ⟨τ', L', c', vr', hdr, e0, e2, e3, e4, e2', e3', e32⟩ := draw45b (H := H) (n := n) (vr := vr) (es := (fx 10 j (dval t)).map I) h0 h2 h2' h3 h4 h28 hg hu (by rw [h3', List.length_map, fx_len]) h32 (by rw [List.length_map, fx_len]; omega)
    rw [List.length_map, fx_len] at e3'
    have hd' : R (M45 H n) (sub [1, 1, 1, 0, 1, 0, 0, 1, 0, 0] c45) k s = _ := R_drawn (id := 8) hdr
    rw [hd']
    refine h _ ⟨?_, ?_, ?_, ?_, .inr ⟨by omega, vr', ?_, ?_⟩⟩ ?_
    all_goals simp only [vmr, vmw, vmp, vza, ↓reduceIte, Nat.reduceBEq, Nat.reduceLT, Nat.reduceAdd, Nat.reduceEqDiff, reduceCtorEq, vmt, vzb, vzc, vlen, vleaf, velems, oks, vst, vmd, ty, Nat.reduceLeDiff, Nat.reduceMul, Nat.reduceSub, m45, e0, e2, e3, e4, e2', e3', e32, hsn, List.map_append, List.map_cons]
theorem l45 {H n k} {t : List UInt8} {b : Bool} {v3 : Nat} (ht : t.all isDig = true) (hb : t.length ≤ 1000) {P : Option (Ex × St) → Prop} : ∀ d j n' s, j + d = t.length → d < n' → P45 s t b v3 j → tget s.τ 4 = I ((t.length : Int) - 1 - (j : Nat)) →
    (∀ s', P45 s' t b v3 t.length → P (X (M45 H n) (.exit 0) k s')) → P (L (M45 H n) (sub [1, 1, 1, 0, 1, 0, 0] c45) n' k s) := by
  intro d
  induction d with
  | zero =>
    intro j n' s hd hn hP h4 hx
    obtain ⟨n', rfl⟩ : ∃ m, n' = m + 1 := ⟨n' - 1, by omega⟩
    obtain rfl : j = t.length := by omega
    obtain ⟨h0, h2, h2', h3, hr⟩ := hP
    have hc : ((t.length : Int) - 1 - ((t.length : Nat) : Int) ≥ 0) = False := eq_false (by omega)
    rw [L_succ]
    simp only [vmr, vmw, vmp, vza, ↓reduceIte, Nat.reduceBEq, Nat.reduceLT, Nat.reduceAdd, Nat.reduceEqDiff, reduceCtorEq, vmt, vzb, vzc, vlen, vleaf, velems, oks, vst, vmd, ty, Nat.reduceLeDiff, Nat.reduceMul, Nat.reduceSub, c45, Tryz.f27, m45, h4, hc]
    refine hx _ ⟨?_, ?_, ?_, ?_, ?_⟩
    case refine_5 =>
      rcases hr with ⟨ha, h3'⟩ | ⟨hj0, vr, h3', h32⟩
      · refine .inl ⟨ha, ?_⟩
        simp only [vmr, vmw, vmp, vza, ↓reduceIte, Nat.reduceBEq, Nat.reduceLT, Nat.reduceAdd, Nat.reduceEqDiff, reduceCtorEq, vmt, vzb, vzc, vlen, vleaf, velems, oks, vst, vmd, ty, Nat.reduceLeDiff, Nat.reduceMul, Nat.reduceSub, m45, h3']
      · refine .inr ⟨hj0, vr, ?_, ?_⟩
        all_goals simp only [vmr, vmw, vmp, vza, ↓reduceIte, Nat.reduceBEq, Nat.reduceLT, Nat.reduceAdd, Nat.reduceEqDiff, reduceCtorEq, vmt, vzb, vzc, vlen, vleaf, velems, oks, vst, vmd, ty, Nat.reduceLeDiff, Nat.reduceMul, Nat.reduceSub, m45, h3', h32]
    all_goals simp only [vmr, vmw, vmp, vza, ↓reduceIte, Nat.reduceBEq, Nat.reduceLT, Nat.reduceAdd, Nat.reduceEqDiff, reduceCtorEq, vmt, vzb, vzc, vlen, vleaf, velems, oks, vst, vmd, ty, Nat.reduceLeDiff, Nat.reduceMul, Nat.reduceSub, m45, h0, h2, h2', h3]
  | succ d ih =>
    intro j n' s hd hn hP h4 hx
    obtain ⟨n', rfl⟩ : ∃ m, n' = m + 1 := ⟨n' - 1, by omega⟩
    have hc : ((t.length : Int) - 1 - (j : Nat) ≥ 0) = True := eq_true (by omega)
    have hg : t[t.length - 1 - j]? = some t[t.length - 1 - j] := List.getElem?_eq_getElem (by omega)
    have e4 : (t.length : Int) - 1 - (j : Nat) = ((t.length - 1 - j : Nat) : Int) := by omega
    have w1 : IntKind.i64.wrap (((t.length - 1 - j : Nat) : Int) - 1) = (t.length : Int) - 1 - ((j + 1 : Nat) : Int) := by rw [wrap_id] <;> omega
    have ih := fun s => ih (j + 1) n' s (by omega) (by omega)
    have a1 := fun k s hP h4 h28 h => @R45 H n k s b v3 j _ t _ hP ht (by omega) (by omega) rfl h4 h28 hg P h
    obtain ⟨h0, h2, h2', h3, hr⟩ := hP
    simp only [sub, c45, Tryz.f27, gets] at a1 ih
    rw [L_succ]
    simp only [vmr, vmw, vmp, vza, ↓reduceIte, Nat.reduceBEq, Nat.reduceLT, Nat.reduceAdd, Nat.reduceEqDiff, reduceCtorEq, vmt, vzb, vzc, vlen, vleaf, velems, oks, vst, vmd, ty, Nat.reduceLeDiff, Nat.reduceMul, Nat.reduceSub, c45, Tryz.f27, m45, h4, hc]
    refine a1 _ _ ⟨?_, ?_, ?_, ?_, ?_⟩ ?_ ?_ (fun s' hP' h4' => ?_)
    case refine_5 =>
      rcases hr with ⟨ha, h3'⟩ | ⟨hj0, vr, h3', h32⟩
      · refine .inl ⟨ha, ?_⟩
        simp only [vmr, vmw, vmp, vza, ↓reduceIte, Nat.reduceBEq, Nat.reduceLT, Nat.reduceAdd, Nat.reduceEqDiff, reduceCtorEq, vmt, vzb, vzc, vlen, vleaf, velems, oks, vst, vmd, ty, Nat.reduceLeDiff, Nat.reduceMul, Nat.reduceSub, m45, h3']
      · refine .inr ⟨hj0, vr, ?_, ?_⟩
        all_goals simp only [vmr, vmw, vmp, vza, ↓reduceIte, Nat.reduceBEq, Nat.reduceLT, Nat.reduceAdd, Nat.reduceEqDiff, reduceCtorEq, vmt, vzb, vzc, vlen, vleaf, velems, oks, vst, vmd, ty, Nat.reduceLeDiff, Nat.reduceMul, Nat.reduceSub, m45, h3', h32]
    case refine_8 =>
      obtain ⟨h0, h2, h2', h3, hr⟩ := hP'
      simp only [vmr, vmw, vmp, vza, ↓reduceIte, Nat.reduceBEq, Nat.reduceLT, Nat.reduceAdd, Nat.reduceEqDiff, reduceCtorEq, vmt, vzb, vzc, vlen, vleaf, velems, oks, vst, vmd, ty, Nat.reduceLeDiff, Nat.reduceMul, Nat.reduceSub, m45, h4', w1]
      refine ih _ ⟨?_, ?_, ?_, ?_, ?_⟩ ?_ hx
      case refine_5 =>
        rcases hr with ⟨ha, h3'⟩ | ⟨hj0, vr, h3', h32⟩
        · omega
        · refine .inr ⟨hj0, vr, ?_, ?_⟩
          all_goals simp only [vmr, vmw, vmp, vza, ↓reduceIte, Nat.reduceBEq, Nat.reduceLT, Nat.reduceAdd, Nat.reduceEqDiff, reduceCtorEq, vmt, vzb, vzc, vlen, vleaf, velems, oks, vst, vmd, ty, Nat.reduceLeDiff, Nat.reduceMul, Nat.reduceSub, m45, h3', h32]
      all_goals simp only [vmr, vmw, vmp, vza, ↓reduceIte, Nat.reduceBEq, Nat.reduceLT, Nat.reduceAdd, Nat.reduceEqDiff, reduceCtorEq, vmt, vzb, vzc, vlen, vleaf, velems, oks, vst, vmd, ty, Nat.reduceLeDiff, Nat.reduceMul, Nat.reduceSub, m45, h0, h2, h2', h3]
    all_goals simp only [vmr, vmw, vmp, vza, ↓reduceIte, Nat.reduceBEq, Nat.reduceLT, Nat.reduceAdd, Nat.reduceEqDiff, reduceCtorEq, vmt, vzb, vzc, vlen, vleaf, velems, oks, vst, vmd, ty, Nat.reduceLeDiff, Nat.reduceMul, Nat.reduceSub, m45, h0, h2, h2', h3, h4, e4]
noncomputable abbrev T45 : List (FuncId × (List V → Option V)) := (37, F47) :: []
theorem hT45 : SoundHand Tryz.prog (hand T45) := sound_cons (hF_sound fun a h => w47 a.1 a.2 h) sound_nil
def F45P (H : FuncId → Option (List V → Option V)) (n : Nat) (v : V) (r : Option (Ex × St)) : Prop := Fin (M45 H n) [.cell 2 53] r = some (.ret v)
theorem tail45 {t : List UInt8} {b : Bool} {v3 : Nat} {s : St} (ht : t.all isDig = true) (hb : t.length ≤ 500) (h0 : 0 < t.length) (hP : P45 s t b v3 0) {v : V} (hv : F47 [Z b (fx 10 t.length (dval t))] = some v) (hs : ∃ z, v = Zr z) : F45P (hand T45) 600 v (R (M45 (hand T45) 600) (sub [1, 1, 1] c45) .top s) := by
  obtain ⟨z, rfl⟩ := hs
  have a1 := fun k s => @l45 (hand T45) 600 k t b v3 ht (by omega) (F45P (hand T45) 600 (Zr z)) t.length 0 600 s (by omega) (by omega)
  have w1 : IntKind.i64.wrap ((t.length : Int) - 1) = (t.length : Int) - 1 - ((0 : Nat) : Int) := by rw [wrap_id] <;> omega
  obtain ⟨h0', h2, h2', h3, hr⟩ := hP
  simp only [sub, c45, Tryz.f27, gets] at a1 ⊢
  simp only [vmr, vmw, vmp, vza, ↓reduceIte, Nat.reduceBEq, Nat.reduceLT, Nat.reduceAdd, Nat.reduceEqDiff, reduceCtorEq, vmt, vzb, vzc, vlen, vleaf, velems, oks, vst, vmd, ty, Nat.reduceLeDiff, Nat.reduceMul, Nat.reduceSub, m45, h0', w1]
  refine a1 _ _ ⟨?_, ?_, ?_, ?_, ?_⟩ ?_ (fun s' ⟨e0, e2, e2', e3, er⟩ => ?_)
  case refine_5 =>
    rcases hr with ⟨ha, h3'⟩ | ⟨hj0, _⟩
    · refine .inl ⟨ha, ?_⟩
      simp only [vmr, vmw, vmp, vza, ↓reduceIte, Nat.reduceBEq, Nat.reduceLT, Nat.reduceAdd, Nat.reduceEqDiff, reduceCtorEq, vmt, vzb, vzc, vlen, vleaf, velems, oks, vst, vmd, ty, Nat.reduceLeDiff, Nat.reduceMul, Nat.reduceSub, m45, h3']
    · omega
  case refine_7 =>
    rcases er with ⟨ha, _⟩ | ⟨hj0, vr, e3', e32⟩
    · omega
    · have htk : List.take t.length ((fx 10 t.length (dval t)).map I) = (fx 10 t.length (dval t)).map I := take_of _ (fx_len ..)
      simp only [vmr, vmw, vmp, vza, ↓reduceIte, Nat.reduceBEq, Nat.reduceLT, Nat.reduceAdd, Nat.reduceEqDiff, reduceCtorEq, vmt, vzb, vzc, vlen, vleaf, velems, oks, vst, vmd, ty, Nat.reduceLeDiff, Nat.reduceMul, Nat.reduceSub, m45, e0, e2, e2', e3, e3', e32, hv, fx_len, allflatI, pureLI, shI, htk, import_I]
      unfold F45P
      simp only [vmr, vmw, vmp, vza, ↓reduceIte, Nat.reduceBEq, Nat.reduceLT, Nat.reduceAdd, Nat.reduceEqDiff, reduceCtorEq, vmt, vzb, vzc, vlen, vleaf, velems, oks, vst, vmd, ty, Nat.reduceLeDiff, Nat.reduceMul, Nat.reduceSub, vzr, m45, e2, e2']
  all_goals simp only [vmr, vmw, vmp, vza, ↓reduceIte, Nat.reduceBEq, Nat.reduceLT, Nat.reduceAdd, Nat.reduceEqDiff, reduceCtorEq, vmt, vzb, vzc, vlen, vleaf, velems, oks, vst, vmd, ty, Nat.reduceLeDiff, Nat.reduceMul, Nat.reduceSub, m45, h0', h2, h2', h3]
theorem w45 (s : List UInt8) (h : validB s = true) : SoundPure Tryz.prog 27 [.str s] (.ret (Zr (ival s))) := by
  refine s45 hT45 600 (by simp) sZ ?_
  show F45P (hand T45) 600 (Zr (ival s)) _
  obtain ⟨hdg, hlen⟩ := valid_dig h
  have hne : s ≠ [] := by rintro rfl; exact absurd h (by decide)
  have hne2 : dropB s [45] ≠ [] := by
    intro e
    unfold validB at h
    rw [e] at h
    rw [Bool.or_eq_true] at h
    rcases h with h | h
    · have : s = [48] := by simpa using h
      subst this
      exact absurd e (by decide)
    · exact absurd h (by decide)
  have hpos : 0 < (dropB s [45]).length := List.length_pos_iff.2 hne2
  have hlt := dval_lt _ hdg
  obtain ⟨u, r, hur⟩ : ∃ u r, s = u :: r := by cases s with | nil => exact absurd rfl hne | cons u r => exact ⟨u, r, rfl⟩
  have hg : s[0]? = some u := by rw [hur]; rfl
  have a1 := fun t b v3 s ht hb h0 hP v hv hs => @tail45 t b v3 s ht hb h0 hP v hv hs
  rw [show c45 = .seq (sub [0] c45) (.seq (sub [1, 0] c45) (.seq (sub [1, 1, 0] c45) (sub [1, 1, 1] c45))) from rfl]
  generalize sub [1, 1, 1] c45 = tl at a1 ⊢
  simp only [sub, c45, Tryz.f27, gets]
  unfold ival
  by_cases hu : u = 45
  · have hd : ((u.toNat : Int) == 45) = true := by subst hu; rfl
    have hp : preB s [45] = true := by rw [hur, hu]; rfl
    have hdr : dropB s [45] = r := by unfold dropB; rw [if_pos hp, hur]; rfl
    have hdr2 : (List.drop 1 s).take (s.length - 1) = r := by simp [hur]
    have h1le : (1 ≤ s.length) = True := eq_true (by simp [hur])
    rw [hdr] at hdg hlen hpos hlt ⊢
    rw [hp, if_pos rfl]
    simp only [vmr, vmw, vmp, vza, ↓reduceIte, Nat.reduceBEq, Nat.reduceLT, Nat.reduceAdd, Nat.reduceEqDiff, reduceCtorEq, vmt, vzb, vzc, vlen, vleaf, velems, oks, vst, vmd, ty, Nat.reduceLeDiff, Nat.reduceMul, Nat.reduceSub, m45, hg, hd, sliceA, sliceV, boundOf, z01, t1N, h1le, hdr2, Option.map_some, Option.map_none, onone, Nat.le_refl]
    refine a1 r true 1 _ hdg hlen hpos ⟨?_, ?_, ?_, ?_, .inl ⟨rfl, ?_⟩⟩ _ (F47_neg (by omega) hlt) ⟨_, rfl⟩
    all_goals simp only [vmr, vmw, vmp, vza, ↓reduceIte, Nat.reduceBEq, Nat.reduceLT, Nat.reduceAdd, Nat.reduceEqDiff, reduceCtorEq, vmt, vzb, vzc, vlen, vleaf, velems, oks, vst, vmd, ty, Nat.reduceLeDiff, Nat.reduceMul, Nat.reduceSub, m45]
  · have hd : ((u.toNat : Int) == 45) = false := by
      rw [beq_eq_false_iff_ne]
      exact fun h => hu (UInt8.toNat_inj.1 (by simpa using (show u.toNat = 45 by omega)))
    have hp : preB s [45] = false := by rw [hur]; simp [preB, hu]
    have hdr : dropB s [45] = s := by unfold dropB; rw [hp]; rfl
    rw [hdr] at hdg hlen hpos hlt ⊢
    rw [hp, if_neg (by decide)]
    simp only [vmr, vmw, vmp, vza, ↓reduceIte, Nat.reduceBEq, Nat.reduceLT, Nat.reduceAdd, Nat.reduceEqDiff, reduceCtorEq, vmt, vzb, vzc, vlen, vleaf, velems, oks, vst, vmd, ty, Nat.reduceLeDiff, Nat.reduceMul, Nat.reduceSub, m45, hg, hd]
    refine a1 s false 1 _ hdg hlen hpos ⟨?_, ?_, ?_, ?_, .inl ⟨rfl, ?_⟩⟩ _ (F47_pos (by omega) hlt) ⟨_, rfl⟩
    all_goals simp only [vmr, vmw, vmp, vza, ↓reduceIte, Nat.reduceBEq, Nat.reduceLT, Nat.reduceAdd, Nat.reduceEqDiff, reduceCtorEq, vmt, vzb, vzc, vlen, vleaf, velems, oks, vst, vmd, ty, Nat.reduceLeDiff, Nat.reduceMul, Nat.reduceSub, m45]
noncomputable def F45 : List V → Option V := hF (α := List UInt8) (fun a => [.str a]) (fun a => validB a = true) (fun a => Zr (ival a))
theorem F45_eq {s : List UInt8} (h : validB s = true) : F45 [.str s] = some (Zr (ival s)) := hF_eq (a := s) (one_inj' fun _ _ => Str_inj) (by simp only [cans, canStr]) h
end Go.Vi
set_option maxRecDepth 100000
set_option maxHeartbeats 1000000
set_option exponentiation.threshold 256
namespace Go.Vi
open Go Go.Proofs

theorem w48i {d : Int} (h0 : 0 ≤ d) (h : d < 10) : IntKind.u8.wrap (48 + d) = 48 + d := by
  simp [IntKind.wrap, IntKind.signed, IntKind.bits]
  omega
structure P56 (s : St) (b : Bool) (l xs : List Int) (vr : Nat) : Prop where
  h1 : tget s.τ 1 = .ptr ⟨0, 1, 0⟩ 0 0 0
  h1' : lget s.L (1, 0) = some (0, .var [.bool b, Is l])
  h3 : tget s.τ 3 = .ref ⟨0, 3, 0⟩ vr 0 xs.length
  h3' : lget s.L (3, 0) = some (vr, .arr 1 (xs.map B8))
theorem l56 {H n k} {b : Bool} {l pre : List Int} (hdig : ∀ x ∈ l, 0 ≤ x ∧ x < 10) (hl : l.length ≤ 10000) (hpre : pre.length ≤ 10) {P : Option (Ex × St) → Prop} : ∀ d j vr n' s, l.length = j + d → d < n' → P56 s b l (pre ++ (l.reverse.take j).map (fun x => 48 + x)) vr → tget s.τ 4 = I ((l.length : Int) - 1 - (j : Nat)) →
    (∀ s' vr, P56 s' b l (pre ++ l.reverse.map (fun x => 48 + x)) vr → P (X (M56 H n) (.exit 0) k s')) → P (L (M56 H n) (sub [1, 1, 1, 1, 0, 1, 0, 0] c56) n' k s) := by
  intro d
  induction d with
  | zero =>
    intro j vr n' s hd hn hP h4 hx
    obtain ⟨n', rfl⟩ : ∃ m, n' = m + 1 := ⟨n' - 1, by omega⟩
    rw [List.take_of_length_le (by simp; omega)] at hP
    obtain ⟨h1, h1', h3, h3'⟩ := hP
    have hc : ((l.length : Int) - 1 - (j : Nat) ≥ 0) = False := eq_false (by omega)
    rw [L_succ]
    simp only [vmr, vmw, vmp, vza, ↓reduceIte, Nat.reduceBEq, Nat.reduceLT, Nat.reduceAdd, Nat.reduceEqDiff, reduceCtorEq, vmt, vzb, vzc, vlen, vleaf, velems, oks, vst, vmd, ty, Nat.reduceLeDiff, Nat.reduceMul, Nat.reduceSub, c56, Tryz.f40, m56, h4, hc]
    refine hx _ vr ⟨?_, ?_, ?_, ?_⟩
    all_goals simp only [vmr, vmw, vmp, vza, ↓reduceIte, Nat.reduceBEq, Nat.reduceLT, Nat.reduceAdd, Nat.reduceEqDiff, reduceCtorEq, vmt, vzb, vzc, vlen, vleaf, velems, oks, vst, vmd, ty, Nat.reduceLeDiff, Nat.reduceMul, Nat.reduceSub, m56, h1, h1', h3, h3']
  | succ d ih =>
    intro j vr n' s hd hn hP h4 hx
    obtain ⟨n', rfl⟩ : ∃ m, n' = m + 1 := ⟨n' - 1, by omega⟩
    obtain ⟨h1, h1', h3, h3'⟩ := hP
    have hc : ((l.length : Int) - 1 - (j : Nat) ≥ 0) = True := eq_true (by omega)
    have hlt : l.length - 1 - j < l.length := by omega
    have hg : l[l.length - 1 - j]? = some l[l.length - 1 - j] := List.getElem?_eq_getElem hlt
    have hdd := hdig _ (List.getElem_mem hlt)
    have hrev : l.reverse[j]? = some l[l.length - 1 - j] := by rw [List.getElem?_reverse (by omega)]; exact hg
    have hts := take_snoc hrev
    have e4 : (l.length : Int) - 1 - (j : Nat) = ((l.length - 1 - j : Nat) : Int) := by omega
    have w1 : IntKind.i64.wrap (((l.length - 1 - j : Nat) : Int) - 1) = (l.length : Int) - 1 - ((j + 1 : Nat) : Int) := by rw [wrap_id] <;> omega
    have hgm : (l.map I)[l.length - 1 - j]? = some (I l[l.length - 1 - j]) := by simp [hg]
    have hb1 : (((l.length - 1 - j : Nat) : Int) < (l.length : Int)) = True := eq_true (by omega)
    have ih := fun vr s => ih (j + 1) vr n' s (by omega) (by omega)
    rw [hts, List.map_append] at ih
    have hxl : (pre ++ (l.reverse.take j).map (fun x => 48 + x)).length ≤ 20000 := by simp; omega
    generalize hxs : pre ++ (l.reverse.take j).map (fun x => 48 + x) = xs at *
    have ih : ∀ vr s, P56 s b l (xs ++ [48 + l[l.length - 1 - j]]) vr → _ := fun vr s hp => ih vr s (by rw [← List.append_assoc, hxs]; exact hp)
    generalize l[l.length - 1 - j] = x at *
    have w2 : IntKind.i64.wrap (48 + x) = 48 + x := by rw [wrap_id] <;> omega
    have w3 := w48i hdd.1 hdd.2
    have hr1 := @room5 1 (by omega)
    have hr2 := @room5 (xs.length + 1) (by omega)
    rw [e4] at h4 hc
    simp only [sub, c56, Tryz.f40, gets] at ih
    rw [L_succ]
    simp only [vmr, vmw, vmp, vza, ↓reduceIte, Nat.reduceBEq, Nat.reduceLT, Nat.reduceAdd, Nat.reduceEqDiff, reduceCtorEq, vmt, vzb, vzc, vlen, vleaf, velems, oks, vst, vmd, ty, Nat.reduceLeDiff, Nat.reduceMul, Nat.reduceSub, c56, Tryz.f40, m56, h4, hc, h1, h1', h3, h3', hgm, hb1, w1, w2, w3, hr1, hr2, fits5b, List.map_cons]
    refine ih (s.c + 1 + 1) _ ⟨?_, ?_, ?_, ?_⟩ ?_ hx
    all_goals simp only [vmr, vmw, vmp, vza, ↓reduceIte, Nat.reduceBEq, Nat.reduceLT, Nat.reduceAdd, Nat.reduceEqDiff, reduceCtorEq, vmt, vzb, vzc, vlen, vleaf, velems, oks, vst, vmd, ty, Nat.reduceLeDiff, Nat.reduceMul, Nat.reduceSub, m56, h1, h1', List.map_append, List.map_cons, List.map_nil, List.length_append, List.length_cons, List.length_nil, List.length_map, w1]
def F56P (H : FuncId → Option (List V → Option V)) (n : Nat) (v : V) (r : Option (Ex × St)) : Prop := Fin (M56 H n) [.tmp 2] r = some (.ret v)
theorem txt_bytes (pre : List Int) (hp : ∀ x ∈ pre, 0 ≤ x ∧ x < 256) (n : Nat) (hn : n ≠ 0) : bytesV ((pre ++ (lm 10 n).reverse.map fun x => 48 + x).map B8) = some ((pre.map fun x => UInt8.ofNat x.toNat) ++ txt n) := by
  have hd : ∀ x ∈ lm 10 n, 0 ≤ x ∧ x < 10 := fx_dig 10 (by omega) _ _
  rw [bytesV_map]
  · rw [List.map_append, List.map_map]
    unfold txt
    rw [if_neg hn, ← List.map_reverse]
    congr 2
    apply List.map_congr_left
    intro x hx
    have := hd x (by simpa using hx)
    show UInt8.ofNat (48 + x).toNat = UInt8.ofNat (48 + x.toNat)
    congr 1
    omega
  · intro x hx
    rw [List.mem_append] at hx
    rcases hx with hx | hx
    · exact hp x hx
    · simp only [List.mem_map, List.mem_reverse] at hx
      obtain ⟨d, hd2, rfl⟩ := hx
      have := hd d hd2
      omega
theorem k56 {b : Bool} {n : Nat} {pre : List Int} (hn : n ≠ 0) (hf : n < 10 ^ 1000) (hpl : pre.length ≤ 1) (hpb : ∀ x ∈ pre, 0 ≤ x ∧ x < 256) {vr : Nat} {s : St} (hP : P56 s b (lm 10 n) pre vr) : F56P (hand []) 1005 (.str ((pre.map fun x => UInt8.ofNat x.toNat) ++ txt n)) (R (M56 (hand []) 1005) (sub [1, 1, 1, 1] c56) .top s) := by
  have hl : (lm 10 n).length ≤ 1000 := (lm_len_le (by omega) n 1000).2 hf
  have a1 := fun k vr s => @l56 (hand []) 1005 k b (lm 10 n) pre (fx_dig 10 (by omega) _ _) (by omega) (by omega) (F56P (hand []) 1005 (.str ((pre.map fun x => UInt8.ofNat x.toNat) ++ txt n))) (lm 10 n).length 0 vr 1005 s (by omega) (by omega)
  have w1 : IntKind.i64.wrap (((lm 10 n).length : Int) - 1) = ((lm 10 n).length : Int) - 1 - ((0 : Nat) : Int) := by rw [wrap_id] <;> omega
  rw [List.take_zero, List.map_nil, List.append_nil] at a1
  obtain ⟨h1, h1', h3, h3'⟩ := hP
  simp only [sub, c56, Tryz.f40, gets] at a1 ⊢
  simp only [vmr, vmw, vmp, vza, ↓reduceIte, Nat.reduceBEq, Nat.reduceLT, Nat.reduceAdd, Nat.reduceEqDiff, reduceCtorEq, vmt, vzb, vzc, vlen, vleaf, velems, oks, vst, vmd, ty, Nat.reduceLeDiff, Nat.reduceMul, Nat.reduceSub, m56, h1, h1', w1]
  refine a1 _ vr _ ⟨?_, ?_, ?_, ?_⟩ ?_ (fun s' vr' ⟨e1, e1', e3, e3'⟩ => ?_)
  case refine_6 =>
    have hby := txt_bytes pre hpb n hn
    generalize (pre ++ (lm 10 n).reverse.map fun x => 48 + x) = xs at *
    have htk : (xs.map B8).take xs.length = xs.map B8 := List.take_of_length_le (by simp)
    simp only [vmr, vmw, vmp, vza, ↓reduceIte, Nat.reduceBEq, Nat.reduceLT, Nat.reduceAdd, Nat.reduceEqDiff, reduceCtorEq, vmt, vzb, vzc, vlen, vleaf, velems, oks, vst, vmd, ty, Nat.reduceLeDiff, Nat.reduceMul, Nat.reduceSub, m56, e3, e3', str100.1, str100.2, convB_ref, cv2_lst, htk, hby, Nat.le_refl, List.drop_zero]
    unfold F56P
    simp only [vmr, vmw, vmp, vza, ↓reduceIte, Nat.reduceBEq, Nat.reduceLT, Nat.reduceAdd, Nat.reduceEqDiff, reduceCtorEq, vmt, vzb, vzc, vlen, vleaf, velems, oks, vst, vmd, ty, Nat.reduceLeDiff, Nat.reduceMul, Nat.reduceSub, vzr, m56]
  all_goals simp only [vmr, vmw, vmp, vza, ↓reduceIte, Nat.reduceBEq, Nat.reduceLT, Nat.reduceAdd, Nat.reduceEqDiff, reduceCtorEq, vmt, vzb, vzc, vlen, vleaf, velems, oks, vst, vmd, ty, Nat.reduceLeDiff, Nat.reduceMul, Nat.reduceSub, m56, h1, h1', h3, h3']
theorem w56 (z : Int) (hf : z.natAbs < 10 ^ 1000) : SoundPure Tryz.prog 40 [Zr z] (.ret (.str (itxt z))) := by
  refine s56 (H := []) sound_nil 1005 (by simp) rfl ?_
  show F56P (hand []) 1005 _ _
  have hr0 := @room5 0 (by omega)
  have hr1 := @room5 1 (by omega)
  unfold itxt
  have a1 := fun b vr s pre hn h1 h2 hP => @k56 b z.natAbs pre hn hf h1 h2 vr s hP
  by_cases h0 : z = 0
  · subst h0
    have e1 : (((lm 10 (Int.natAbs 0)).length : Int) == 0) = true := by decide
    simp only [c56, Tryz.f40, gets]
    simp only [vmr, vmw, vmp, vza, ↓reduceIte, Nat.reduceBEq, Nat.reduceLT, Nat.reduceAdd, Nat.reduceEqDiff, reduceCtorEq, vmt, vzb, vzc, vlen, vleaf, velems, oks, vst, vmd, ty, Nat.reduceLeDiff, Nat.reduceMul, Nat.reduceSub, m56, e1]
    rfl
  · have e1 : (((lm 10 z.natAbs).length : Int) == 0) = false := by rw [beq_eq_false_iff_ne]; have := mt (lm_nil (B := 10) (by omega) z.natAbs).1 (by omega); omega
    rw [show c56 = .seq (sub [0] c56) (.seq (sub [1, 0] c56) (.seq (sub [1, 1, 0] c56) (.seq (sub [1, 1, 1, 0] c56) (sub [1, 1, 1, 1] c56)))) from rfl]
    generalize sub [1, 1, 1, 1] c56 = tl at a1 ⊢
    simp only [sub, c56, Tryz.f40, gets]
    by_cases hz : z < 0
    · have d := decide_eq_true hz
      rw [if_pos hz]
      simp only [vmr, vmw, vmp, vza, ↓reduceIte, Nat.reduceBEq, Nat.reduceLT, Nat.reduceAdd, Nat.reduceEqDiff, reduceCtorEq, vmt, vzb, vzc, vlen, vleaf, velems, oks, vst, vmd, ty, Nat.reduceLeDiff, Nat.reduceMul, Nat.reduceSub, m56, e1, d, hr0, hr1, fits5b, List.map_cons, List.map_nil]
      refine a1 true 5 _ [45] (by omega) (by simp) (by simp) ⟨?_, ?_, ?_, ?_⟩
      all_goals simp only [vmr, vmw, vmp, vza, ↓reduceIte, Nat.reduceBEq, Nat.reduceLT, Nat.reduceAdd, Nat.reduceEqDiff, reduceCtorEq, vmt, vzb, vzc, vlen, vleaf, velems, oks, vst, vmd, ty, Nat.reduceLeDiff, Nat.reduceMul, Nat.reduceSub, m56, d, List.map_cons, List.length_cons]
    · have d := decide_eq_false hz
      rw [if_neg hz]
      simp only [vmr, vmw, vmp, vza, ↓reduceIte, Nat.reduceBEq, Nat.reduceLT, Nat.reduceAdd, Nat.reduceEqDiff, reduceCtorEq, vmt, vzb, vzc, vlen, vleaf, velems, oks, vst, vmd, ty, Nat.reduceLeDiff, Nat.reduceMul, Nat.reduceSub, m56, e1, d, hr0, hr1, fits5b, List.map_cons, List.map_nil]
      refine a1 false 2 _ [] (by omega) (by simp) (by simp) ⟨?_, ?_, ?_, ?_⟩
      all_goals simp only [vmr, vmw, vmp, vza, ↓reduceIte, Nat.reduceBEq, Nat.reduceLT, Nat.reduceAdd, Nat.reduceEqDiff, reduceCtorEq, vmt, vzb, vzc, vlen, vleaf, velems, oks, vst, vmd, ty, Nat.reduceLeDiff, Nat.reduceMul, Nat.reduceSub, m56, d, List.map_cons]
noncomputable def F56 : List V → Option V := hF (α := Int) (fun a => [Zr a]) (fun a => a.natAbs < 10 ^ 1000) (fun a => .str (itxt a))
theorem F56_eq {z : Int} (h : z.natAbs < 10 ^ 1000) : F56 [Zr z] = some (.str (itxt z)) := hF_eq (a := z) (one_inj' fun _ _ => Zr_inj) (by simp only [cans, canZ]) h
end Go.Vi
