/-
  ApplyUses's comparison of two uses, and slices.EqualFunc by it.
-/
import Derived.Test.YtpibnnopnhmijaaGreatDoorS2
import Derived.Tactics
import Derived.Tactics2
import Derived.Laws.StructEq
import Derived.Test.YtpibnnopnhmijaaGreatDoorS1
import Derived.Test.YtpibnnopnhmijaaGreatDoorVD
import Derived.WalkKit
import Derived.ProofKit
import Derived.Test.YtpibnnopnhmijaaGreatDoorCards
import Derived.Test.YtpibnnopnhmijaaGreatDoorTie
import Derived.OpenShut
import Derived.Deep.DeepHandedRow
import Derived.Lib.LaidTab
set_option linter.unusedSimpArgs false
set_option linter.unusedVariables false
set_option maxRecDepth 100000
set_option maxHeartbeats 1000000
namespace Go.Vi
open Go Go.Proofs Go.RowKit

def eqU1 (p q : List UInt8 × Nat) : Bool := p.1 == q.1 && p.2 == q.2
theorem eq34 (p q : List UInt8 × Nat) (w : World) : (binOp .eql 34 (.agg #[.string ⟨p.1.toArray⟩, .int .i64 p.2]) (.agg #[.string ⟨q.1.toArray⟩, .int .i64 q.2])).run Tryz.prog w = .ok (.bool (eqU1 p q)) w := by
  have u3 := Tryz.underlying3
  have a3 := Tryz.isAgg3
  have z3 := Tryz.sizeOf3
  have u9 := Tryz.underlying9
  have a9 := Tryz.isAgg9
  have z9 := Tryz.sizeOf9
  have hS : Tryz.prog.underlying 34 = some (.struct (Tryz.prog.fieldsOf 34)) := by kernel_rfl
  have hp : Tryz.prog.stoodInHeld 34 = false := by kernel_rfl
  rw [run_eql_struct, show (10000 : Nat) = 9999 + 1 from rfl, run_equalIn_agg w 9999 34 _ _ hS hp]
  simp only [Program.fieldsOf, Tryz.underlying34]
  go_simp
  unfold eqU1
  have h2i : ((p.2 : Int) = (q.2 : Int)) = (p.2 = q.2) := propext ⟨fun h => by omega, fun h => by omega⟩
  by_cases h1 : p.1 = q.1 <;> by_cases h2 : p.2 = q.2 <;> simp [h1, h2, h2i]
theorem w13 (p q : List UInt8 × Nat) : SoundPure Tryz.prog 13 [useP p, useP q] (.ret (.bool (eqU1 p q))) := by
  intro w A cs hJ hA hp
  simp only [useP, PCs, PC] at hp
  obtain ⟨c, d, hcs, ⟨a, rfl, c1, d1, h1, rfl, c2, d2, h2, rfl, h3⟩, c', d', hcs', ⟨a', rfl, c1', d1', h1', rfl, c2', d2', h2', rfl, h3'⟩, rfl⟩ := hp
  obtain rfl : a = #[.string ⟨p.1.toArray⟩, .int .i64 p.2] := by cases a; simp_all
  obtain rfl : a' = #[.string ⟨q.1.toArray⟩, .int .i64 q.2] := by cases a'; simp_all
  obtain rfl : cs = #[.agg #[.string ⟨p.1.toArray⟩, .int .i64 p.2], .agg #[.string ⟨q.1.toArray⟩, .int .i64 q.2]] := by cases cs; simp_all
  have fin : ∀ e w', e = Ending.returned (.bool (eqU1 p q)) ∧ Below w.heap.size w w' → PureOut w A (.ret (.bool (eqU1 p q))) e w' := by
    rintro e w' ⟨rfl, hb⟩
    refine ⟨A, ⟨hb.size, hb.os, hb.tape, hb.output, fun b hb' _ => hb.block b hb', fun _ _ _ => rfl, Nat.le_refl _, fun _ h => h, fun _ h => .inl h, fun _ h => .inl h⟩, fun b hb' => Nat.lt_of_lt_of_le (hA b hb') hb.size, _, [], rfl, ?_, fun i hi => (by cases hi), List.Pairwise.nil⟩
    simp only [RC, IC, PC]
    exact ⟨trivial, trivial⟩
  refine (?_ : Calls Tryz.prog 13 #[.agg #[.string ⟨p.1.toArray⟩, .int .i64 p.2], .agg #[.string ⟨q.1.toArray⟩, .int .i64 q.2]] w fun e w' => e = Ending.returned (.bool (eqU1 p q)) ∧ Below w.heap.size w w').mono fin
  have he := eq34 p q
  go_enter Tryz.func13, Tryz.ntmps13
  go_wp2
  go_ret
  exact ⟨rfl, ((Below.refl _ w).alloc (Nat.le_refl _) _).alloc ((Below.refl _ w).alloc (Nat.le_refl _) _).size _⟩
noncomputable def F13u : List V → Option V := hF (α := (List UInt8 × Nat) × (List UInt8 × Nat)) (fun p => [useP p.1, useP p.2]) (fun _ => True) (fun p => .bool (eqU1 p.1 p.2))
theorem useP1_inj {p q : List UInt8 × Nat} (h : useP p = useP q) : p = q := by
  have : [p].map useP = [q].map useP := by simp [h]
  have := useP_inj this
  injection this
theorem F13u_eq (p q : List UInt8 × Nat) : F13u [useP p, useP q] = some (.bool (eqU1 p q)) := hF_eq (a := (p, q)) (two_inj (fun _ _ => useP1_inj) (fun _ _ => useP1_inj)) rfl trivial
theorem F13u_sound : ∀ args v, F13u args = some v → SoundPure Tryz.prog 13 args (.ret v) := hF_sound fun p _ => w13 p.1 p.2
abbrev fn13 : V := .fn (.func 13) [] []
theorem us_get {a : Us} {i : Nat} {p} (h : a[i]? = some p) : (a.map useP)[i]? = some (useP p) := by rw [List.getElem?_map, h, Option.map_some]
def eqUs : Us → Us → Bool
  | [], [] => true
  | p :: r, q :: t => eqU1 p q && eqUs r t
  | _, _ => false
theorem eqUs_self : ∀ a, eqUs a a = true
  | [] => rfl
  | p :: r => by simp [eqUs, eqU1, eqUs_self r]
theorem eqUs_len : ∀ a b : Us, a.length ≠ b.length → eqUs a b = false
  | [], [], h => absurd rfl h
  | [], _ :: _, _ => rfl
  | _ :: _, [], _ => rfl
  | x :: r, y :: q, h => by rw [eqUs, eqUs_len r q (fun e => h (by simp [e])), Bool.and_false]
def P1010 (n : Nat) (v : V) (r : Option (Ex × St)) : Prop := Fin (M1010 (hand [(13, F13u)]) n) [.tmp 6] r = some (.ret v)
theorem l1010 {n k v} (a b : Us) (ha : a.length ≤ 1000000) : ∀ r t i n' s, a.drop i = r → b.drop i = t → r.length = t.length → r.length < n' → tget s.τ 1 = UsV b → tget s.τ 2 = fn13 → tget s.τ 15 = UsV a → tget s.τ 16 = I a.length → tget s.τ 17 = I (i : Nat) →
    V.bool (eqUs r t) = v → (∀ s', V.bool true = v → P1010 n v (X (M1010 (hand [(13, F13u)]) n) (.exit 0) k s')) →
    P1010 n v (L (M1010 (hand [(13, F13u)]) n) (sub [1, 1, 0, 1, 0, 0] c1010) n' k s)
  | [], [], i, n' + 1, s, hi, hj, hl, hn, h1, h2, h15, h16, h17, hv, hx => by
    have hc := inlt (drop_nil' hi)
    rw [L_succ]
    simp only [vmr, vmw, vmp, vza, ↓reduceIte, Nat.reduceBEq, Nat.reduceLT, Nat.reduceAdd, Nat.reduceEqDiff, reduceCtorEq, vmt, vzb, vzc, vlen, vleaf, velems, oks, vst, vmd, ty, Nat.reduceLeDiff, Nat.reduceMul, Nat.reduceSub, c1010, Tryz.f10, m1010, h15, h16, h17, hc]
    exact hx _ hv
  | p :: r, q :: t, i, n' + 1, s, hi, hj, hl, hn, h1, h2, h15, h16, h17, hv, hx => by
    obtain ⟨g1, g2, g3⟩ := drop_cons hi
    obtain ⟨g4, g5, g6⟩ := drop_cons hj
    have hcl := ilt g3
    have ga := us_get g1
    have gb := us_get g4
    have w4 := wsuc g3 (by omega)
    have e := F13u_eq p q
    have ih := fun s => l1010 (n := n) (k := k) (v := v) a b ha r t (i + 1) n' s g2 g5 (by simpa using hl) (by simp at hn; omega)
    simp only [sub, c1010, Tryz.f10, gets] at ih
    simp only [useP] at ga gb e
    rw [L_succ]
    rw [eqUs] at hv
    cases hq : eqU1 p q with
    | true =>
      rw [hq] at e hv
      rw [Bool.true_and] at hv
      simp only [vmr, vmw, vmp, vza, ↓reduceIte, Nat.reduceBEq, Nat.reduceLT, Nat.reduceAdd, Nat.reduceEqDiff, reduceCtorEq, vmt, vzb, vzc, vlen, vleaf, velems, oks, vst, vmd, ty, Nat.reduceLeDiff, Nat.reduceMul, Nat.reduceSub, c1010, Tryz.f10, m1010, h1, h2, h15, h16, h17, hcl, ga, gb, w4, e]
      refine ih _ ?_ ?_ ?_ ?_ ?_ hv hx
      all_goals simp only [vmr, vmw, vmp, vza, ↓reduceIte, Nat.reduceBEq, Nat.reduceLT, Nat.reduceAdd, Nat.reduceEqDiff, reduceCtorEq, vmt, vzb, vzc, vlen, vleaf, velems, oks, vst, vmd, ty, Nat.reduceLeDiff, Nat.reduceMul, Nat.reduceSub, m1010, h1, h2, h15, h16]
    | false =>
      rw [hq] at e hv
      rw [Bool.false_and] at hv
      simp only [vmr, vmw, vmp, vza, ↓reduceIte, Nat.reduceBEq, Nat.reduceLT, Nat.reduceAdd, Nat.reduceEqDiff, reduceCtorEq, vmt, vzb, vzc, vlen, vleaf, velems, oks, vst, vmd, ty, Nat.reduceLeDiff, Nat.reduceMul, Nat.reduceSub, c1010, Tryz.f10, m1010, h1, h2, h15, h16, h17, hcl, ga, gb, w4, e]
      rw [← hv]
      unfold P1010
      simp only [vmr, vmw, vmp, vza, ↓reduceIte, Nat.reduceBEq, Nat.reduceLT, Nat.reduceAdd, Nat.reduceEqDiff, reduceCtorEq, vmt, vzb, vzc, vlen, vleaf, velems, oks, vst, vmd, ty, Nat.reduceLeDiff, Nat.reduceMul, Nat.reduceSub, vzr, m1010]
theorem w1010 (a b : Us) (ha : a.length ≤ 1000000) : SoundPure Tryz.prog 10 [UsV a, UsV b, fn13] (.ret (.bool (eqUs a b))) := by
  refine s1010 (H := [(13, F13u)]) (sound_cons F13u_sound sound_nil) (a.length + 1) (by simp) rfl ?_
  show P1010 _ _ _
  by_cases q : a.length = b.length
  · have q' : ((a.length : Int) != (b.length : Int)) = false := by simp [q]
    have a1 := fun k s => @l1010 (a.length + 1) k (.bool (eqUs a b)) a b ha a b 0 (a.length + 1) s rfl rfl q (by omega)
    simp only [c1010, Tryz.f10, gets, sub] at a1 ⊢
    simp only [vmr, vmw, vmp, vza, ↓reduceIte, Nat.reduceBEq, Nat.reduceLT, Nat.reduceAdd, Nat.reduceEqDiff, reduceCtorEq, vmt, vzb, vzc, vlen, vleaf, velems, oks, vst, vmd, ty, Nat.reduceLeDiff, Nat.reduceMul, Nat.reduceSub, m1010, q']
    refine a1 _ _ ?_ ?_ ?_ ?_ ?_ trivial (fun s' h => ?_)
    case refine_6 =>
      rw [← h]
      simp only [vmr, vmw, vmp, vza, ↓reduceIte, Nat.reduceBEq, Nat.reduceLT, Nat.reduceAdd, Nat.reduceEqDiff, reduceCtorEq, vmt, vzb, vzc, vlen, vleaf, velems, oks, vst, vmd, ty, Nat.reduceLeDiff, Nat.reduceMul, Nat.reduceSub, m1010]
      unfold P1010
      simp only [vmr, vmw, vmp, vza, ↓reduceIte, Nat.reduceBEq, Nat.reduceLT, Nat.reduceAdd, Nat.reduceEqDiff, reduceCtorEq, vmt, vzb, vzc, vlen, vleaf, velems, oks, vst, vmd, ty, Nat.reduceLeDiff, Nat.reduceMul, Nat.reduceSub, vzr, m1010]
    all_goals simp only [vmr, vmw, vmp, vza, ↓reduceIte, Nat.reduceBEq, Nat.reduceLT, Nat.reduceAdd, Nat.reduceEqDiff, reduceCtorEq, vmt, vzb, vzc, vlen, vleaf, velems, oks, vst, vmd, ty, Nat.reduceLeDiff, Nat.reduceMul, Nat.reduceSub, m1010]
    all_goals rfl
  · have q' : ((a.length : Int) != (b.length : Int)) = true := by simp; omega
    rw [eqUs_len a b q]
    simp only [c1010, Tryz.f10, gets, sub]
    simp only [vmr, vmw, vmp, vza, ↓reduceIte, Nat.reduceBEq, Nat.reduceLT, Nat.reduceAdd, Nat.reduceEqDiff, reduceCtorEq, vmt, vzb, vzc, vlen, vleaf, velems, oks, vst, vmd, ty, Nat.reduceLeDiff, Nat.reduceMul, Nat.reduceSub, m1010, q']
    unfold P1010
    simp only [vmr, vmw, vmp, vza, ↓reduceIte, Nat.reduceBEq, Nat.reduceLT, Nat.reduceAdd, Nat.reduceEqDiff, reduceCtorEq, vmt, vzb, vzc, vlen, vleaf, velems, oks, vst, vmd, ty, Nat.reduceLeDiff, Nat.reduceMul, Nat.reduceSub, vzr, m1010]
noncomputable def F1010 : List V → Option V := hF (α := Us × Us) (fun p => [UsV p.1, UsV p.2, fn13]) (fun p => p.1.length ≤ 1000000) (fun p => .bool (eqUs p.1 p.2))
theorem UsV_inj {a b : Us} (h : UsV a = UsV b) : a = b := by injection h with h; exact useP_inj h
theorem can_UsV (w : Us) : can (UsV w) = UsV w := by show V.lst (cans _) = _; rw [cans_useP]
theorem F1010_eq {a b : Us} (h : a.length ≤ 1000000) : F1010 [UsV a, UsV b, fn13] = some (.bool (eqUs a b)) := hF_eq (a := (a, b)) (fun x y h => by
  injection h with h1 h2
  injection h2 with h2
  exact Prod.ext (UsV_inj h1) (UsV_inj h2)) (by simp only [cans, can_UsV]; rfl) h
theorem F1010_sound : ∀ args v, F1010 args = some v → SoundPure Tryz.prog 10 args (.ret v) := hF_sound fun p hp => w1010 p.1 p.2 hp
end Go.Vi
set_option maxRecDepth 100000
set_option maxHeartbeats 1000000
namespace Go.Vi
open Go Go.Proofs

/-- The names used more than once; none, if one is not bound. -/
def cpO (w : Ns) : Us → Option Ns
  | [] => some []
  | p :: r => if w.contains p.1 = true then (cpO w r).map (fun q => if p.2 > 1 then p.1 :: q else q) else none
def copB (a b : List Tm) : Ns × Int := if errB 7 a ≠ 0 then ([], errB 7 a) else if errB 8 b ≠ 0 then ([], errB 8 b) else match cpO (varL a) (usL b) with | some q => (q, 0) | none => ([], 90)
theorem cpO_len (w : Ns) : ∀ (r : Us) q, cpO w r = some q → q.length ≤ r.length
  | [], q, h => by injection h with h; subst h; simp
  | p :: r, q, h => by
    simp only [cpO] at h
    split at h
    · simp only [Option.map_eq_some_iff] at h
      obtain ⟨q', h1, rfl⟩ := h
      have := cpO_len w r q' h1
      split <;> simp <;> omega
    · cases h
noncomputable abbrev T729 : List (FuncId × (List V → Option V)) := [(11, F23), (28, Fpat), (29, Fres), (30, F27), (31, Fhas)]
theorem h729 : SoundHand Tryz.prog (hand T729) := sound_cons F23_sound <| sound_cons F28_sound <| sound_cons F17_sound <| sound_cons F27_sound <| sound_cons F1031_sound sound_nil
def A29 (s : St) (d : Ns) : Prop := ∃ v9 sz, (sz = 1 ∨ sz = 0) ∧ tget s.τ 9 = .ref ⟨0, 9, 0⟩ v9 0 d.length ∧ lget s.L (9, 0) = some (v9, .arr sz (d.map .str))
theorem A29.of {s d} (h : tget s.τ 9 = .ref ⟨0, 9, 0⟩ (ver s (9, 0)) 0 d.length) (h' : lget s.L (9, 0) = some (ver s (9, 0), .arr 1 (d.map .str))) : A29 s d := ⟨_, 1, .inl rfl, h, h'⟩
theorem room9 {n : Nat} (h : n ≤ 2000000) : roomOk Tryz.prog 9 n = true := by simp [roomOk, ty, cellsV, leafV]; omega
theorem fits9 (s : List UInt8) : fitsE Tryz.prog 9 (.str s) = true := by simp [fitsE, ty, leafV]
theorem l729 {n k} {P : Option (Ex × St) → Prop} (w : Ns) (hw : w.length ≤ 1000000) (us : Us) (hus : us.length ≤ 1000000) : ∀ r i d n' s, us.drop i = r → r.length < n' → d.length + r.length ≤ 1000000 → A29 s d → tget s.τ 8 = Ss w → tget s.τ 25 = UsV us → tget s.τ 26 = I us.length → tget s.τ 27 = I (i : Nat) →
    (∀ s' q, cpO w r = some q → A29 s' (d ++ q) → P (X (M729 (hand T729) n) (.exit 0) k s')) →
    (∀ s', cpO w r = none → tget s'.τ 4 = .nilS → tget s'.τ 5 = I 90 → P (some (.ret, s'))) →
    P (L (M729 (hand T729) n) (sub [1, 1, 1, 1, 1, 0, 1, 0, 0] c729) n' k s)
  | [], i, d, n' + 1, s, hi, hn, hl, ⟨v9, sz, hz, h9, h9'⟩, h8, h25, h26, h27, hq, hf => by
    have hc := inlt (drop_nil' hi)
    rw [L_succ]
    simp only [vmr, vmw, vmp, vza, ↓reduceIte, Nat.reduceBEq, Nat.reduceLT, Nat.reduceAdd, Nat.reduceEqDiff, reduceCtorEq, vmt, vzb, vzc, vlen, vleaf, velems, oks, vst, vmd, ty, Nat.reduceLeDiff, Nat.reduceMul, Nat.reduceSub, c729, Tryz.f8, m729, h25, h26, h27, hc]
    refine hq _ [] rfl ⟨v9, sz, hz, ?_, ?_⟩
    all_goals simp only [vmr, vmw, vmp, vza, ↓reduceIte, Nat.reduceBEq, Nat.reduceLT, Nat.reduceAdd, Nat.reduceEqDiff, reduceCtorEq, vmt, vzb, vzc, vlen, vleaf, velems, oks, vst, vmd, ty, Nat.reduceLeDiff, Nat.reduceMul, Nat.reduceSub, m729, h9, h9', List.append_nil]
  | (x, t) :: r, i, d, n' + 1, s, hi, hn, hl, ⟨v9, sz, hz, h9, h9'⟩, h8, h25, h26, h27, hq, hf => by
    obtain ⟨g1, g2, g3⟩ := drop_cons hi
    have hcl := ilt g3
    have ga := us_get g1
    simp only [useP] at ga
    have w4 := wsuc g3 (by omega)
    have e := Fhas_eq (a := w) (x := x) hw
    have hz' := eq_true hz
    have ih := fun d s hl hA h8 h25 h26 h27 => l729 (n := n) (k := k) (P := P) w hw us hus r (i + 1) d n' s g2 (by simp at hn; omega) hl hA h8 h25 h26 h27
    simp only [sub, c729, Tryz.f8, gets] at ih
    rw [L_succ]
    cases hc : w.contains x with
    | false =>
      rw [hc] at e
      simp only [vmr, vmw, vmp, vza, ↓reduceIte, Nat.reduceBEq, Nat.reduceLT, Nat.reduceAdd, Nat.reduceEqDiff, reduceCtorEq, vmt, vzb, vzc, vlen, vleaf, velems, oks, vst, vmd, ty, Nat.reduceLeDiff, Nat.reduceMul, Nat.reduceSub, c729, Tryz.f8, m729, h8, h25, h26, h27, hcl, ga, w4, e]
      refine hf _ (by simp only [cpO]; rw [if_neg (by rw [hc]; simp)]) ?_ ?_
      all_goals simp only [vmr, vmw, vmp, vza, ↓reduceIte, Nat.reduceBEq, Nat.reduceLT, Nat.reduceAdd, Nat.reduceEqDiff, reduceCtorEq, vmt, vzb, vzc, vlen, vleaf, velems, oks, vst, vmd, ty, Nat.reduceLeDiff, Nat.reduceMul, Nat.reduceSub, m729]
    | true =>
      rw [hc] at e
      have hcp : cpO w ((x, t) :: r) = (cpO w r).map (fun q => if t > 1 then x :: q else q) := by simp only [cpO]; rw [if_pos hc]
      rw [hcp] at hq hf
      by_cases ht : t > 1
      · have ht' : ((t : Int) > 1) = True := eq_true (by omega)
        simp only [ht, if_true] at hq hf
        have r1 := @room9 1 (by omega)
        have r2 := @room9 (d.length + 1) (by simp at hl; omega)
        have f1 := fits9 x
        simp only [vmr, vmw, vmp, vza, ↓reduceIte, Nat.reduceBEq, Nat.reduceLT, Nat.reduceAdd, Nat.reduceEqDiff, reduceCtorEq, vmt, vzb, vzc, vlen, vleaf, velems, oks, vst, vmd, ty, Nat.reduceLeDiff, Nat.reduceMul, Nat.reduceSub, c729, Tryz.f8, m729, h8, h25, h26, h27, h9, h9', hcl, ga, w4, e, ht', r1, r2, f1, hz', List.map_cons, List.map_nil]
        refine ih (d ++ [x]) _ (by simp at hl ⊢; omega) (A29.of ?_ ?_) ?_ ?_ ?_ ?_ (fun s' q h hA => hq s' (x :: q) (by rw [h]; rfl) (by rw [List.append_cons]; exact hA)) (fun s' h => hf s' (by rw [h]; rfl))
        all_goals simp only [vmr, vmw, vmp, vza, ↓reduceIte, Nat.reduceBEq, Nat.reduceLT, Nat.reduceAdd, Nat.reduceEqDiff, reduceCtorEq, vmt, vzb, vzc, vlen, vleaf, velems, oks, vst, vmd, ty, Nat.reduceLeDiff, Nat.reduceMul, Nat.reduceSub, m729, ver, h8, h25, h26, List.length_append, List.map_append, List.map_cons, List.map_nil]
      · have ht' : ((t : Int) > 1) = False := eq_false (by omega)
        simp only [ht, if_false] at hq hf
        simp only [vmr, vmw, vmp, vza, ↓reduceIte, Nat.reduceBEq, Nat.reduceLT, Nat.reduceAdd, Nat.reduceEqDiff, reduceCtorEq, vmt, vzb, vzc, vlen, vleaf, velems, oks, vst, vmd, ty, Nat.reduceLeDiff, Nat.reduceMul, Nat.reduceSub, c729, Tryz.f8, m729, h8, h25, h26, h27, h9, h9', hcl, ga, w4, e, ht']
        refine ih d _ (by simp at hl; omega) ⟨v9, sz, hz, ?_, ?_⟩ ?_ ?_ ?_ ?_ (fun s' q h hA => hq s' q (by rw [h]; rfl) hA) (fun s' h => hf s' (by rw [h]; rfl))
        all_goals simp only [vmr, vmw, vmp, vza, ↓reduceIte, Nat.reduceBEq, Nat.reduceLT, Nat.reduceAdd, Nat.reduceEqDiff, reduceCtorEq, vmt, vzb, vzc, vlen, vleaf, velems, oks, vst, vmd, ty, Nat.reduceLeDiff, Nat.reduceMul, Nat.reduceSub, m729, h8, h25, h26, h9, h9']
abbrev cpV (p : Ns × Int) : V := .tup [Ss p.1, I p.2]
def P729 (n : Nat) (v : V) (r : Option (Ex × St)) : Prop := Fin (M729 (hand T729) n) [.tmp 4, .tmp 5] r = some (.ret v)
theorem varL_len (a : List Tm) (hf : fms 8 a = true) : (varL a).length ≤ szs a := by
  rw [varL_cn 0 hf]
  have := cnL_len 0 [] a
  simpa using this
mutual
theorem fmt_le : ∀ (t : Tm), fmt 7 t = true → fmt 8 t = true
  | .mk k s c, h => by
    simp only [fmt, Bool.and_eq_true, decide_eq_true_eq] at h ⊢
    exact ⟨⟨h.1.1, by omega⟩, fms_le c h.2⟩
theorem fms_le : ∀ (a : List Tm), fms 7 a = true → fms 8 a = true
  | [], h => rfl
  | t :: r, h => by
    simp only [fms, Bool.and_eq_true] at h ⊢
    exact ⟨fmt_le t h.1, fms_le r h.2⟩
end
theorem addU_len : ∀ (w : Us) x, (addU w x).length ≤ w.length + 1
  | [], x => by simp [addU]
  | (y, t) :: r, x => by
    have := addU_len r x
    simp only [addU]
    split <;> simp <;> omega
mutual
theorem ul_T : ∀ (t : Tm) (w : Us), (visT (vS usS) w t).2.length ≤ w.length + szt t
  | .mk k s c, w => by
    rw [szt]
    by_cases h : isV k = true
    · have := ul_L c (addU w (nameP k s))
      have := addU_len w (nameP k s)
      simp only [visT, vS, h, if_true, usS]
      omega
    · have := ul_L c w
      simp only [visT, vS, h, if_false]
      simp only [Bool.false_eq_true, if_false]
      omega
theorem ul_L : ∀ (l : List Tm) (w : Us), (visL (vS usS) w l).2.length ≤ w.length + szs l
  | [], w => Nat.le_refl _
  | t :: r, w => by
    have h1 := ul_T t w
    have h2 := us_T t w
    simp only [visL, szs]
    revert h1 h2
    generalize visT (vS usS) w t = q
    obtain ⟨b, x⟩ := q
    intro h1 h2
    dsimp only at h1 h2
    subst h2
    have := ul_L r x
    dsimp only
    omega
end
theorem usL_len (a : List Tm) : (usL a).length ≤ szs a := by have := ul_L a []; simpa [usL] using this
theorem can_cpO (sz : Nat) (d : Ns) (k : Int) : can (imm (.tup [.own sz (d.map .str), I k])) = .tup [Ss d, I k] := by
  show V.tup [can (imm (.own sz (d.map V.str))), _] = _
  rw [show imm (V.own sz (d.map V.str)) = V.lst (d.map V.str) by simp only [imm, imms_map (e := V.str) (fun _ => rfl)], can_Ss]
  rfl
theorem w8 (a b : List Tm) (ha : szs a ≤ 1000000) (hb : szs b ≤ 1000000) (hoa : txs a) (hob : txs b) : SoundPure Tryz.prog 8 [Ts a, Ts b] (.ret (cpV (copB a b))) := by
  have e1 := Fpat_eq ha hoa
  have e2 := Fres_eq hb hob
  have n0 : ((0 : Int) != 0) = false := rfl
  unfold copB
  by_cases q1 : errB 7 a = 0
  case neg =>
    have q1' : (errB 7 a != 0) = true := by simpa using q1
    rw [if_pos q1]
    have : SoundPure Tryz.prog 8 [Ts a, Ts b] (.ret (.tup [.nilS, I (errB 7 a)])) := by
      refine s729 h729 1 (by simp) rfl ?_
      simp only [c729, Tryz.f8, gets, sub]
      simp only [vmr, vmw, vmp, vza, ↓reduceIte, Nat.reduceBEq, Nat.reduceLT, Nat.reduceAdd, Nat.reduceEqDiff, reduceCtorEq, vmt, vzb, vzc, vlen, vleaf, velems, oks, vst, vmd, ty, Nat.reduceLeDiff, Nat.reduceMul, Nat.reduceSub, vzr, m729, e1, q1']
    exact sound_imm this rfl
  rw [if_neg (by simp [q1])]
  rw [q1] at e1
  by_cases q2 : errB 8 b = 0
  case neg =>
    have q2' : (errB 8 b != 0) = true := by simpa using q2
    rw [if_pos q2]
    have : SoundPure Tryz.prog 8 [Ts a, Ts b] (.ret (.tup [.nilS, I (errB 8 b)])) := by
      refine s729 h729 1 (by simp) rfl ?_
      simp only [c729, Tryz.f8, gets, sub]
      simp only [vmr, vmw, vmp, vza, ↓reduceIte, Nat.reduceBEq, Nat.reduceLT, Nat.reduceAdd, Nat.reduceEqDiff, reduceCtorEq, vmt, vzb, vzc, vlen, vleaf, velems, oks, vst, vmd, ty, Nat.reduceLeDiff, Nat.reduceMul, Nat.reduceSub, vzr, m729, e1, n0, e2, q2']
    exact sound_imm this rfl
  rw [if_neg (by simp [q2])]
  rw [q2] at e2
  have e3 := F27_eq ha hoa
  have e4 := F23_eq hb hob
  have hfa : fms 8 a = true := by
    unfold errB at q1
    split at q1
    · cases q1
    · split at q1
      · cases q1
      · split at q1
        · rename_i h; exact fms_le a h
        · cases q1
  have l1 := varL_len a hfa
  have l2 := usL_len b
  let Po : Option (Ex × St) → Prop := fun r => ∃ v, pureR v = true ∧ can (imm v) = cpV (match cpO (varL a) (usL b) with | some q => (q, 0) | none => ([], 90)) ∧ P729 ((usL b).length + 1) v r
  have key : Po (R (M729 (hand T729) ((usL b).length + 1)) c729 .top ⟨params 0 [Ts a, Ts b], [], fun _ => none, 0⟩) := by
    have a1 := fun k s => @l729 ((usL b).length + 1) k Po (varL a) (by omega) (usL b) (by omega) (usL b) 0 [] ((usL b).length + 1) s rfl (by omega) (by simp; omega)
    simp only [c729, Tryz.f8, gets, sub] at a1 ⊢
    simp only [vmr, vmw, vmp, vza, ↓reduceIte, Nat.reduceBEq, Nat.reduceLT, Nat.reduceAdd, Nat.reduceEqDiff, reduceCtorEq, vmt, vzb, vzc, vlen, vleaf, velems, oks, vst, vmd, ty, Nat.reduceLeDiff, Nat.reduceMul, Nat.reduceSub, m729, e1, e2, e3, e4, n0]
    refine a1 _ _ ⟨0, 0, .inr rfl, ?_, ?_⟩ ?_ ?_ ?_ ?_ (fun s' q hc hA => ?_) (fun s' hc h4 h5 => ?_)
    case refine_7 =>
      rw [List.nil_append] at hA
      obtain ⟨v9, sz, hz, h9, h9'⟩ := hA
      refine ⟨.tup [.own sz (q.map .str), I 0], by simp only [pureR, pureRL, pureSs, Bool.and_self], by rw [hc]; exact can_cpO .., ?_⟩
      simp only [vmr, vmw, vmp, vza, ↓reduceIte, Nat.reduceBEq, Nat.reduceLT, Nat.reduceAdd, Nat.reduceEqDiff, reduceCtorEq, vmt, vzb, vzc, vlen, vleaf, velems, oks, vst, vmd, ty, Nat.reduceLeDiff, Nat.reduceMul, Nat.reduceSub, m729, h9, h9']
      unfold P729
      simp only [vmr, vmw, vmp, vza, ↓reduceIte, Nat.reduceBEq, Nat.reduceLT, Nat.reduceAdd, Nat.reduceEqDiff, reduceCtorEq, vmt, vzb, vzc, vlen, vleaf, velems, oks, vst, vmd, ty, Nat.reduceLeDiff, Nat.reduceMul, Nat.reduceSub, vzr, m729, h9', take_len]
    case refine_8 =>
      refine ⟨.tup [.nilS, I 90], rfl, by rw [hc]; rfl, ?_⟩
      unfold P729
      simp only [vmr, vmw, vmp, vza, ↓reduceIte, Nat.reduceBEq, Nat.reduceLT, Nat.reduceAdd, Nat.reduceEqDiff, reduceCtorEq, vmt, vzb, vzc, vlen, vleaf, velems, oks, vst, vmd, ty, Nat.reduceLeDiff, Nat.reduceMul, Nat.reduceSub, vzr, m729, h4, h5]
    all_goals simp only [vmr, vmw, vmp, vza, ↓reduceIte, Nat.reduceBEq, Nat.reduceLT, Nat.reduceAdd, Nat.reduceEqDiff, reduceCtorEq, vmt, vzb, vzc, vlen, vleaf, velems, oks, vst, vmd, ty, Nat.reduceLeDiff, Nat.reduceMul, Nat.reduceSub, m729]
    all_goals rfl
  obtain ⟨v, hp, hc, hk⟩ := key
  have := sound_imm (s729 h729 ((usL b).length + 1) (by simp) hp hk) hp
  rw [hc] at this
  exact this
noncomputable def Fcop : List V → Option V := hF (α := List Tm × List Tm) (fun p => [Ts p.1, Ts p.2]) (fun p => szs p.1 ≤ 1000000 ∧ szs p.2 ≤ 1000000 ∧ txs p.1 ∧ txs p.2) (fun p => cpV (copB p.1 p.2))
theorem Fcop_eq {a b : List Tm} (h1 : szs a ≤ 1000000) (h2 : szs b ≤ 1000000) (h3 : txs a) (h4 : txs b) : Fcop [Ts a, Ts b] = some (cpV (copB a b)) := hF_eq (a := (a, b)) (two_inj (fun _ _ => Ts_inj) (fun _ _ => Ts_inj)) (by simp only [cans, can_Ts]) ⟨h1, h2, h3, h4⟩
theorem F8_sound2 : ∀ args v, Fcop args = some v → SoundPure Tryz.prog 8 args (.ret v) := hF_sound fun p hp => w8 p.1 p.2 hp.1 hp.2.1 hp.2.2.1 hp.2.2.2
end Go.Vi
set_option maxRecDepth 100000
set_option maxHeartbeats 1000000
namespace Go.Vi
open Go Go.Proofs

def nvL (w : Ns) (l : List Tm) : Ns := (visL varS w l).2
def adV (w : Ns) (x : List UInt8) : Ns := if x = [] ∨ w.contains x = true then w else w ++ [x]
theorem nvL_cons (w : Ns) (k : Int) (s : List UInt8) (c r : List Tm) : nvL w (.mk k s c :: r) = nvL (nvL (adV w (nameP k s)) c) r := by
  unfold nvL
  simp only [visL, visT, varS]
  have := var_L c (adV w (nameP k s))
  unfold adV at this ⊢
  generalize visL varS (if nameP k s = [] ∨ w.contains (nameP k s) = true then w else w ++ [nameP k s]) c = q at this ⊢
  obtain ⟨b, x⟩ := q
  dsimp only at this ⊢
  subst this
  rfl
theorem adV_len (w : Ns) (x) : (adV w x).length ≤ w.length + 1 := by unfold adV; split <;> simp
mutual
theorem nv_lenT : ∀ (t : Tm) (w : Ns), (visT varS w t).2.length ≤ w.length + szt t
  | .mk k s c, w => by
    rw [szt]
    have h1 := adV_len w (nameP k s)
    have h2 := nv_lenL c (adV w (nameP k s))
    simp only [visT, varS]
    unfold adV at h1 h2
    omega
theorem nv_lenL : ∀ (l : List Tm) (w : Ns), (visL varS w l).2.length ≤ w.length + szs l
  | [], w => Nat.le_refl _
  | t :: r, w => by
    have h1 := nv_lenT t w
    have h2 := var_T t w
    simp only [visL, szs]
    revert h1 h2
    generalize visT varS w t = q
    obtain ⟨b, x⟩ := q
    intro h1 h2
    dsimp only at h1 h2
    subst h2
    have := nv_lenL r x
    dsimp only
    omega
end
theorem nvL_len (w : Ns) (l : List Tm) : (nvL w l).length ≤ w.length + szs l := nv_lenL l w
noncomputable def F1065 (m : Nat) : List V → Option V := hF (α := List Tm × Ns) (fun p => [Ts p.1, Ss p.2]) (fun p => szs p.1 < m ∧ txs p.1 ∧ p.2.length + szs p.1 ≤ 1000000) (fun p => Ss (nvL p.2 p.1))
theorem F1065_eq {m : Nat} {a : List Tm} {w : Ns} (h : szs a < m) (ho : txs a) (hw : w.length + szs a ≤ 1000000) : F1065 m [Ts a, Ss w] = some (Ss (nvL w a)) := hF_eq (a := (a, w)) (two_inj (fun _ _ => Ts_inj) (fun _ _ => SsV_inj)) (by simp only [cans, can_Ts, can_Ss]) ⟨h, ho, hw⟩
noncomputable abbrev T1065 (m : Nat) : List (FuncId × (List V → Option V)) := [(65, F1065 m), (92, FnameP), (93, Fhas)]
def P1065 (m n : Nat) (v : V) (r : Option (Ex × St)) : Prop := Fin (M1065 (hand (T1065 m)) n) [.tmp 4] r = some (.ret v)
theorem l1065 {m n k v} (a : List Tm) (hm : szs a ≤ m) (hb : szs a ≤ 1000000) (ho : txs a) : ∀ r i w n' s, a.drop i = r → r.length < n' → w.length + szs r ≤ 1000000 → tget s.τ 0 = Ts a → tget s.τ 1 = Ss w → tget s.τ 5 = I (i : Nat) →
    Ss (nvL w r) = v → (∀ s', tget s'.τ 1 = v → P1065 m n v (X (M1065 (hand (T1065 m)) n) (.exit 0) k s')) →
    P1065 m n v (L (M1065 (hand (T1065 m)) n) (sub [1, 0, 1, 0, 0] c1065) n' k s)
  | [], i, w, n' + 1, s, hi, hn, hw, h0, h1, h5, hv, hx => by
    have hc := inlt (drop_nil' hi)
    rw [L_succ]
    simp only [vmr, vmw, vmp, vza, ↓reduceIte, Nat.reduceBEq, Nat.reduceLT, Nat.reduceAdd, Nat.reduceEqDiff, reduceCtorEq, vmt, vzb, vzc, vlen, vleaf, velems, oks, vst, vmd, ty, Nat.reduceLeDiff, Nat.reduceMul, Nat.reduceSub, c1065, Tryz.f65, m1065, h0, h5, hc]
    refine hx _ ?_
    simp only [vmr, vmw, vmp, vza, ↓reduceIte, Nat.reduceBEq, Nat.reduceLT, Nat.reduceAdd, Nat.reduceEqDiff, reduceCtorEq, vmt, vzb, vzc, vlen, vleaf, velems, oks, vst, vmd, ty, Nat.reduceLeDiff, Nat.reduceMul, Nat.reduceSub, m1065, h1]
    exact hv
  | .mk k1 s1 c1 :: r, i, w, n' + 1, s, hi, hn, hw, h0, h1, h5, hv, hx => by
    obtain ⟨g1, g2, g3⟩ := drop_cons hi
    have hcl := ilt g3
    have ga : (a.map tv)[i]? = some (.agg [I k1, .str s1, Ts c1]) := by rw [List.getElem?_map, g1, Option.map_some, tv_mk]
    have hsz := szs_mem (l := a) (List.mem_of_getElem? g1)
    have hlen := szs_len a
    have w4 := wsuc g3 (by omega)
    have ho1 := txs_mem ho (List.mem_of_getElem? g1)
    simp only [txt1] at ho1
    simp only [szs, szt] at hw
    have e1 := Ftm_eq (f := fun k s => .str (nameP k s)) k1 c1 ho1.1
    have e2 := Fhas_eq (a := w) (x := nameP k1 s1) (by omega)
    have ih := fun w s => l1065 (n := n) (k := k) (v := v) a hm hb ho r (i + 1) w n' s g2 (by simp at hn; omega)
    simp only [sub, c1065, Tryz.f65, gets] at ih
    rw [nvL_cons] at hv
    have hl1 := adV_len w (nameP k1 s1)
    have hl2 := nvL_len (adV w (nameP k1 s1)) c1
    have e3 := F1065_eq (m := m) (a := c1) (w := adV w (nameP k1 s1)) (by omega) ho1.2 (by omega)
    rw [L_succ]
    by_cases q1 : nameP k1 s1 = []
    · have q1' : (nameP k1 s1 != []) = false := by simp [q1]
      have hq : (nameP k1 s1 == []) = true := by simp [q1]
      have ha : adV w (nameP k1 s1) = w := by unfold adV; rw [if_pos (.inl q1)]
      rw [ha] at e3 hv hl2
      simp only [vmr, vmw, vmp, vza, ↓reduceIte, Nat.reduceBEq, Nat.reduceLT, Nat.reduceAdd, Nat.reduceEqDiff, reduceCtorEq, vmt, vzb, vzc, vlen, vleaf, velems, oks, vst, vmd, ty, Nat.reduceLeDiff, Nat.reduceMul, Nat.reduceSub, c1065, Tryz.f65, m1065, h0, h1, h5, hcl, ga, w4, e1, e2, e3, q1', hq, strOp, Bool.not_true, Bool.not_false]
      refine ih (nvL w c1) _ (by omega) ?_ ?_ ?_ hv hx
      all_goals simp only [vmr, vmw, vmp, vza, ↓reduceIte, Nat.reduceBEq, Nat.reduceLT, Nat.reduceAdd, Nat.reduceEqDiff, reduceCtorEq, vmt, vzb, vzc, vlen, vleaf, velems, oks, vst, vmd, ty, Nat.reduceLeDiff, Nat.reduceMul, Nat.reduceSub, m1065, h0]
    · have q1' : (nameP k1 s1 != []) = true := by simpa using q1
      have hq : (nameP k1 s1 == []) = false := by simpa using q1
      cases q2 : w.contains (nameP k1 s1) with
      | true =>
        rw [q2] at e2
        have ha : adV w (nameP k1 s1) = w := by unfold adV; rw [if_pos (.inr q2)]
        rw [ha] at e3 hv hl2
        simp only [vmr, vmw, vmp, vza, ↓reduceIte, Nat.reduceBEq, Nat.reduceLT, Nat.reduceAdd, Nat.reduceEqDiff, reduceCtorEq, vmt, vzb, vzc, vlen, vleaf, velems, oks, vst, vmd, ty, Nat.reduceLeDiff, Nat.reduceMul, Nat.reduceSub, c1065, Tryz.f65, m1065, h0, h1, h5, hcl, ga, w4, e1, e2, e3, q1', hq, strOp, Bool.not_true, Bool.not_false]
        refine ih (nvL w c1) _ (by omega) ?_ ?_ ?_ hv hx
        all_goals simp only [vmr, vmw, vmp, vza, ↓reduceIte, Nat.reduceBEq, Nat.reduceLT, Nat.reduceAdd, Nat.reduceEqDiff, reduceCtorEq, vmt, vzb, vzc, vlen, vleaf, velems, oks, vst, vmd, ty, Nat.reduceLeDiff, Nat.reduceMul, Nat.reduceSub, m1065, h0]
      | false =>
        rw [q2] at e2
        have ha : adV w (nameP k1 s1) = w ++ [nameP k1 s1] := by unfold adV; rw [if_neg (by rw [q2]; simp [q1])]
        rw [ha] at e3 hv hl2
        have r0 := @room9 0 (by omega)
        have r1 := @room9 1 (by omega)
        have r2 := @room9 w.length (by omega)
        have r3 := @room9 (w.length + 1) (by omega)
        have f1 := fits9 (nameP k1 s1)
        have f2 : ∀ w : Ns, (w.map V.str).all (fitsE Tryz.prog 9) = true := fun w => by rw [List.all_map]; exact List.all_eq_true.2 fun x _ => fits9 x
        have e3' : F1065 m [Ts c1, .lst (w.map V.str ++ [V.str (nameP k1 s1)])] = some (Ss (nvL (w ++ [nameP k1 s1]) c1)) := by rw [← e3]; show _ = F1065 m [Ts c1, .lst ((w ++ [nameP k1 s1]).map V.str)]; rw [List.map_append]; rfl
        simp only [vmr, vmw, vmp, vza, ↓reduceIte, Nat.reduceBEq, Nat.reduceLT, Nat.reduceAdd, Nat.reduceEqDiff, reduceCtorEq, vmt, vzb, vzc, vlen, vleaf, velems, oks, vst, vmd, ty, Nat.reduceLeDiff, Nat.reduceMul, Nat.reduceSub, c1065, Tryz.f65, m1065, h0, h1, h5, hcl, ga, w4, e1, e2, e3', q1', hq, strOp, Bool.not_true, Bool.not_false, r0, r1, r2, r3, f1, f2, take_len, List.map_cons, List.map_nil, List.nil_append, Nat.zero_add]
        refine ih (nvL (w ++ [nameP k1 s1]) c1) _ (by simp at hl1 hl2 hw ⊢; omega) ?_ ?_ ?_ hv hx
        all_goals simp only [vmr, vmw, vmp, vza, ↓reduceIte, Nat.reduceBEq, Nat.reduceLT, Nat.reduceAdd, Nat.reduceEqDiff, reduceCtorEq, vmt, vzb, vzc, vlen, vleaf, velems, oks, vst, vmd, ty, Nat.reduceLeDiff, Nat.reduceMul, Nat.reduceSub, m1065, h0]
theorem w1065 : ∀ (m : Nat) (a : List Tm) (w : Ns), szs a ≤ m → szs a ≤ 1000000 → txs a → w.length + szs a ≤ 1000000 → SoundPure Tryz.prog 65 [Ts a, Ss w] (.ret (Ss (nvL w a))) := by
  intro m
  induction m using Nat.strongRecOn with
  | ind m IH =>
  intro a w hm hb ho hw
  have hH : SoundHand Tryz.prog (hand (T1065 (szs a))) := sound_cons (hF_sound fun p hp => IH (szs p.1) (by omega) p.1 p.2 (Nat.le_refl _) (by omega) hp.2.1 hp.2.2) (sound_cons F1092_sound (sound_cons F1093_sound sound_nil))
  have hla := szs_len a
  refine s1065 hH (a.length + 1) (by simp) (by simp only [pureR, pureSs]) ?_
  show P1065 _ _ _ _
  have a1 := fun k s => @l1065 (szs a) (a.length + 1) k (Ss (nvL w a)) a (Nat.le_refl _) hb ho a 0 w (a.length + 1) s rfl (by omega) hw
  simp only [c1065, Tryz.f65, gets, sub] at a1 ⊢
  simp only [vmr, vmw, vmp, vza, ↓reduceIte, Nat.reduceBEq, Nat.reduceLT, Nat.reduceAdd, Nat.reduceEqDiff, reduceCtorEq, vmt, vzb, vzc, vlen, vleaf, velems, oks, vst, vmd, ty, Nat.reduceLeDiff, Nat.reduceMul, Nat.reduceSub, m1065]
  refine a1 _ _ ?_ ?_ ?_ trivial (fun s' h => ?_)
  case refine_4 =>
    simp only [vmr, vmw, vmp, vza, ↓reduceIte, Nat.reduceBEq, Nat.reduceLT, Nat.reduceAdd, Nat.reduceEqDiff, reduceCtorEq, vmt, vzb, vzc, vlen, vleaf, velems, oks, vst, vmd, ty, Nat.reduceLeDiff, Nat.reduceMul, Nat.reduceSub, m1065, h]
    unfold P1065
    simp only [vmr, vmw, vmp, vza, ↓reduceIte, Nat.reduceBEq, Nat.reduceLT, Nat.reduceAdd, Nat.reduceEqDiff, reduceCtorEq, vmt, vzb, vzc, vlen, vleaf, velems, oks, vst, vmd, ty, Nat.reduceLeDiff, Nat.reduceMul, Nat.reduceSub, vzr, m1065]
  all_goals simp only [vmr, vmw, vmp, vza, ↓reduceIte, Nat.reduceBEq, Nat.reduceLT, Nat.reduceAdd, Nat.reduceEqDiff, reduceCtorEq, vmt, vzb, vzc, vlen, vleaf, velems, oks, vst, vmd, ty, Nat.reduceLeDiff, Nat.reduceMul, Nat.reduceSub, m1065]
  all_goals rfl
noncomputable def F1035 : List V → Option V := hF (α := List Tm) (fun p => [Ts p]) (fun p => szs p ≤ 1000000 ∧ txs p) (fun p => Ss (varL p))
theorem F1035_eq {a : List Tm} (h : szs a ≤ 1000000) (ho : txs a) : F1035 [Ts a] = some (Ss (varL a)) := hF_eq (a := a) (one_inj' fun _ _ => Ts_inj) (by simp only [cans, can_Ts]) ⟨h, ho⟩
noncomputable def Fnames : List V → Option V := hF (α := List Tm × Ns) (fun p => [Ts p.1, Ss p.2]) (fun p => szs p.1 ≤ 1000000 ∧ txs p.1 ∧ p.2.length + szs p.1 ≤ 1000000) (fun p => Ss (nvL p.2 p.1))
theorem Fnames_eq {a : List Tm} (h : szs a ≤ 1000000) (ho : txs a) : Fnames [Ts a, .nilS] = some (Ss (nvL [] a)) := hF_eq (a := (a, [])) (two_inj (fun _ _ => Ts_inj) (fun _ _ => SsV_inj)) (by simp only [cans, can_Ts]; rfl) ⟨h, ho, by simpa using h⟩
theorem F1065_sound : ∀ args v, Fnames args = some v → SoundPure Tryz.prog 65 args (.ret v) := hF_sound fun p hp => w1065 _ p.1 p.2 (Nat.le_refl _) hp.1 hp.2.1 hp.2.2
theorem F1035_sound : ∀ args v, F1035 args = some v → SoundPure Tryz.prog 35 args (.ret v) := hF_sound fun p hp => by
  refine s1035 (H := [(65, Fnames)]) (sound_cons F1065_sound sound_nil) 1 (by simp) (by simp only [pureR, pureSs]) ?_
  simp only [c1035, Tryz.f35, gets, sub]
  have e := Fnames_eq hp.1 hp.2
  simp only [vmr, vmw, vmp, vza, ↓reduceIte, Nat.reduceBEq, Nat.reduceLT, Nat.reduceAdd, Nat.reduceEqDiff, reduceCtorEq, vmt, vzb, vzc, vlen, vleaf, velems, oks, vst, vmd, ty, Nat.reduceLeDiff, Nat.reduceMul, Nat.reduceSub, vzr, m1035, e]
  rfl
end Go.Vi
set_option maxRecDepth 100000
set_option maxHeartbeats 1000000
namespace Go.Vi
open Go Go.Proofs

def nuL (w : Us) (l : List Tm) : Us := (visL (vS usS) w l).2
def auV (w : Us) (k : Int) (s : List UInt8) : Us := if isV k = true then addU w (nameP k s) else w
theorem nuL_cons (w : Us) (k : Int) (s : List UInt8) (c r : List Tm) : nuL w (.mk k s c :: r) = nuL (nuL (auV w k s) c) r := by
  unfold nuL auV
  simp only [visL, visT, vS]
  by_cases h : isV k = true
  · rw [if_pos h, if_pos h]
    simp only [usS]
    have := us_L c (addU w (nameP k s))
    generalize visL (vS usS) (addU w (nameP k s)) c = q at this ⊢
    obtain ⟨b, x⟩ := q
    dsimp only at this ⊢
    subst this
    rfl
  · rw [if_neg h, if_neg h]
    dsimp only
    have := us_L c w
    generalize visL (vS usS) w c = q at this ⊢
    obtain ⟨b, x⟩ := q
    dsimp only at this ⊢
    subst this
    rfl
theorem nmU_add (w : Us) (x) : nmU (addU w x) = addN (nmU w) x := by
  by_cases h : x ∈ nmU w
  · obtain ⟨t, h1, h2⟩ := addU_old h
    rw [h2, nmU_set _ _ _ _ _ h1]
    unfold addN; rw [if_pos h]
  · rw [addU_new h]
    unfold addN; rw [if_neg h]; simp [nmU]
theorem auV_nd {w : Us} (h : (nmU w).Nodup) (k s) : (nmU (auV w k s)).Nodup := by
  unfold auV; split
  · rw [nmU_add]; exact addN_nd _ h
  · exact h
mutual
theorem nu_ndT : ∀ (t : Tm) (w : Us), (nmU w).Nodup → (nmU (visT (vS usS) w t).2).Nodup
  | .mk k s c, w, h => by
    by_cases hk : isV k = true
    · simp only [visT, vS, hk, if_true, usS]
      exact nu_ndL c _ (by rw [nmU_add]; exact addN_nd _ h)
    · simp only [visT, vS, hk, if_false]
      simp only [Bool.false_eq_true, if_false]
      exact nu_ndL c w h
theorem nu_ndL : ∀ (l : List Tm) (w : Us), (nmU w).Nodup → (nmU (visL (vS usS) w l).2).Nodup
  | [], w, h => h
  | t :: r, w, h => by
    have h1 := nu_ndT t w h
    have h2 := us_T t w
    simp only [visL]
    revert h1 h2
    generalize visT (vS usS) w t = q
    obtain ⟨b, x⟩ := q
    intro h1 h2
    dsimp only at h1 h2
    subst h2
    exact nu_ndL r x h1
end
def lastI (x : List UInt8) : Nat → Int → Us → Int
  | _, cur, [] => cur
  | j, cur, p :: r => lastI x (j + 1) (if p.1 = x then (j : Int) else cur) r
theorem lastI_no {x : List UInt8} : ∀ {r : Us} {j cur}, x ∉ nmU r → lastI x j cur r = cur
  | [], j, cur, h => rfl
  | p :: r, j, cur, h => by
    simp only [nmU, List.map_cons, List.mem_cons, not_or] at h
    rw [lastI, if_neg (fun e => h.1 e.symm), lastI_no h.2]
theorem lastI_yes {x : List UInt8} : ∀ {r : Us} {j cur}, (nmU r).Nodup → x ∈ nmU r → lastI x j cur r = ((j + ixW x (nmU r) : Nat) : Int)
  | p :: r, j, cur, hd, h => by
    simp only [nmU, List.map_cons, List.nodup_cons] at hd
    simp only [nmU, List.map_cons, lastI, ixW]
    by_cases q : p.1 = x
    · rw [if_pos q, if_pos q, lastI_no (by rw [← q]; exact hd.1)]; rfl
    · rw [if_neg q, if_neg q, lastI_yes hd.2 ((List.mem_cons.1 h).resolve_left (fun e => q e.symm))]
      simp only [nmU]; omega
theorem room34 {n : Nat} (h : n ≤ 2000000) : roomOk Tryz.prog 34 n = true := by simp [roomOk, ty, cellsV, leafV]; omega
theorem fits34 (x : List UInt8) (n : Int) : fitsE Tryz.prog 34 (.agg [.str x, I n]) = true := by simp [fitsE, ty, leafV]
theorem fits34s (w : Us) : (w.map useP).all (fitsE Tryz.prog 34) = true := by rw [List.all_map]; exact List.all_eq_true.2 fun p _ => fits34 p.1 p.2
noncomputable def F1038 (m : Nat) : List V → Option V := hF (α := List Tm × Us) (fun p => [Ts p.1, UsV p.2]) (fun p => szs p.1 < m ∧ txs p.1 ∧ p.2.length + szs p.1 ≤ 1000000 ∧ totU p.2 + szs p.1 ≤ 1000000 ∧ (nmU p.2).Nodup) (fun p => UsV (nuL p.2 p.1))
theorem F1038_eq {m : Nat} {a : List Tm} {w : Us} (h : szs a < m) (ho : txs a) (hw : w.length + szs a ≤ 1000000) (ht : totU w + szs a ≤ 1000000) (hd : (nmU w).Nodup) : F1038 m [Ts a, UsV w] = some (UsV (nuL w a)) := hF_eq (a := (a, w)) (two_inj (fun _ _ => Ts_inj) (fun _ _ => UsV_inj)) (by simp only [cans, can_Ts, can_UsV]) ⟨h, ho, hw, ht, hd⟩
noncomputable abbrev T1038 (m : Nat) : List (FuncId × (List V → Option V)) := [(38, F1038 m), (59, FisV), (68, FnameV)]
def P1038 (m n : Nat) (v : V) (r : Option (Ex × St)) : Prop := Fin (M1038 (hand (T1038 m)) n) [.tmp 4] r = some (.ret v)
theorem l1038i {m n k v} {a : List Tm} {i : Nat} {k1 : Int} {s1 : List UInt8} {c1 : List Tm} (ga : (a.map tv)[i]? = some (.agg [I k1, .str s1, Ts c1])) (hs : s1.length ≤ 1000000000000000) (w : Us) (hw : w.length ≤ 1000000) : ∀ r j cur n' s, w.drop j = r → r.length < n' → tget s.τ 0 = Ts a → tget s.τ 1 = UsV w → tget s.τ 5 = I (i : Nat) → tget s.τ 6 = I cur → tget s.τ 7 = I (j : Nat) →
    (∀ s', tget s'.τ 0 = Ts a → tget s'.τ 1 = UsV w → tget s'.τ 5 = I (i : Nat) → tget s'.τ 6 = I (lastI (nameV k1 s1) j cur r) → P1038 m n v (X (M1038 (hand (T1038 m)) n) (.exit 2) k s')) →
    P1038 m n v (L (M1038 (hand (T1038 m)) n) (sub [1, 0, 1, 0, 0, 1, 0, 0, 0, 1, 0, 1, 0, 1, 0, 0] c1038) n' k s)
  | [], j, cur, n' + 1, s, hj, hn, h0, h1, h5, h6, h7, hx => by
    have hc := inlt (drop_nil' hj)
    rw [L_succ]
    simp only [vmr, vmw, vmp, vza, ↓reduceIte, Nat.reduceBEq, Nat.reduceLT, Nat.reduceAdd, Nat.reduceEqDiff, reduceCtorEq, vmt, vzb, vzc, vlen, vleaf, velems, oks, vst, vmd, ty, Nat.reduceLeDiff, Nat.reduceMul, Nat.reduceSub, c1038, Tryz.f38, m1038, h0, h1, h7, hc]
    refine hx _ ?_ ?_ ?_ ?_
    all_goals simp only [vmr, vmw, vmp, vza, ↓reduceIte, Nat.reduceBEq, Nat.reduceLT, Nat.reduceAdd, Nat.reduceEqDiff, reduceCtorEq, vmt, vzb, vzc, vlen, vleaf, velems, oks, vst, vmd, ty, Nat.reduceLeDiff, Nat.reduceMul, Nat.reduceSub, m1038, h0, h1, h5, h6, lastI]
  | p :: r, j, cur, n' + 1, s, hj, hn, h0, h1, h5, h6, h7, hx => by
    obtain ⟨g1, g2, g3⟩ := drop_cons hj
    have hcl := ilt g3
    have gb := us_get g1
    simp only [useP] at gb
    have w4 := wsuc g3 (by omega)
    have e := Ftm_eq (f := fun k s => .str (nameV k s)) k1 c1 hs
    have hd := @d1038_9 (hand (T1038 m)) n
    have ih := fun cur s => l1038i (m := m) (n := n) (k := k) (v := v) ga hs w hw r (j + 1) cur n' s g2 (by simp at hn; omega)
    simp only [sub, c1038, Tryz.f38, gets, opsAt] at ih hd
    rw [L_succ]
    by_cases q : p.1 = nameV k1 s1
    · have hq : (p.1 == nameV k1 s1) = true := by simpa using q
      rw [lastI, if_pos q] at hx
      simp only [vmr, vmw, vmp, vza, ↓reduceIte, Nat.reduceBEq, Nat.reduceLT, Nat.reduceAdd, Nat.reduceEqDiff, reduceCtorEq, vmt, vzb, vzc, vlen, vleaf, velems, oks, vst, vmd, ty, Nat.reduceLeDiff, Nat.reduceMul, Nat.reduceSub, c1038, Tryz.f38, m1038, h0, h1, h5, h7, hcl, ga, gb, w4, e, hd, strOp, hq]
      refine ih _ _ ?_ ?_ ?_ ?_ ?_ hx
      all_goals simp only [vmr, vmw, vmp, vza, ↓reduceIte, Nat.reduceBEq, Nat.reduceLT, Nat.reduceAdd, Nat.reduceEqDiff, reduceCtorEq, vmt, vzb, vzc, vlen, vleaf, velems, oks, vst, vmd, ty, Nat.reduceLeDiff, Nat.reduceMul, Nat.reduceSub, m1038, h0, h1, h5]
    · have hq : (p.1 == nameV k1 s1) = false := by simpa using q
      rw [lastI, if_neg q] at hx
      simp only [vmr, vmw, vmp, vza, ↓reduceIte, Nat.reduceBEq, Nat.reduceLT, Nat.reduceAdd, Nat.reduceEqDiff, reduceCtorEq, vmt, vzb, vzc, vlen, vleaf, velems, oks, vst, vmd, ty, Nat.reduceLeDiff, Nat.reduceMul, Nat.reduceSub, c1038, Tryz.f38, m1038, h0, h1, h5, h6, h7, hcl, ga, gb, w4, e, hd, strOp, hq]
      refine ih _ _ ?_ ?_ ?_ ?_ ?_ hx
      all_goals simp only [vmr, vmw, vmp, vza, ↓reduceIte, Nat.reduceBEq, Nat.reduceLT, Nat.reduceAdd, Nat.reduceEqDiff, reduceCtorEq, vmt, vzb, vzc, vlen, vleaf, velems, oks, vst, vmd, ty, Nat.reduceLeDiff, Nat.reduceMul, Nat.reduceSub, m1038, h0, h1, h5, h6]
theorem l1038 {m n k v} (a : List Tm) (hm : szs a ≤ m) (hb : szs a ≤ 1000000) (ho : txs a) (hn0 : 1000001 < n) : ∀ r i w n' s, a.drop i = r → r.length < n' → w.length + szs r ≤ 1000000 → totU w + szs r ≤ 1000000 → (nmU w).Nodup → tget s.τ 0 = Ts a → tget s.τ 1 = UsV w → tget s.τ 5 = I (i : Nat) →
    UsV (nuL w r) = v → (∀ s', tget s'.τ 1 = v → P1038 m n v (X (M1038 (hand (T1038 m)) n) (.exit 0) k s')) →
    P1038 m n v (L (M1038 (hand (T1038 m)) n) (sub [1, 0, 1, 0, 0] c1038) n' k s)
  | [], i, w, n' + 1, s, hi, hn, hw, ht, hd, h0, h1, h5, hv, hx => by
    have hc := inlt (drop_nil' hi)
    rw [L_succ]
    simp only [vmr, vmw, vmp, vza, ↓reduceIte, Nat.reduceBEq, Nat.reduceLT, Nat.reduceAdd, Nat.reduceEqDiff, reduceCtorEq, vmt, vzb, vzc, vlen, vleaf, velems, oks, vst, vmd, ty, Nat.reduceLeDiff, Nat.reduceMul, Nat.reduceSub, c1038, Tryz.f38, m1038, h0, h5, hc]
    refine hx _ ?_
    simp only [vmr, vmw, vmp, vza, ↓reduceIte, Nat.reduceBEq, Nat.reduceLT, Nat.reduceAdd, Nat.reduceEqDiff, reduceCtorEq, vmt, vzb, vzc, vlen, vleaf, velems, oks, vst, vmd, ty, Nat.reduceLeDiff, Nat.reduceMul, Nat.reduceSub, m1038, h1]
    exact hv
  | .mk k1 s1 c1 :: r, i, w, n' + 1, s, hi, hn, hw, ht, hd, h0, h1, h5, hv, hx => by
    obtain ⟨g1, g2, g3⟩ := drop_cons hi
    have hcl := ilt g3
    have ga : (a.map tv)[i]? = some (.agg [I k1, .str s1, Ts c1]) := by rw [List.getElem?_map, g1, Option.map_some, tv_mk]
    have hsz := szs_mem (l := a) (List.mem_of_getElem? g1)
    have hlen := szs_len a
    have w4 := wsuc g3 (by omega)
    have ho1 := txs_mem ho (List.mem_of_getElem? g1)
    simp only [txt1] at ho1
    simp only [szs, szt] at hw ht
    have e1 := Ftm_eq (f := fun k _ => .bool (isV k)) k1 c1 ho1.1
    have e2 := Ftm_eq (f := fun k s => .str (nameV k s)) k1 c1 ho1.1
    have ih := fun w s => l1038 (n := n) (k := k) (v := v) a hm hb ho hn0 r (i + 1) w n' s g2 (by simp at hn; omega)
    have li := fun cur k s => l1038i (m := m) (n := n) (k := k) (v := v) ga ho1.1 w (by omega) w 0 cur n s rfl (by omega)
    simp only [sub, c1038, Tryz.f38, gets] at ih li
    rw [nuL_cons] at hv
    rw [L_succ]
    cases hk : isV k1 with
    | false =>
      rw [hk] at e1
      have ha : auV w k1 s1 = w := by unfold auV; rw [if_neg (by simp [hk])]
      rw [ha] at hv
      have e3 := F1038_eq (m := m) (a := c1) (w := w) (by omega) ho1.2 (by omega) (by omega) hd
      have hl := ul_L c1 w
      have htt := tot_L c1 w
      simp only [vmr, vmw, vmp, vza, ↓reduceIte, Nat.reduceBEq, Nat.reduceLT, Nat.reduceAdd, Nat.reduceEqDiff, reduceCtorEq, vmt, vzb, vzc, vlen, vleaf, velems, oks, vst, vmd, ty, Nat.reduceLeDiff, Nat.reduceMul, Nat.reduceSub, c1038, Tryz.f38, m1038, h0, h1, h5, hcl, ga, w4, e1, e3]
      refine ih (nuL w c1) _ (by unfold nuL; omega) (by unfold nuL; omega) (nu_ndL c1 w hd) ?_ ?_ ?_ hv hx
      all_goals simp only [vmr, vmw, vmp, vza, ↓reduceIte, Nat.reduceBEq, Nat.reduceLT, Nat.reduceAdd, Nat.reduceEqDiff, reduceCtorEq, vmt, vzb, vzc, vlen, vleaf, velems, oks, vst, vmd, ty, Nat.reduceLeDiff, Nat.reduceMul, Nat.reduceSub, m1038, h0]
    | true =>
      rw [hk] at e1
      simp only [vmr, vmw, vmp, vza, ↓reduceIte, Nat.reduceBEq, Nat.reduceLT, Nat.reduceAdd, Nat.reduceEqDiff, reduceCtorEq, vmt, vzb, vzc, vlen, vleaf, velems, oks, vst, vmd, ty, Nat.reduceLeDiff, Nat.reduceMul, Nat.reduceSub, c1038, Tryz.f38, m1038, h0, h1, h5, hcl, ga, w4, e1]
      refine li (-1) _ _ ?_ ?_ ?_ ?_ ?_ fun s' h0' h1' h5' h6' => ?_
      case refine_6 =>
        clear li
        have ha : auV w k1 s1 = addU w (nameV k1 s1) := by unfold auV; rw [if_pos hk, nameP_V hk]
        have hd2 := auV_nd hd k1 s1
        have hle := addU_len w (nameV k1 s1)
        have hte := totU_add w (nameV k1 s1)
        rw [ha] at hv hd2
        have e3 := F1038_eq (m := m) (a := c1) (w := addU w (nameV k1 s1)) (by omega) ho1.2 (by omega) (by omega) hd2
        have hl := ul_L c1 (addU w (nameV k1 s1))
        have htt := tot_L c1 (addU w (nameV k1 s1))
        have fin : ∀ s2 : St, tget s2.τ 0 = Ts a → tget s2.τ 1 = UsV (nuL (addU w (nameV k1 s1)) c1) → tget s2.τ 5 = I ((i + 1 : Nat) : Int) → P1038 m n v (L (M1038 (hand (T1038 m)) n) _ n' k s2) := fun s2 z0 z1 z5 => ih (nuL (addU w (nameV k1 s1)) c1) s2 (by unfold nuL; omega) (by unfold nuL; omega) (nu_ndL c1 _ hd2) z0 z1 z5 hv hx
        have r0 := @room34 0 (by omega)
        have r1 := @room34 1 (by omega)
        have r2 := @room34 w.length (by omega)
        have r3 := @room34 (w.length + 1) (by omega)
        have f2 := fits34s w
        have f1 := fits34 (nameV k1 s1) 1
        by_cases q : nameV k1 s1 ∈ nmU w
        · rw [lastI_yes hd q, Nat.zero_add] at h6'
          obtain ⟨t, a1, a2⟩ := addU_old q
          have n0 : (((ixW (nameV k1 s1) (nmU w) : Nat) : Int) < 0) = False := eq_false (by omega)
          have hix := (ix_mem q).1
          rw [List.length_map] at hix
          have a4 : (((ixW (nameV k1 s1) (nmU w) : Nat) : Int) < (w.length : Int)) = True := eq_true (by omega)
          have a3 := us_get a1
          simp only [useP] at a3
          have htm := totU_mem (List.mem_of_getElem? a1)
          dsimp only at htm
          have w5 : IntKind.i64.wrap ((t : Int) + 1) = ((t + 1 : Nat) : Int) := by rw [wrap_id] <;> omega
          have e4 : F1038 m [Ts c1, .lst ((w.map useP).set (ixW (nameV k1 s1) (nmU w)) (.agg [.str (nameV k1 s1), I ((t + 1 : Nat) : Int)]))] = some (UsV (nuL (addU w (nameV k1 s1)) c1)) := by
            rw [← e3, a2]
            show _ = F1038 m [Ts c1, .lst ((w.set _ _).map useP)]
            rw [List.map_set]
            rfl
          have tk : ((w.map useP).set (ixW (nameV k1 s1) (nmU w)) (V.agg [.str (nameV k1 s1), I ((t + 1 : Nat) : Int)])).take w.length = (w.map useP).set (ixW (nameV k1 s1) (nmU w)) (V.agg [.str (nameV k1 s1), I ((t + 1 : Nat) : Int)]) := List.take_of_length_le (by simp)
          have ln : (w.length ≤ w.length) = True := eq_true (Nat.le_refl _)
          simp only [vmr, vmw, vmp, vza, ↓reduceIte, Nat.reduceBEq, Nat.reduceLT, Nat.reduceAdd, Nat.reduceEqDiff, reduceCtorEq, vmt, vzb, vzc, vlen, vleaf, velems, oks, vst, vmd, ty, Nat.reduceLeDiff, Nat.reduceMul, Nat.reduceSub, m1038, h0', h1', h5', h6', n0, ga, a3, a4, tk, ln, List.length_map, w4, w5, e4, r0, r2, f2, take_len, List.nil_append, Nat.zero_add, List.length_set]
          refine fin _ ?_ ?_ ?_
          all_goals simp only [vmr, vmw, vmp, vza, ↓reduceIte, Nat.reduceBEq, Nat.reduceLT, Nat.reduceAdd, Nat.reduceEqDiff, reduceCtorEq, vmt, vzb, vzc, vlen, vleaf, velems, oks, vst, vmd, ty, Nat.reduceLeDiff, Nat.reduceMul, Nat.reduceSub, m1038, h0']
        · rw [lastI_no q] at h6'
          have n0 : ((-1 : Int) < 0) = True := eq_true (by omega)
          have e4 : F1038 m [Ts c1, .lst (w.map useP ++ [V.agg [.str (nameV k1 s1), I 1]])] = some (UsV (nuL (addU w (nameV k1 s1)) c1)) := by
            rw [← e3, addU_new q]
            show _ = F1038 m [Ts c1, .lst ((w ++ [(nameV k1 s1, 1)]).map useP)]
            rw [List.map_append]
            rfl
          simp only [vmr, vmw, vmp, vza, ↓reduceIte, Nat.reduceBEq, Nat.reduceLT, Nat.reduceAdd, Nat.reduceEqDiff, reduceCtorEq, vmt, vzb, vzc, vlen, vleaf, velems, oks, vst, vmd, ty, Nat.reduceLeDiff, Nat.reduceMul, Nat.reduceSub, m1038, h0', h1', h5', h6', n0, ga, e2, w4, e4, r0, r1, r2, r3, f1, f2, take_len, List.map_cons, List.map_nil, List.nil_append, Nat.zero_add]
          refine fin _ ?_ ?_ ?_
          all_goals simp only [vmr, vmw, vmp, vza, ↓reduceIte, Nat.reduceBEq, Nat.reduceLT, Nat.reduceAdd, Nat.reduceEqDiff, reduceCtorEq, vmt, vzb, vzc, vlen, vleaf, velems, oks, vst, vmd, ty, Nat.reduceLeDiff, Nat.reduceMul, Nat.reduceSub, m1038, h0']
      all_goals simp only [vmr, vmw, vmp, vza, ↓reduceIte, Nat.reduceBEq, Nat.reduceLT, Nat.reduceAdd, Nat.reduceEqDiff, reduceCtorEq, vmt, vzb, vzc, vlen, vleaf, velems, oks, vst, vmd, ty, Nat.reduceLeDiff, Nat.reduceMul, Nat.reduceSub, m1038, h0, h1, h5]
theorem pureUsL (w : Us) : pureR (UsV w) = true := by simp only [pureR, pureUs]
theorem w1038 : ∀ (m : Nat) (a : List Tm) (w : Us), szs a ≤ m → szs a ≤ 1000000 → txs a → w.length + szs a ≤ 1000000 → totU w + szs a ≤ 1000000 → (nmU w).Nodup → SoundPure Tryz.prog 38 [Ts a, UsV w] (.ret (UsV (nuL w a))) := by
  intro m
  induction m using Nat.strongRecOn with
  | ind m IH =>
  intro a w hm hb ho hw ht hd
  have hH : SoundHand Tryz.prog (hand (T1038 (szs a))) := sound_cons (hF_sound fun p hp => IH (szs p.1) (by omega) p.1 p.2 (Nat.le_refl _) (by omega) hp.2.1 hp.2.2.1 hp.2.2.2.1 hp.2.2.2.2) (sound_cons F88_sound (sound_cons F89_sound sound_nil))
  have hla := szs_len a
  obtain ⟨N, hN⟩ : ∃ N, N = 1000002 := ⟨_, rfl⟩
  refine s1038 hH N (by simp) (pureUsL _) ?_
  show P1038 _ _ _ _
  have a1 := fun k s => @l1038 (szs a) N k (UsV (nuL w a)) a (Nat.le_refl _) hb ho (by omega) a 0 w N s rfl (by omega) hw ht hd
  simp only [c1038, Tryz.f38, gets, sub] at a1 ⊢
  simp only [vmr, vmw, vmp, vza, ↓reduceIte, Nat.reduceBEq, Nat.reduceLT, Nat.reduceAdd, Nat.reduceEqDiff, reduceCtorEq, vmt, vzb, vzc, vlen, vleaf, velems, oks, vst, vmd, ty, Nat.reduceLeDiff, Nat.reduceMul, Nat.reduceSub, m1038]
  refine a1 _ _ ?_ ?_ ?_ trivial (fun s' h => ?_)
  case refine_4 =>
    simp only [vmr, vmw, vmp, vza, ↓reduceIte, Nat.reduceBEq, Nat.reduceLT, Nat.reduceAdd, Nat.reduceEqDiff, reduceCtorEq, vmt, vzb, vzc, vlen, vleaf, velems, oks, vst, vmd, ty, Nat.reduceLeDiff, Nat.reduceMul, Nat.reduceSub, m1038, h]
    unfold P1038
    simp only [vmr, vmw, vmp, vza, ↓reduceIte, Nat.reduceBEq, Nat.reduceLT, Nat.reduceAdd, Nat.reduceEqDiff, reduceCtorEq, vmt, vzb, vzc, vlen, vleaf, velems, oks, vst, vmd, ty, Nat.reduceLeDiff, Nat.reduceMul, Nat.reduceSub, vzr, m1038]
  all_goals simp only [vmr, vmw, vmp, vza, ↓reduceIte, Nat.reduceBEq, Nat.reduceLT, Nat.reduceAdd, Nat.reduceEqDiff, reduceCtorEq, vmt, vzb, vzc, vlen, vleaf, velems, oks, vst, vmd, ty, Nat.reduceLeDiff, Nat.reduceMul, Nat.reduceSub, m1038]
  all_goals rfl
noncomputable def Fuses : List V → Option V := hF (α := List Tm × Us) (fun p => [Ts p.1, UsV p.2]) (fun p => szs p.1 ≤ 1000000 ∧ txs p.1 ∧ p.2.length + szs p.1 ≤ 1000000 ∧ totU p.2 + szs p.1 ≤ 1000000 ∧ (nmU p.2).Nodup) (fun p => UsV (nuL p.2 p.1))
theorem Fuses_eq {a : List Tm} (h : szs a ≤ 1000000) (ho : txs a) : Fuses [Ts a, .lst []] = some (UsV (usL a)) := hF_eq (a := (a, [])) (two_inj (fun _ _ => Ts_inj) (fun _ _ => UsV_inj)) (by simp only [cans, can_Ts]; rfl) ⟨h, ho, by simpa using h, by simpa [totU] using h, List.nodup_nil⟩
theorem F1038_sound : ∀ args v, Fuses args = some v → SoundPure Tryz.prog 38 args (.ret v) := hF_sound fun p hp => w1038 _ p.1 p.2 (Nat.le_refl _) hp.1 hp.2.1 hp.2.2.1 hp.2.2.2.1 hp.2.2.2.2
noncomputable def F1012 : List V → Option V := hF (α := List Tm) (fun p => [Ts p]) (fun p => szs p ≤ 1000000 ∧ txs p) (fun p => UsV (usL p))
theorem F1012_eq {a : List Tm} (h : szs a ≤ 1000000) (ho : txs a) : F1012 [Ts a] = some (UsV (usL a)) := hF_eq (a := a) (one_inj' fun _ _ => Ts_inj) (by simp only [cans, can_Ts]) ⟨h, ho⟩
theorem F1012_sound : ∀ args v, F1012 args = some v → SoundPure Tryz.prog 12 args (.ret v) := hF_sound fun p hp => by
  refine s1012 (H := [(38, Fuses)]) (sound_cons F1038_sound sound_nil) 1 (by simp) (pureUsL _) ?_
  simp only [c1012, Tryz.f12, gets, sub]
  have e := Fuses_eq hp.1 hp.2
  have r0 := @room34 0 (by omega)
  simp only [vmr, vmw, vmp, vza, ↓reduceIte, Nat.reduceBEq, Nat.reduceLT, Nat.reduceAdd, Nat.reduceEqDiff, reduceCtorEq, vmt, vzb, vzc, vlen, vleaf, velems, oks, vst, vmd, ty, Nat.reduceLeDiff, Nat.reduceMul, Nat.reduceSub, vzr, m1012, e, r0]
end Go.Vi
set_option maxRecDepth 100000
set_option maxHeartbeats 1000000
namespace Go.Vi
open Go Go.Proofs

noncomputable abbrev T1009 : List (FuncId × (List V → Option V)) := [(12, F1012), (32, Fpat), (33, Fres), (34, Fhas), (35, F1035)]
theorem h1009 : SoundHand Tryz.prog (hand T1009) := sound_cons F1012_sound <| sound_cons F1032_sound <| sound_cons F31_sound <| sound_cons F1034_sound <| sound_cons F1035_sound sound_nil
def A1009 (s : St) (d : Ns) : Prop := ∃ v8 sz, (sz = 1 ∨ sz = 0) ∧ tget s.τ 8 = .ref ⟨0, 8, 0⟩ v8 0 d.length ∧ lget s.L (8, 0) = some (v8, .arr sz (d.map .str))
theorem A1009.of {s d} (h : tget s.τ 8 = .ref ⟨0, 8, 0⟩ (ver s (8, 0)) 0 d.length) (h' : lget s.L (8, 0) = some (ver s (8, 0), .arr 1 (d.map .str))) : A1009 s d := ⟨_, 1, .inl rfl, h, h'⟩
theorem l1009 {n k} {P : Option (Ex × St) → Prop} (a : List Tm) (ha : szs a ≤ 1000000) (hoa : txs a) (hw : (varL a).length ≤ 1000000) (us : Us) (hus : us.length ≤ 1000000) : ∀ r i d n' s, us.drop i = r → r.length < n' → d.length + r.length ≤ 1000000 → A1009 s d → tget s.τ 0 = Ts a → tget s.τ 9 = UsV us → tget s.τ 10 = I (i : Nat) →
    (∀ s' q, cpO (varL a) r = some q → A1009 s' (d ++ q) → P (X (M1009 (hand T1009) n) (.exit 0) k s')) →
    (∀ s', cpO (varL a) r = none → tget s'.τ 4 = .nilS → tget s'.τ 5 = I 90 → P (some (.ret, s'))) →
    P (L (M1009 (hand T1009) n) (sub [1, 1, 1, 1, 1, 0, 1, 0, 0] c1009) n' k s)
  | [], i, d, n' + 1, s, hi, hn, hl, ⟨v8, sz, hz, h8, h8'⟩, h0, h9, h10, hq, hf => by
    have hc := inlt (drop_nil' hi)
    rw [L_succ]
    simp only [vmr, vmw, vmp, vza, ↓reduceIte, Nat.reduceBEq, Nat.reduceLT, Nat.reduceAdd, Nat.reduceEqDiff, reduceCtorEq, vmt, vzb, vzc, vlen, vleaf, velems, oks, vst, vmd, ty, Nat.reduceLeDiff, Nat.reduceMul, Nat.reduceSub, c1009, Tryz.f9, m1009, h9, h10, hc]
    refine hq _ [] rfl ⟨v8, sz, hz, ?_, ?_⟩
    all_goals simp only [vmr, vmw, vmp, vza, ↓reduceIte, Nat.reduceBEq, Nat.reduceLT, Nat.reduceAdd, Nat.reduceEqDiff, reduceCtorEq, vmt, vzb, vzc, vlen, vleaf, velems, oks, vst, vmd, ty, Nat.reduceLeDiff, Nat.reduceMul, Nat.reduceSub, m1009, h8, h8', List.append_nil]
  | (x, t) :: r, i, d, n' + 1, s, hi, hn, hl, ⟨v8, sz, hz, h8, h8'⟩, h0, h9, h10, hq, hf => by
    obtain ⟨g1, g2, g3⟩ := drop_cons hi
    have hcl := ilt g3
    have ga := us_get g1
    simp only [useP] at ga
    have w4 := wsuc g3 (by omega)
    have e0 := F1035_eq ha hoa
    have e := Fhas_eq (a := varL a) (x := x) hw
    have hd := @d1009_12 (hand T1009) n
    have hz' := eq_true hz
    have ih := fun d s hl hA h0 h9 h10 => l1009 (n := n) (k := k) (P := P) a ha hoa hw us hus r (i + 1) d n' s g2 (by simp at hn; omega) hl hA h0 h9 h10
    simp only [sub, c1009, Tryz.f9, gets, opsAt] at ih hd
    rw [L_succ]
    cases hc : (varL a).contains x with
    | false =>
      rw [hc] at e
      simp only [vmr, vmw, vmp, vza, ↓reduceIte, Nat.reduceBEq, Nat.reduceLT, Nat.reduceAdd, Nat.reduceEqDiff, reduceCtorEq, vmt, vzb, vzc, vlen, vleaf, velems, oks, vst, vmd, ty, Nat.reduceLeDiff, Nat.reduceMul, Nat.reduceSub, c1009, Tryz.f9, m1009, h0, h9, h10, hcl, ga, w4, e0, e, hd]
      refine hf _ (by simp only [cpO]; rw [if_neg (by rw [hc]; simp)]) ?_ ?_
      all_goals simp only [vmr, vmw, vmp, vza, ↓reduceIte, Nat.reduceBEq, Nat.reduceLT, Nat.reduceAdd, Nat.reduceEqDiff, reduceCtorEq, vmt, vzb, vzc, vlen, vleaf, velems, oks, vst, vmd, ty, Nat.reduceLeDiff, Nat.reduceMul, Nat.reduceSub, m1009]
    | true =>
      rw [hc] at e
      have hcp : cpO (varL a) ((x, t) :: r) = (cpO (varL a) r).map (fun q => if t > 1 then x :: q else q) := by simp only [cpO]; rw [if_pos hc]
      rw [hcp] at hq hf
      by_cases ht : t > 1
      · have ht' : ((t : Int) > 1) = True := eq_true (by omega)
        simp only [ht, if_true] at hq hf
        have r1 := @room9 1 (by omega)
        have r2 := @room9 (d.length + 1) (by simp at hl; omega)
        have f1 := fits9 x
        simp only [vmr, vmw, vmp, vza, ↓reduceIte, Nat.reduceBEq, Nat.reduceLT, Nat.reduceAdd, Nat.reduceEqDiff, reduceCtorEq, vmt, vzb, vzc, vlen, vleaf, velems, oks, vst, vmd, ty, Nat.reduceLeDiff, Nat.reduceMul, Nat.reduceSub, c1009, Tryz.f9, m1009, h0, h9, h10, h8, h8', hcl, ga, w4, e0, e, hd, ht', r1, r2, f1, hz', List.map_cons, List.map_nil]
        refine ih (d ++ [x]) _ (by simp at hl ⊢; omega) (A1009.of ?_ ?_) ?_ ?_ ?_ (fun s' q h hA => hq s' (x :: q) (by rw [h]; rfl) (by rw [List.append_cons]; exact hA)) (fun s' h => hf s' (by rw [h]; rfl))
        all_goals simp only [vmr, vmw, vmp, vza, ↓reduceIte, Nat.reduceBEq, Nat.reduceLT, Nat.reduceAdd, Nat.reduceEqDiff, reduceCtorEq, vmt, vzb, vzc, vlen, vleaf, velems, oks, vst, vmd, ty, Nat.reduceLeDiff, Nat.reduceMul, Nat.reduceSub, m1009, ver, h0, h9, List.length_append, List.map_append, List.map_cons, List.map_nil]
      · have ht' : ((t : Int) > 1) = False := eq_false (by omega)
        simp only [ht, if_false] at hq hf
        simp only [vmr, vmw, vmp, vza, ↓reduceIte, Nat.reduceBEq, Nat.reduceLT, Nat.reduceAdd, Nat.reduceEqDiff, reduceCtorEq, vmt, vzb, vzc, vlen, vleaf, velems, oks, vst, vmd, ty, Nat.reduceLeDiff, Nat.reduceMul, Nat.reduceSub, c1009, Tryz.f9, m1009, h0, h9, h10, h8, h8', hcl, ga, w4, e0, e, hd, ht']
        refine ih d _ (by simp at hl; omega) ⟨v8, sz, hz, ?_, ?_⟩ ?_ ?_ ?_ (fun s' q h hA => hq s' q (by rw [h]; rfl) hA) (fun s' h => hf s' (by rw [h]; rfl))
        all_goals simp only [vmr, vmw, vmp, vza, ↓reduceIte, Nat.reduceBEq, Nat.reduceLT, Nat.reduceAdd, Nat.reduceEqDiff, reduceCtorEq, vmt, vzb, vzc, vlen, vleaf, velems, oks, vst, vmd, ty, Nat.reduceLeDiff, Nat.reduceMul, Nat.reduceSub, m1009, h0, h9, h8, h8']
def P1009 (n : Nat) (v : V) (r : Option (Ex × St)) : Prop := Fin (M1009 (hand T1009) n) [.tmp 4, .tmp 5] r = some (.ret v)
theorem errB7 {a : List Tm} (q1 : errB 7 a = 0) : fms 8 a = true := by
  unfold errB at q1
  split at q1
  · cases q1
  · split at q1
    · cases q1
    · split at q1
      · rename_i h; exact fms_le a h
      · cases q1
theorem w9 (a b : List Tm) (ha : szs a ≤ 1000000) (hb : szs b ≤ 1000000) (hoa : txs a) (hob : txs b) : SoundPure Tryz.prog 9 [Ts a, Ts b] (.ret (cpV (copB a b))) := by
  have e1 := Fpat_eq ha hoa
  have e2 := Fres_eq hb hob
  have n0 : ((0 : Int) != 0) = false := rfl
  unfold copB
  by_cases q1 : errB 7 a = 0
  case neg =>
    have q1' : (errB 7 a != 0) = true := by simpa using q1
    rw [if_pos q1]
    have : SoundPure Tryz.prog 9 [Ts a, Ts b] (.ret (.tup [.nilS, I (errB 7 a)])) := by
      refine s1009 h1009 1 (by simp) rfl ?_
      simp only [c1009, Tryz.f9, gets, sub]
      simp only [vmr, vmw, vmp, vza, ↓reduceIte, Nat.reduceBEq, Nat.reduceLT, Nat.reduceAdd, Nat.reduceEqDiff, reduceCtorEq, vmt, vzb, vzc, vlen, vleaf, velems, oks, vst, vmd, ty, Nat.reduceLeDiff, Nat.reduceMul, Nat.reduceSub, vzr, m1009, e1, q1']
    exact sound_imm this rfl
  rw [if_neg (by simp [q1])]
  have hfa := errB7 q1
  rw [q1] at e1
  by_cases q2 : errB 8 b = 0
  case neg =>
    have q2' : (errB 8 b != 0) = true := by simpa using q2
    rw [if_pos q2]
    have : SoundPure Tryz.prog 9 [Ts a, Ts b] (.ret (.tup [.nilS, I (errB 8 b)])) := by
      refine s1009 h1009 1 (by simp) rfl ?_
      simp only [c1009, Tryz.f9, gets, sub]
      simp only [vmr, vmw, vmp, vza, ↓reduceIte, Nat.reduceBEq, Nat.reduceLT, Nat.reduceAdd, Nat.reduceEqDiff, reduceCtorEq, vmt, vzb, vzc, vlen, vleaf, velems, oks, vst, vmd, ty, Nat.reduceLeDiff, Nat.reduceMul, Nat.reduceSub, vzr, m1009, e1, n0, e2, q2']
    exact sound_imm this rfl
  rw [if_neg (by simp [q2])]
  rw [q2] at e2
  have e4 := F1012_eq hb hob
  have l1 := varL_len a hfa
  have l2 := usL_len b
  have r0 := @room9 0 (by omega)
  let Po : Option (Ex × St) → Prop := fun r => ∃ v, pureR v = true ∧ can (imm v) = cpV (match cpO (varL a) (usL b) with | some q => (q, 0) | none => ([], 90)) ∧ P1009 ((usL b).length + 1) v r
  have key : Po (R (M1009 (hand T1009) ((usL b).length + 1)) c1009 .top ⟨params 0 [Ts a, Ts b], [], fun _ => none, 0⟩) := by
    have a1 := fun k s => @l1009 ((usL b).length + 1) k Po a ha hoa (by omega) (usL b) (by omega) (usL b) 0 [] ((usL b).length + 1) s rfl (by omega) (by simp; omega)
    simp only [c1009, Tryz.f9, gets, sub] at a1 ⊢
    simp only [vmr, vmw, vmp, vza, ↓reduceIte, Nat.reduceBEq, Nat.reduceLT, Nat.reduceAdd, Nat.reduceEqDiff, reduceCtorEq, vmt, vzb, vzc, vlen, vleaf, velems, oks, vst, vmd, ty, Nat.reduceLeDiff, Nat.reduceMul, Nat.reduceSub, m1009, e1, e2, e4, n0, r0, List.map_nil]
    refine a1 _ _ ⟨1, 1, .inl rfl, ?_, ?_⟩ ?_ ?_ ?_ (fun s' q hc hA => ?_) (fun s' hc h4 h5 => ?_)
    case refine_6 =>
      rw [List.nil_append] at hA
      obtain ⟨v8, sz, hz, h8, h8'⟩ := hA
      refine ⟨.tup [.own sz (q.map .str), I 0], by simp only [pureR, pureRL, pureSs, Bool.and_self], by rw [hc]; exact can_cpO .., ?_⟩
      simp only [vmr, vmw, vmp, vza, ↓reduceIte, Nat.reduceBEq, Nat.reduceLT, Nat.reduceAdd, Nat.reduceEqDiff, reduceCtorEq, vmt, vzb, vzc, vlen, vleaf, velems, oks, vst, vmd, ty, Nat.reduceLeDiff, Nat.reduceMul, Nat.reduceSub, m1009, h8, h8']
      unfold P1009
      simp only [vmr, vmw, vmp, vza, ↓reduceIte, Nat.reduceBEq, Nat.reduceLT, Nat.reduceAdd, Nat.reduceEqDiff, reduceCtorEq, vmt, vzb, vzc, vlen, vleaf, velems, oks, vst, vmd, ty, Nat.reduceLeDiff, Nat.reduceMul, Nat.reduceSub, vzr, m1009, h8', take_len]
    case refine_7 =>
      refine ⟨.tup [.nilS, I 90], rfl, by rw [hc]; rfl, ?_⟩
      unfold P1009
      simp only [vmr, vmw, vmp, vza, ↓reduceIte, Nat.reduceBEq, Nat.reduceLT, Nat.reduceAdd, Nat.reduceEqDiff, reduceCtorEq, vmt, vzb, vzc, vlen, vleaf, velems, oks, vst, vmd, ty, Nat.reduceLeDiff, Nat.reduceMul, Nat.reduceSub, vzr, m1009, h4, h5]
    all_goals simp only [vmr, vmw, vmp, vza, ↓reduceIte, Nat.reduceBEq, Nat.reduceLT, Nat.reduceAdd, Nat.reduceEqDiff, reduceCtorEq, vmt, vzb, vzc, vlen, vleaf, velems, oks, vst, vmd, ty, Nat.reduceLeDiff, Nat.reduceMul, Nat.reduceSub, m1009]
    all_goals rfl
  obtain ⟨v, hp, hc, hk⟩ := key
  have := sound_imm (s1009 h1009 ((usL b).length + 1) (by simp) hp hk) hp
  rw [hc] at this
  exact this
theorem F1009_sound : ∀ args v, Fcop args = some v → SoundPure Tryz.prog 9 args (.ret v) := hF_sound fun p hp => w9 p.1 p.2 hp.1 hp.2.1 hp.2.2.1 hp.2.2.2
/-! ### the law -/
noncomputable abbrev T1003 : List (FuncId × (List V → Option V)) := [(6, F8), (7, F10), (8, Fcop), (9, Fcop), (10, F1010), (11, F23), (12, F1012), (14, F26)]
theorem h1003 : SoundHand Tryz.prog (hand T1003) := sound_cons F8_sound <| sound_cons F10_sound <| sound_cons F8_sound2 <| sound_cons F1009_sound <| sound_cons F1010_sound <| sound_cons F23_sound <| sound_cons F1012_sound <| sound_cons F26_sound sound_nil
theorem w1003 (a b : List Tm) (ho : txs a) (ho' : txs b) : SoundPure Tryz.prog 3 [Ts a, Ts b] (.ret (.bool true)) := by
  refine s1003 h1003 1 (by simp) rfl ?_
  simp only [c1003, Tryz.f3, gets, sub]
  have e1 := F8_eq (a := a) (k := 201) (by omega) (by omega)
  have e2 := F8_eq (a := b) (k := 201) (by omega) (by omega)
  have e0 := F10_eq
  by_cases q1 : lmL 201 0 a > 200
  · have q1' := eq_true q1
    simp only [vmr, vmw, vmp, vza, ↓reduceIte, Nat.reduceBEq, Nat.reduceLT, Nat.reduceAdd, Nat.reduceEqDiff, reduceCtorEq, vmt, vzb, vzc, vlen, vleaf, velems, oks, vst, vmd, ty, Nat.reduceLeDiff, Nat.reduceMul, Nat.reduceSub, vzr, m1003, e1, e0, q1']
  have q1' := eq_false q1
  by_cases q2 : lmL 201 0 b > 200
  · have q2' := eq_true q2
    simp only [vmr, vmw, vmp, vza, ↓reduceIte, Nat.reduceBEq, Nat.reduceLT, Nat.reduceAdd, Nat.reduceEqDiff, reduceCtorEq, vmt, vzb, vzc, vlen, vleaf, velems, oks, vst, vmd, ty, Nat.reduceLeDiff, Nat.reduceMul, Nat.reduceSub, vzr, m1003, e1, e2, e0, q1', q2']
  have q2' := eq_false q2
  have sa := lmL_sz a 201 0 (by omega) (by omega) (by omega)
  have sb := lmL_sz b 201 0 (by omega) (by omega) (by omega)
  have e3 := Fcop_eq (a := a) (b := b) (by omega) (by omega) ho ho'
  have e4 := F23_eq (a := a) (by omega) ho
  have e5 := F1012_eq (a := a) (by omega) ho
  have l1 := usL_len a
  have e6 : F1010 [UsV (usL a), UsV (usL a), .fn (.func 13) [] []] = some (.bool true) := by
    have := F1010_eq (a := usL a) (b := usL a) (by omega)
    rw [eqUs_self] at this
    exact this
  have hcl : (copB a b).1.length ≤ 1000000 := by
    unfold copB
    split
    · simp
    · split
      · simp
      · have l2 := usL_len b
        split
        · rename_i q h
          have := cpO_len _ _ _ h
          dsimp only
          omega
        · simp
  have e7 := F26_eq (a := (copB a b).1) (b := (copB a b).1) hcl
  rw [eqSs_self] at e7
  have n2 : ((copB a b).2 == (copB a b).2) = true := by simp
  simp only [vmr, vmw, vmp, vza, ↓reduceIte, Nat.reduceBEq, Nat.reduceLT, Nat.reduceAdd, Nat.reduceEqDiff, reduceCtorEq, vmt, vzb, vzc, vlen, vleaf, velems, oks, vst, vmd, ty, Nat.reduceLeDiff, Nat.reduceMul, Nat.reduceSub, vzr, m1003, e1, e2, e0, q1', q2', e3, e4, e5, e6, e7, n2]
end Go.Vi
set_option maxRecDepth 100000
namespace Go.Vi
open Go Go.Proofs Go.ChangeShapes Go.WideShapes Go.ChangeAt Go.RowKit

theorem own0 : ownKnob Tryz.prog.godebug = none := by kernel_rfl
theorem kids0 : Kids Tryz.prog (· < Tryz.prog.types.size) := kids_rows (by kernel_rfl) (by kernel_rfl)
theorem full0 : ∀ t e, t < Tryz.prog.types.size → Tryz.prog.underlying t = some (.slice e) → 0 < Tryz.prog.cellsOf e := slices_full_of Tryz.prog (by kernel_rfl)
theorem reach15 {n : Nat} (h : n ≤ reachBytes) : n ≤ 1000000000000000 := by unfold reachBytes at h; omega
theorem OpS.map {α β : Type} {P : Program} {t : TypeId} {f : α → V} {ok : α → Prop} {m : Nat} (h : OpS P t f ok m) (g : α → β) {f' : β → V} {ok' : β → Prop} (e : ∀ a, f' (g a) = f a) (o : ∀ a, ok a → ok' (g a)) : OpS P t f' ok' m := fun hx hz =>
  let ⟨a, ha, hao⟩ := h hx hz
  ⟨g a, by rw [e]; exact ha, o a hao⟩
theorem cells35 : Tryz.prog.cellsOf 52 = 3 := by kernel_rfl
theorem len_tv (t : Tm) : (cellsV (tv t)).length = Tryz.prog.cellsOf 52 := by cases t; rw [tv_mk, cells35]; rfl
theorem opT : ∀ m, OpS Tryz.prog 52 tv txt1 m ∧ OpS Tryz.prog 22 (fun l : List Tm => V.lst (l.map tv)) txs m := by
  intro m
  induction m using Nat.strongRecOn with
  | ind m IH =>
  refine ⟨?_, ?_⟩
  · refine OpS.map (opS_struct Tryz.underlying52 (fun n hn => opSF_cons rfl (opS_int Tryz.underlying3) (opSF_cons (by kernel_rfl) (opS_str Tryz.underlying9) (opSF_cons (by kernel_rfl) (IH n hn).2 opSF_nil))) (by kernel_rfl)) (fun b => Tm.mk b.1 b.2.1 b.2.2.1) (fun b => ?_) (fun b h => ?_)
    · rw [tv_mk]; rfl
    · exact ⟨reach15 h.2.1, h.2.2.1⟩
  · exact OpS.map (opS_slice Tryz.underlying22 (fun n hn => (IH n hn).1) len_tv (by rw [cells35]; decide)) id (fun _ => rfl) (fun l h => txs_of h)
theorem argT {H : Type} {enc : TypeId × Value → H} {w : World} {base : Nat} {v : Value} {d : DataW H} {p : List MemPlace} (hv : Value.okWide Tryz.prog w .any base 22 v) (h : DataW.Trod enc Tryz.prog w 0 (fun _ => true) true 22 v d p) (hz : ∀ n ∈ d.weights Tryz.prog 22, n ≤ reachBytes) : ∃ l : List Tm, PC w (oldB w) (Ts l) v ∧ txs l :=
  argS_slice Tryz.underlying22 (fun m => (opT m).2) hv h hz
theorem sized_at {H : Type} {ts : List TypeId} {ds : List (DataW H)} (h : (DataW.weightsEach Tryz.prog ts ds).all (· ≤ reachBytes) = true) {j : Nat} {t : TypeId} {d : DataW H} (ht : ts[j]? = some t) (hd : ds[j]? = some d) : ∀ n ∈ d.weights Tryz.prog t, n ≤ reachBytes := fun n hn => by
  have := List.all_eq_true.1 h n (DataW.weights_mem_each ht hd n hn)
  simpa using this
end Go.Vi
set_option maxRecDepth 100000
namespace Go.Vi
open Go Go.Proofs Go.ChangeShapes Go.WideShapes Go.ChangeAt Go.RowKit

theorem tab_of_vars {P : Program} {W : World} {name : String} {k : IntKind} {zs : List Int} {rest : List (String × DataW Unit)} {ps : List MemPlace} {g : Nat} {t e : TypeId} {n : Nat}
    (hg : P.globalNamed name = some g) (hty : (P.globals[g]?).map (·.type) = some t) (ht : P.underlying t = some (.array n e)) (he : P.underlying e = some (.int k)) (hce : P.cellsOf e = 1) (hct : P.cellsOf t = n)
    (h : DataW.LaidVars P W ((name, Lib.tabData k zs) :: rest) ps) : Lib.TabIs P W name k zs := by
  obtain ⟨g', t', cs, fuel, p, q, hg', ht', hvar, hd, _, _⟩ := h
  obtain rfl := Option.some.inj (hg.symm.trans hg')
  obtain rfl := Option.some.inj (hty.symm.trans ht')
  unfold Lib.TabIs
  rw [hvar, ← Lib.cells_of_tab ht he hce hct hd]
theorem vars_tail {P : Program} {W : World} {x : String × DataW Unit} {rest : List (String × DataW Unit)} {ps : List MemPlace} (h : DataW.LaidVars P W (x :: rest) ps) : ∃ q, DataW.LaidVars P W rest q := by
  obtain ⟨n, d⟩ := x
  obtain ⟨g', t', cs, fuel, p, q, hg', ht', hvar, hd, hq, _⟩ := h
  exact ⟨q, hq⟩
theorem JA_of {W : World} (h : laidMet Tryz.prog YtpibnnopnhmijaaGreatDoor.Rows.applyUsesRow.laid W) : JA W (oldB W) := by
  obtain ⟨ps, hv, _⟩ := h
  obtain ⟨ps, hv⟩ := vars_tail hv
  obtain ⟨ps, hv⟩ := vars_tail hv
  have ht := tab_of_vars (t := 152) (g := 3) (zs := Lib.pow10Tab) (k := .u64) (e := 135) (n := 20) global1 (by kernel_rfl) (by kernel_rfl) (by kernel_rfl) (by kernel_rfl) (by kernel_rfl) hv
  unfold Lib.TabIs World.var? at ht
  rw [global1] at ht
  simp only [Option.bind_some] at ht
  split at ht
  · rename_i cs t f hc
    injection ht with ht
    subst ht
    intro q hq
    obtain rfl : q = _ := List.mem_singleton.1 hq
    refine ⟨?_, _, _, _, hc, rfl⟩
    exact (Array.getElem?_eq_some_iff.1 hc).1
  · cases ht
theorem contract3 (H : Type) (enc : TypeId × Value → H) (W : World) (base : Nat) (args : Array Value) (ds gs : List (DataW H)) (before : List MemPlace)
    (hval : ∀ (j : Nat) t v, Tryz.f3.params[j]? = some t → args[j]? = some v → Value.okWide Tryz.prog W .any base t v)
    (hW : DataW.Whole enc Tryz.prog Tryz.f3.params.toList YtpibnnopnhmijaaGreatDoor.Rows.applyUsesSpec.vars false W args.toList ds gs before)
    (hsz : (DataW.weightsEach Tryz.prog (Tryz.f3.params.toList ++ (OpenSpec.ofChange YtpibnnopnhmijaaGreatDoor.Rows.applyUsesSpec).bare.plain.varTypes Tryz.prog) (ds ++ gs)).all (· ≤ reachBytes) = true) (hL : laidMet Tryz.prog YtpibnnopnhmijaaGreatDoor.Rows.applyUsesRow.laid W) :
    Calls Tryz.prog 3 args W fun e W' => ∃ v, e = .returned v ∧ YtpibnnopnhmijaaGreatDoor.Rows.applyUsesSpec.post enc Tryz.prog Tryz.f3 false true false false W args v W' := by
  have hW' := hW
  obtain ⟨p, q, hA0, hV, rfl, hfz, hnd⟩ := hW
  have hA : DataW.TrodAll enc Tryz.prog W 0 (fun _ => true) true Tryz.f3.params.toList args.toList ds p := hA0
  rw [Tryz.params3] at hA hval hsz
  obtain ⟨v0, vs0, d0, ds0, p0, q0, e0, rfl, rfl, h0, hA⟩ := trodAll_cons hA
  obtain ⟨v1, vs1, d1, ds1, p1, q1, rfl, rfl, rfl, h1, hA⟩ := trodAll_cons hA
  obtain ⟨rfl, rfl, rfl⟩ := trodAll_nil hA
  obtain rfl : args = #[v0, v1] := by cases args; simp_all
  obtain ⟨rfl, rfl⟩ := trodVars_none hV
  obtain ⟨x, hx, hxo⟩ := argT (hval 0 22 v0 rfl rfl) h0 (sized_at hsz (j := 0) rfl rfl)
  obtain ⟨y, hy, hyo⟩ := argT (hval 1 22 v1 rfl rfl) h1 (sized_at hsz (j := 1) rfl rfl)
  refine (w1003 x y hxo hyo W (oldB W) #[v0, v1] (JA_of hL) (fun _ h => h) ?_).mono fun e W' he => ?_
  · simp only [PCs]
    exact ⟨_, _, rfl, hx, _, _, rfl, hy, rfl⟩
  · exact law_post kids0 full0 (by rw [Tryz.params3]; decide +kernel) rfl (by kernel_rfl) Tryz.underlying4 hW' rfl he
def lit1 : DataW Unit → List Value
  | .lit (.int k n) => [.int k n]
  | _ => []
def lits : DataW Unit → Array Value
  | .agg ds => (ds.flatMap lit1).toArray
  | _ => #[]
def setCells (cs : Array Value) : Go.Obj → Go.Obj
  | .cells _ t frozen => .cells cs t frozen
  | o => o
noncomputable def heap0 (os : Os) : Array Go.Obj := (World.holding Tryz.prog os ⟨#[], #[], []⟩).heap
noncomputable def laidWorld (os : Os) : World :=
  { World.holding Tryz.prog os ⟨#[], #[], []⟩ with
    heap := (((heap0 os).modify 3 (setCells (lits YtpibnnopnhmijaaGreatDoor.Rows.laid_internal_strconv_uint64pow10))).modify 4 (setCells (lits YtpibnnopnhmijaaGreatDoor.Rows.laid_math_bits_deBruijn32tab))).modify 5 (setCells (lits YtpibnnopnhmijaaGreatDoor.Rows.laid_math_bits_deBruijn64tab)) }
theorem laid_met (os : Os) : laidMet Tryz.prog YtpibnnopnhmijaaGreatDoor.Rows.applyUsesRow.laid ((laidWorld os).forCall (fun _ _ => 0) ⟨#[], #[.slice none 0 0, .slice none 0 0], []⟩).memory :=
  laidMet_of_run' 8 (by kernel_rfl) (by kernel_rfl)
theorem reads (os : Os) {H : Type} (enc : TypeId × Value → H) : ∃ places, DataW.whole enc Tryz.prog ((laidWorld os).forCall (fun _ _ => 0) ⟨#[], #[.slice none 0 0, .slice none 0 0], []⟩).memory Tryz.f3.params.toList YtpibnnopnhmijaaGreatDoor.Rows.applyUsesSpec.vars false #[Value.slice none 0 0, Value.slice none 0 0].toList 8 = some ([.nil, .nil], [], places) :=
  ⟨[], by kernel_rfl⟩
set_option maxRecDepth 100000 in
theorem lifted3 (os : Os) (started : os.Started) (H : Type) (enc : TypeId × Value → H) (F : Stop.Interp) :
    ReturnsInHanded {} Tryz.checked os 3 .any ((OpenSpec.ofChange YtpibnnopnhmijaaGreatDoor.Rows.applyUsesSpec).preRow enc Tryz.prog Tryz.f3 YtpibnnopnhmijaaGreatDoor.Rows.applyUsesRow.domain false YtpibnnopnhmijaaGreatDoor.Rows.applyUsesRow.laid) (((OpenSpec.ofChange YtpibnnopnhmijaaGreatDoor.Rows.applyUsesSpec).at F).post enc Tryz.prog Tryz.f3 false true false false) := by
  obtain ⟨places, hx⟩ := reads os enc
  refine returnsInHanded_of_row (C := Tryz.checked) (s := OpenSpec.ofChange YtpibnnopnhmijaaGreatDoor.Rows.applyUsesSpec) own0 started (by kernel_rfl) Tryz.func3
    (witness_row_at (enc := enc) (C := Tryz.checked) false (laidWorld os) #[.slice none 0 0, .slice none 0 0] rfl (by kernel_rfl) (by kernel_rfl) (by kernel_rfl)
      (OpenSpec.preRow_of_cond 8 hx (by kernel_rfl) (fun k hk => by cases hk) (by kernel_rfl) (laid_met os))) ?_
  intro W base args ds gs before hval hW _ _ hsz hL _ _
  exact contract3 H enc W base args ds gs before hval hW hsz hL
end Go.Vi
namespace Go.Proofs.YtpibnnopnhmijaaGreatDoor
open Go.Vi
theorem said3 : Rows.ApplyUsesSaid :=
  OpenClaim.holds_of_cond 3 Tryz.f3 rfl rfl rfl rfl rfl rfl rfl ⟨rfl, rfl, rfl, rfl, rfl⟩ rfl rfl rfl rfl rfl (by kernel_rfl) Tryz.func3 (by kernel_rfl)
    (of_decide_eq_true (by kernel_rfl)) (by unfold Func.isWrapper; first | (rw [if_pos (by decide +kernel)]; kernel_rfl) | (rw [if_neg (by decide +kernel)]; exact ⟨rfl, rfl⟩))
    (fun os started H enc _ F => by rw [OpenClaim.pre_eq_preRow]; exact lifted3 os started H enc F)
theorem plain3 (f : FuncId) (fn : Func) (hf : Tryz.pinned.checked.prog.funcNamed "chiasmus/chiasmuslaw07.ApplyUses" = some f) (hfn : Tryz.pinned.checked.prog.funcs[f]? = some fn) :
    true = Tryz.pinned.checked.prog.looks [] ∧ ∀ (j : Nat) t, fn.params[j]? = some t → Tryz.pinned.checked.prog.wantsStandIn t = false := by
  obtain rfl : f = 3 := Option.some.inj ((show Tryz.prog.funcNamed "chiasmus/chiasmuslaw07.ApplyUses" = some 3 by kernel_rfl).symm.trans hf) |>.symm
  obtain rfl : fn = Tryz.f3 := (Option.some.inj (Tryz.func3.symm.trans hfn)).symm
  refine ⟨by kernel_rfl, fun j t ht => ?_⟩
  rw [Tryz.params3] at ht
  have hm : t = 22 := by
    have := Array.mem_of_getElem? ht
    simpa using this
  subst hm
  exact (show Tryz.prog.wantsStandIn 22 = false by kernel_rfl)
theorem applyUses_holds : Rows.ApplyUsesCardSaid :=
  Claim7.holds_tied_plain_at .later [] _ _ _ _ said3 (fun _ h => by cases h) (by kernel_rfl) (fun _ h => by cases h) applyUses_row_tie rfl ⟨rfl, rfl⟩ (by kernel_rfl) rfl plain3 (by kernel_rfl)
#print axioms applyUses_holds
end Go.Proofs.YtpibnnopnhmijaaGreatDoor
