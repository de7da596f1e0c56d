/-
  Walk of Call of the reference.
-/
import Derived.Test.YtkpcgnjjkaamgaaDoorPD
import Derived.Test.YtkpcgnjjkaamgaaDoorVD
import Derived.Test.YtkpcgnjjkaamgaaDoorCards
import Derived.Test.YtkpcgnjjkaamgaaDoorTie
import Derived.WalkKit
import Derived.ProofKit
import Derived.OpenShut
import Derived.Deep.DeepHandedRow
import Derived.Lib.LaidTab
set_option linter.unusedSimpArgs false
set_option linter.unusedVariables false
set_option maxRecDepth 100000
set_option maxHeartbeats 1000000
namespace Go.Vi
open Go Go.Proofs

noncomputable def F332 : List V → Option V := hF (α := Nat) (fun n => [I n]) (fun n => n < 100) (fun n => .str (dig n))
theorem e332 {x : Int} (h : 0 ≤ x ∧ x < 100) : F332 [I x] = some (.str (dig x.toNat)) := by
  have : F332 [I x.toNat] = some (.str (dig x.toNat)) := hF_eq (a := x.toNat) (one_inj' fun _ _ => nat_inj) rfl (by omega)
  rwa [show ((x.toNat : Nat) : Int) = x by omega] at this
noncomputable abbrev U314 : List (FuncId × (List V → Option V)) := [(18, F15), (32, F332), (21, F321), (25, F325), (22, F322)]
theorem hU314 : SoundHand Tryd.prog (hand U314) := sound_cons (hF_sound fun a h => w15 a h) <| sound_cons (hF_sound fun n h => w332 h) <| sound_cons (hF_sound fun l _ => w321 l) <| sound_cons (hF_sound fun n h => w325o h) <| sound_cons (hF_sound fun a _ => w322 a.1 a.2) sound_nil
theorem l314 {n k out} (p : Prot) (rules : List Int) (more : Int) (hl : p.rules.length ≤ 12) (hrl : rules.length ≤ 1000) : ∀ (q : List Int) (N : List (List UInt8)) i v9 n' s, rules.drop i = q → q.length < n' → N.length = i → tget s.τ 2 = I more → tget s.τ 3 = .iptr p.cs → tget s.τ 9 = .ref ⟨0, 9, 0⟩ v9 0 N.length → lget s.L (9, 0) = some (v9, .arr (sz3 N.length) (N.map nV)) → tget s.τ 1 = Is rules → tget s.τ 10 = I i →
    (q.any (badN p) = true → out = some (.ret (.tup [.nilS, I 4]))) →
    (q.any (badN p) = false → ∀ s' v9 (N' : List (List UInt8)), N' = N ++ digs q → tget s'.τ 2 = I more → tget s'.τ 9 = .ref ⟨0, 9, 0⟩ v9 0 N'.length → lget s'.L (9, 0) = some (v9, .arr (sz3 N'.length) (N'.map nV)) → Fin (M314 (hand U314) n) [.tmp 6, .tmp 7] (X (M314 (hand U314) n) (.exit 0) k s') = out) →
    Fin (M314 (hand U314) n) [.tmp 6, .tmp 7] (L (M314 (hand U314) n) (sub [1, 1, 1, 1, 0, 1, 0, 0] c314) n' k s) = out
  | [], N, i, v9, n' + 1, s, hi, hn, hNi, h2, h3, h9, h9', h1, h10, ho, hx => by
    have hc := inlt (drop_nil' hi)
    rw [L_succ]
    simp only [vmr, vmw, vmp, vza, ↓reduceIte, Nat.reduceBEq, Nat.reduceLT, Nat.reduceAdd, Nat.reduceEqDiff, reduceCtorEq, vmt, vzb, vzc, vlen, vleaf, velems, oks, vst, vmd, ty, Nat.reduceLeDiff, Nat.reduceMul, Nat.reduceSub, c314, Tryd.f14, m314, h1, h10, hc]
    refine hx rfl _ v9 N (by simp [digs]) ?_ ?_ ?_
    all_goals simp only [vmr, vmw, vmp, vza, ↓reduceIte, Nat.reduceBEq, Nat.reduceLT, Nat.reduceAdd, Nat.reduceEqDiff, reduceCtorEq, vmt, vzb, vzc, vlen, vleaf, velems, oks, vst, vmd, ty, Nat.reduceLeDiff, Nat.reduceMul, Nat.reduceSub, m314, h2, h9, h9']
  | x :: q, N, i, v9, n' + 1, s, hi, hn, hNi, h2, h3, h9, h9', h1, h10, ho, hx => by
    obtain ⟨hg, hd, hlt⟩ := drop_cons hi
    have hlt' := ilt hlt
    have hw := wsucc hlt (by omega)
    have hdw := @d314_10 (hand U314) n
    simp only [sub, c314, Tryd.f14, gets, opsAt] at hdw
    rw [L_succ]
    cases hb : badN p x with
    | true =>
      rw [ho (by simp [hb])]
      by_cases q1 : x < 0
      · have q1' := eq_true q1
        simp only [vmr, vmw, vmp, vza, ↓reduceIte, Nat.reduceBEq, Nat.reduceLT, Nat.reduceAdd, Nat.reduceEqDiff, reduceCtorEq, vmt, vzb, vzc, vlen, vleaf, velems, oks, vst, vmd, ty, Nat.reduceLeDiff, Nat.reduceMul, Nat.reduceSub, vzr, c314, Tryd.f14, m314, h3, h1, h10, hlt', hg, hdw, q1']
      · have q1' := eq_false q1
        have q2' : (x ≥ (p.rules.length : Int)) = True := eq_true (by unfold badN at hb; simp only [Bool.or_eq_true, decide_eq_true_eq] at hb; omega)
        simp only [vmr, vmw, vmp, vza, ↓reduceIte, Nat.reduceBEq, Nat.reduceLT, Nat.reduceAdd, Nat.reduceEqDiff, reduceCtorEq, vmt, vzb, vzc, vlen, vleaf, velems, oks, vst, vmd, ty, Nat.reduceLeDiff, Nat.reduceMul, Nat.reduceSub, vzr, c314, Tryd.f14, m314, h3, h1, h10, hlt', hg, hdw, q1', q2']
    | false =>
      have hb2 := badN_f hb
      have q1' : (x < 0) = False := eq_false (by omega)
      have q2' : (x ≥ (p.rules.length : Int)) = False := eq_false (by omega)
      have e1 := e332 (x := x) (by omega)
      have hz := sz3_or N.length
      have r2 := @room70 (N.length + 1) (by omega)
      simp only [List.any_cons, hb, Bool.false_or] at ho hx
      have ih := fun v9 s => l314 (k := k) (n := n) (out := out) p rules more hl hrl q (N ++ [dig x.toNat]) (i + 1) v9 n' s hd (by simp at hn; omega) (by simp [hNi])
      simp only [List.length_append, List.length_cons, List.length_nil, sz3_s, Nat.zero_add, List.map_append, List.map_cons, List.map_nil] at ih
      simp only [sub, c314, Tryd.f14, gets] at ih
      simp only [vmr, vmw, vmp, vza, ↓reduceIte, Nat.reduceBEq, Nat.reduceLT, Nat.reduceAdd, Nat.reduceEqDiff, reduceCtorEq, vmt, vzb, vzc, vlen, vleaf, velems, oks, vst, vmd, ty, Nat.reduceLeDiff, Nat.reduceMul, Nat.reduceSub, c314, Tryd.f14, m314, h3, h9, h9', h1, h10, hlt', hg, hdw, hw, q1', q2', e1, hz, r2, room1, List.map_cons, List.map_nil]
      refine ih (s.c + (slack + slack) + 1 + 1) _ ?_ ?_ ?_ ?_ ?_ ?_ ho (fun hq s' v9 N' hN => hx hq s' v9 N' (by rw [hN]; simp [digs]))
      all_goals simp only [vmr, vmw, vmp, vza, ↓reduceIte, Nat.reduceBEq, Nat.reduceLT, Nat.reduceAdd, Nat.reduceEqDiff, reduceCtorEq, vmt, vzb, vzc, vlen, vleaf, velems, oks, vst, vmd, ty, Nat.reduceLeDiff, Nat.reduceMul, Nat.reduceSub, m314, h2, h3, h1, hw, List.length_append, List.length_cons, List.length_nil, List.length_map]
theorem w314 (p : Prot) (rules : List Int) (more : Int) (h : cOk p rules more) : SoundPure Tryd.prog 14 [p.v, Is rules, I more] (.ret (.tup [Ts (callT' p rules more).1, I (callT' p rules more).2])) := by
  obtain ⟨hp, hr, hm⟩ := h
  have e1 := F15_eq hp
  have key : ∃ v e, can (imm v) = Ts (callT' p rules more).1 ∧ e = (callT' p rules more).2 ∧ pureR v = true ∧ SoundPure Tryd.prog 14 [p.v, Is rules, I more] (.ret (.tup [v, I e])) := by
    by_cases h0 : checkF p = 0
    · rw [h0] at e1
      have pk := pOk_of hp h0
      have d : ((0 : Int) != 0) = false := rfl
      by_cases h1 : rules.length > 1000
      · have q1 : ((rules.length : Int) > 1000) = True := eq_true (by omega)
        refine ⟨.nilS, 5, by simp [callT', h0, h1, imm, can], by simp [callT', h0, h1], rfl, ?_⟩
        refine s314 hU314 1 (by simp) rfl ?_
        simp only [c314, Tryd.f14, gets, sub]
        simp only [vmr, vmw, vmp, vza, ↓reduceIte, Nat.reduceBEq, Nat.reduceLT, Nat.reduceAdd, Nat.reduceEqDiff, reduceCtorEq, vmt, vzb, vzc, vlen, vleaf, velems, oks, vst, vmd, ty, Nat.reduceLeDiff, Nat.reduceMul, Nat.reduceSub, vzr, m314, e1, d, q1]
      · have q1 : ((rules.length : Int) > 1000) = False := eq_false (by omega)
        have a1 := fun k out => @l314 (rules.length + 1) k out p rules more pk.r12 (by omega) rules [] 0
        simp only [sub, c314, Tryd.f14, gets, sz3, if_true, List.length_nil, List.map_nil] at a1
        cases h2 : rules.any (badN p) with
        | true =>
          refine ⟨.nilS, 4, by simp [callT', h0, h1, h2, imm, can], by simp [callT', h0, h1, h2], rfl, ?_⟩
          refine s314 hU314 (rules.length + 1) (by simp) rfl ?_
          simp only [c314, Tryd.f14, gets, sub]
          simp only [vmr, vmw, vmp, vza, ↓reduceIte, Nat.reduceBEq, Nat.reduceLT, Nat.reduceAdd, Nat.reduceEqDiff, reduceCtorEq, vmt, vzb, vzc, vlen, vleaf, velems, oks, vst, vmd, ty, Nat.reduceLeDiff, Nat.reduceMul, Nat.reduceSub, m314, e1, d, q1]
          refine a1 _ _ 1 _ _ rfl (by omega) trivial ?_ ?_ ?_ ?_ ?_ ?_ (fun _ => rfl) (fun hf => by rw [h2] at hf; cases hf)
          all_goals simp only [vmr, vmw, vmp, vza, ↓reduceIte, Nat.reduceBEq, Nat.reduceLT, Nat.reduceAdd, Nat.reduceEqDiff, reduceCtorEq, vmt, vzb, vzc, vlen, vleaf, velems, oks, vst, vmd, ty, Nat.reduceLeDiff, Nat.reduceMul, Nat.reduceSub, m314, Prot.cs]
        | false =>
          by_cases h3 : more < 0 ∨ more > 1000
          · refine ⟨.nilS, 4, by simp only [callT', h0, h1, h2, h3]; simp [imm, can], by simp only [callT', h0, h1, h2, h3]; simp, rfl, ?_⟩
            refine s314 hU314 (rules.length + 1) (by simp) rfl ?_
            simp only [c314, Tryd.f14, gets, sub]
            simp only [vmr, vmw, vmp, vza, ↓reduceIte, Nat.reduceBEq, Nat.reduceLT, Nat.reduceAdd, Nat.reduceEqDiff, reduceCtorEq, vmt, vzb, vzc, vlen, vleaf, velems, oks, vst, vmd, ty, Nat.reduceLeDiff, Nat.reduceMul, Nat.reduceSub, m314, e1, d, q1]
            refine a1 _ _ 1 _ _ rfl (by omega) trivial ?_ ?_ ?_ ?_ ?_ ?_ (fun _ => rfl) (fun _ s' v9 N' hN g2 g9 g9' => ?_)
            case refine_7 =>
              by_cases h4 : more < 0
              · have q4 := eq_true h4
                simp only [vmr, vmw, vmp, vza, ↓reduceIte, Nat.reduceBEq, Nat.reduceLT, Nat.reduceAdd, Nat.reduceEqDiff, reduceCtorEq, vmt, vzb, vzc, vlen, vleaf, velems, oks, vst, vmd, ty, Nat.reduceLeDiff, Nat.reduceMul, Nat.reduceSub, vzr, m314, g2, g9, g9', q4]
              · have q4 := eq_false h4
                have q5 : (more > 1000) = True := eq_true (by omega)
                simp only [vmr, vmw, vmp, vza, ↓reduceIte, Nat.reduceBEq, Nat.reduceLT, Nat.reduceAdd, Nat.reduceEqDiff, reduceCtorEq, vmt, vzb, vzc, vlen, vleaf, velems, oks, vst, vmd, ty, Nat.reduceLeDiff, Nat.reduceMul, Nat.reduceSub, vzr, m314, g2, g9, g9', q4, q5]
            all_goals simp only [vmr, vmw, vmp, vza, ↓reduceIte, Nat.reduceBEq, Nat.reduceLT, Nat.reduceAdd, Nat.reduceEqDiff, reduceCtorEq, vmt, vzb, vzc, vlen, vleaf, velems, oks, vst, vmd, ty, Nat.reduceLeDiff, Nat.reduceMul, Nat.reduceSub, m314, Prot.cs]
          · have hm1 : 0 ≤ more ∧ more < 41 := by omega
            have q4 : (more < 0) = False := eq_false (by omega)
            have q5 : (more > 1000) = False := eq_false (by omega)
            have e2 := e325 hm1
            have e3 : F321 [.lst ((digs rules).map nV)] = some (.agg [I 4, .str [], Ts ((digs rules).map fun w => .mk 3 w [])]) := F321_eq (cansD _)
            have e4 : F321 [.lst ((List.replicate more.toNat oneT).map tv)] = some (.agg [I 4, .str [], Ts (List.replicate more.toNat oneT)]) := F321_eq (cans_Tm _)
            have e5 : F322 [.str sMain, .lst [.agg [I 4, .str [], Ts ((digs rules).map fun w => .mk 3 w [])], .agg [I 4, .str [], Ts (List.replicate more.toNat oneT)]]] = some (.own 3 [.agg [I 8, .str sMain, Ts [grpT ((digs rules).map fun w => .mk 3 w []), grpT (List.replicate more.toNat oneT)]]]) := F322_eq (canT1 _ _ _ (canT1 _ _ _ nilCan _ (canG _)) _ (canG _))
            have hc : callT' p rules more = ([callT sMain [grpT ((digs rules).map fun w => .mk 3 w []), grpT (List.replicate more.toNat oneT)]], 0) := by simp only [callT', h0, h1, h2, h3]; simp
            refine ⟨.own 3 [.agg [I 8, .str sMain, Ts [grpT ((digs rules).map fun w => .mk 3 w []), grpT (List.replicate more.toNat oneT)]]], 0, ?_, by rw [hc], rfl, ?_⟩
            · rw [hc]
              simp only [imm, can, cans, cans_Tm]
              simp only [Ts, List.map_cons, List.map_nil, tv_mk]
            refine s314 hU314 (rules.length + 1) (by simp) rfl ?_
            simp only [c314, Tryd.f14, gets, sub]
            simp only [vmr, vmw, vmp, vza, ↓reduceIte, Nat.reduceBEq, Nat.reduceLT, Nat.reduceAdd, Nat.reduceEqDiff, reduceCtorEq, vmt, vzb, vzc, vlen, vleaf, velems, oks, vst, vmd, ty, Nat.reduceLeDiff, Nat.reduceMul, Nat.reduceSub, m314, e1, d, q1]
            refine a1 _ _ 1 _ _ rfl (by omega) trivial ?_ ?_ ?_ ?_ ?_ ?_ (fun hf => by rw [h2] at hf; cases hf) (fun _ s' v9 N' hN g2 g9 g9' => ?_)
            case refine_7 =>
              have t1 := take_len nV N'
              have t2 := take_len tv (List.replicate more.toNat oneT)
              rw [List.length_replicate] at t2
              rw [show digs rules = N' by rw [hN]; rfl] at e3 e5 ⊢
              simp only [vmr, vmw, vmp, vza, ↓reduceIte, Nat.reduceBEq, Nat.reduceLT, Nat.reduceAdd, Nat.reduceEqDiff, reduceCtorEq, vmt, vzb, vzc, vlen, vleaf, velems, oks, vst, vmd, ty, Nat.reduceLeDiff, Nat.reduceMul, Nat.reduceSub, vzr, m314, g2, g9, g9', q4, q5, e2, e3, e4, e5, t1, t2, room1, room2, List.length_replicate, List.map_cons, List.map_nil]
            all_goals simp only [vmr, vmw, vmp, vza, ↓reduceIte, Nat.reduceBEq, Nat.reduceLT, Nat.reduceAdd, Nat.reduceEqDiff, reduceCtorEq, vmt, vzb, vzc, vlen, vleaf, velems, oks, vst, vmd, ty, Nat.reduceLeDiff, Nat.reduceMul, Nat.reduceSub, m314, Prot.cs]
    · have d : (checkF p != 0) = true := by simpa using h0
      refine ⟨.nilS, checkF p, by simp [callT', h0, imm, can], by simp [callT', h0], rfl, ?_⟩
      refine s314 hU314 1 (by simp) rfl ?_
      simp only [c314, Tryd.f14, gets, sub]
      simp only [vmr, vmw, vmp, vza, ↓reduceIte, Nat.reduceBEq, Nat.reduceLT, Nat.reduceAdd, Nat.reduceEqDiff, reduceCtorEq, vmt, vzb, vzc, vlen, vleaf, velems, oks, vst, vmd, ty, Nat.reduceLeDiff, Nat.reduceMul, Nat.reduceSub, vzr, m314, e1, d]
  obtain ⟨v, e, hv, he, hpv, hs⟩ := key
  have := sound_imm hs (by simp only [pureR, pureRL, hpv, Bool.and_self])
  rw [imm_tup, hv, he] at this
  exact this
end Go.Vi
set_option maxRecDepth 100000
set_option maxHeartbeats 2000000
namespace Go.Vi
open Go Go.Proofs

abbrev anyL (p : Prot) : List Tm := cntL restL (zeros p) 0
structure A8f (s : St) (p : Prot) (d6 : List V) (v2 v6 v63 : Nat) : Prop where
  h1 : tget s.τ 1 = .iptr p.cs
  h2 : tget s.τ 2 = .ptr ⟨0, 2, 0⟩ v2 0 0
  h2' : lget s.L (2, 0) = some (v2, .var [.nilS])
  h5 : tget s.τ 5 = Ts (anyL p)
  h6 : tget s.τ 6 = .ptr ⟨0, 6, 0⟩ v6 0 0
  h6' : lget s.L (6, 0) = some (v6, .var [.str sLoop, .bool false, fldV 6 v63 d6])
  h63 : d6 ≠ [] → lget s.L (6, 3) = some (v63, .arr 5 d6)
def A8 (s : St) (p : Prot) (d6 : List V) : Prop := ∃ v2 v6 v63, A8f s p d6 v2 v6 v63
theorem A8.of {s p d6} (h : A8f s p d6 (ver s (2, 0)) (ver s (6, 0)) (ver s (6, 3))) : A8 s p d6 := ⟨_, _, _, h⟩
structure B8f (s : St) (d8 : List V) (v8 v83 : Nat) : Prop where
  h8 : tget s.τ 8 = .ptr ⟨0, 8, 0⟩ v8 0 0
  h8' : lget s.L (8, 0) = some (v8, .var [.str sTest, .bool false, fldV 8 v83 d8])
  h83 : d8 ≠ [] → lget s.L (8, 3) = some (v83, .arr 5 d8)
def B8 (s : St) (d8 : List V) : Prop := ∃ v8 v83, B8f s d8 v8 v83
theorem B8.of {s d8} (h : B8f s d8 (ver s (8, 0)) (ver s (8, 3))) : B8 s d8 := ⟨_, _, h⟩
structure C8f (s : St) (d : List Tm) (v10 : Nat) : Prop where
  h10 : tget s.τ 10 = .ref ⟨0, 10, 0⟩ v10 0 d.length
  h10' : lget s.L (10, 0) = some (v10, .arr 3 (d.map tv))
def C8 (s : St) (d : List Tm) : Prop := ∃ v10, C8f s d v10
theorem C8.of {s d} (h : C8f s d (ver s (10, 0))) : C8 s d := ⟨_, h⟩
noncomputable abbrev F323 : List V → Option V := hF (α := List UInt8) (fun b => [.str b]) (fun _ => True) (fun b => .agg [I 2, .str b, .nilS])
theorem F323_eq (b : List UInt8) : F323 [.str b] = some (.agg [I 2, .str b, .nilS]) := hF_eq (a := b) (one_inj' str_inj) rfl trivial
noncomputable abbrev U308 : List (FuncId × (List V → Option V)) := [(18, F15), (19, F319), (20, F320), (21, F321), (22, F322), (23, F323), (24, F324), (25, F325)]
theorem hU308 : SoundHand Tryd.prog (hand U308) := sound_cons (hF_sound fun a h => w15 a h) <| sound_cons F319_sound <| sound_cons F320_sound <| sound_cons (hF_sound fun l _ => w321 l) <| sound_cons (hF_sound fun a _ => w322 a.1 a.2) <| sound_cons (hF_sound fun b _ => w323 b) <| sound_cons (hF_sound fun b _ => w324 b) <| sound_cons (hF_sound fun n h => w325o h) sound_nil
theorem l308a {n k} (p : Prot) (hp : pOk p) {P : Option (Ex × St) → Prop} : ∀ (q : List Rule) (i : Nat) (d : List V) n' s, p.rules.drop i = q → q.length < n' → d.length = i → A8 s p d → tget s.τ 7 = I i → i ≤ p.rules.length →
    (∀ s' d', d' = d ++ ruleS q i → d'.length ≤ 12 → A8 s' p d' → P (X (M308 (hand U308) n) (.exit 0) k s')) →
    P (L (M308 (hand U308) n) (sub [1, 1, 1, 1, 0, 1, 0, 0] c308) n' k s)
  | [], i, d, n' + 1, s, hi, hn, hd, ⟨v2, v6, v63, ⟨h1, h2, h2', h5, h6, h6', h63⟩⟩, h7, hib, hq => by
    have hc := inlt (drop_nil' hi)
    have r12 := hp.r12
    rw [L_succ]
    simp only [vmr, vmw, vmp, vza, ↓reduceIte, Nat.reduceBEq, Nat.reduceLT, Nat.reduceAdd, Nat.reduceEqDiff, reduceCtorEq, vmt, vzb, vzc, vlen, vleaf, velems, oks, vst, vmd, ty, Nat.reduceLeDiff, Nat.reduceMul, Nat.reduceSub, c308, Tryd.f8, m308, h1, h7, hc]
    refine hq _ d (by simp [ruleS]) (by omega) ⟨v2, v6, v63, ⟨?_, ?_, ?_, ?_, ?_, ?_, fun h => ?_⟩⟩
    case refine_7 => have := h63 h; simp only [vmr, vmw, vmp, vza, ↓reduceIte, Nat.reduceBEq, Nat.reduceLT, Nat.reduceAdd, Nat.reduceEqDiff, reduceCtorEq, vmt, vzb, vzc, vlen, vleaf, velems, oks, vst, vmd, ty, Nat.reduceLeDiff, Nat.reduceMul, Nat.reduceSub, m308, this]
    all_goals simp only [vmr, vmw, vmp, vza, ↓reduceIte, Nat.reduceBEq, Nat.reduceLT, Nat.reduceAdd, Nat.reduceEqDiff, reduceCtorEq, vmt, vzb, vzc, vlen, vleaf, velems, oks, vst, vmd, ty, Nat.reduceLeDiff, Nat.reduceMul, Nat.reduceSub, m308, h1, h2, h2', h5, h6, h6']
  | r :: q, i, d, n' + 1, s, hi, hn, hd, ⟨v2, v6, v63, ⟨h1, h2, h2', h5, h6, h6', h63⟩⟩, h7, hib, hq => by
    obtain ⟨hg, hdr, hlt⟩ := drop_cons hi
    have r12 := hp.r12
    have hlt' := ilt hlt
    have hw := wsucc hlt (by omega)
    have e1 := F320_eq (i := i) (by omega) (hp.rn r (List.mem_of_getElem? hg))
    have hdw := @d308_9 (hand U308) n
    have r2 := @room67 (d.length + 1) (by omega)
    have ih := fun s => l308a (k := k) (n := n) (P := P) p hp q (i + 1) (d ++ [sentV (sentL r i) (sentR r)]) n' s hdr (by simp at hn; omega) (by simp [hd])
    simp only [sub, c308, Tryd.f8, gets, opsAt] at ih hdw
    rw [L_succ]
    cases d with
    | nil =>
      simp only [fldV] at h6'
      simp only [vmr, vmw, vmp, vza, ↓reduceIte, Nat.reduceBEq, Nat.reduceLT, Nat.reduceAdd, Nat.reduceEqDiff, reduceCtorEq, vmt, vzb, vzc, vlen, vleaf, velems, oks, vst, vmd, ty, Nat.reduceLeDiff, Nat.reduceMul, Nat.reduceSub, c308, Tryd.f8, m308, h1, h6, h6', h7, hlt', hg, hw, e1, hdw, room1s, List.map_cons, List.map_nil]
      refine ih _ (A8.of ⟨?_, ?_, ?_, ?_, ?_, ?_, fun _ => ?_⟩) ?_ (by omega) (fun s' d' hd' => hq s' d' (by rw [hd']; simp [ruleS]))
      all_goals simp only [vmr, vmw, vmp, vza, ↓reduceIte, Nat.reduceBEq, Nat.reduceLT, Nat.reduceAdd, Nat.reduceEqDiff, reduceCtorEq, vmt, vzb, vzc, vlen, vleaf, velems, oks, vst, vmd, ty, Nat.reduceLeDiff, Nat.reduceMul, Nat.reduceSub, ver, fldV, m308, h1, h2, h2', h5, h6, h6', hw, List.nil_append, List.length_nil]
    | cons y d =>
      have h63 := h63 (by simp)
      simp only [fldV, List.length_cons] at h6' r2 hd
      simp only [vmr, vmw, vmp, vza, ↓reduceIte, Nat.reduceBEq, Nat.reduceLT, Nat.reduceAdd, Nat.reduceEqDiff, reduceCtorEq, vmt, vzb, vzc, vlen, vleaf, velems, oks, vst, vmd, ty, Nat.reduceLeDiff, Nat.reduceMul, Nat.reduceSub, c308, Tryd.f8, m308, h1, h6, h6', h63, h7, hlt', hg, hw, e1, hdw, r2, room1s, List.map_cons, List.map_nil]
      refine ih _ (A8.of ⟨?_, ?_, ?_, ?_, ?_, ?_, fun _ => ?_⟩) ?_ (by omega) (fun s' d' hd' => hq s' d' (by rw [hd']; simp [ruleS]))
      all_goals simp only [vmr, vmw, vmp, vza, ↓reduceIte, Nat.reduceBEq, Nat.reduceLT, Nat.reduceAdd, Nat.reduceEqDiff, reduceCtorEq, vmt, vzb, vzc, vlen, vleaf, velems, oks, vst, vmd, ty, Nat.reduceLeDiff, Nat.reduceMul, Nat.reduceSub, ver, fldV, m308, h1, h2, h2', h5, h6, h6', hw, List.cons_append, List.length_append, List.length_cons, List.length_nil]
theorem l308b {n k} (p : Prot) (hp : pOk p) (d6 : List V) (hd6 : d6 ≠ []) {P : Option (Ex × St) → Prop} : ∀ (q : List (List Int)) (i : Nat) (d : List V) n' s, p.bad.drop i = q → q.length < n' → d.length = i → A8 s p d6 → B8 s d → tget s.τ 9 = I i → i ≤ p.bad.length →
    (∀ s' d', d' = d ++ q.map (rawT sBad) → d'.length ≤ 8 → A8 s' p d6 → B8 s' d' → P (X (M308 (hand U308) n) (.exit 2) k s')) →
    P (L (M308 (hand U308) n) (sub [1, 1, 1, 1, 1, 1, 1, 0, 1, 0, 0] c308) n' k s)
  | [], i, d, n' + 1, s, hi, hn, hd, ⟨v2, v6, v63, ⟨h1, h2, h2', h5, h6, h6', h63⟩⟩, ⟨v8, v83, ⟨h8, h8', h83⟩⟩, h9, hib, hq => by
    have hc := inlt (drop_nil' hi)
    have d8 := hp.d8
    have h63 := h63 hd6
    rw [L_succ]
    simp only [vmr, vmw, vmp, vza, ↓reduceIte, Nat.reduceBEq, Nat.reduceLT, Nat.reduceAdd, Nat.reduceEqDiff, reduceCtorEq, vmt, vzb, vzc, vlen, vleaf, velems, oks, vst, vmd, ty, Nat.reduceLeDiff, Nat.reduceMul, Nat.reduceSub, c308, Tryd.f8, m308, h1, h9, hc]
    refine hq _ d (by simp) (by omega) ⟨v2, v6, v63, ⟨?_, ?_, ?_, ?_, ?_, ?_, fun _ => ?_⟩⟩ ⟨v8, v83, ⟨?_, ?_, fun h => ?_⟩⟩
    case refine_10 => have := h83 h; simp only [vmr, vmw, vmp, vza, ↓reduceIte, Nat.reduceBEq, Nat.reduceLT, Nat.reduceAdd, Nat.reduceEqDiff, reduceCtorEq, vmt, vzb, vzc, vlen, vleaf, velems, oks, vst, vmd, ty, Nat.reduceLeDiff, Nat.reduceMul, Nat.reduceSub, m308, this]
    all_goals simp only [vmr, vmw, vmp, vza, ↓reduceIte, Nat.reduceBEq, Nat.reduceLT, Nat.reduceAdd, Nat.reduceEqDiff, reduceCtorEq, vmt, vzb, vzc, vlen, vleaf, velems, oks, vst, vmd, ty, Nat.reduceLeDiff, Nat.reduceMul, Nat.reduceSub, m308, h1, h2, h2', h5, h6, h6', h63, h8, h8']
  | l :: q, i, d, n' + 1, s, hi, hn, hd, ⟨v2, v6, v63, ⟨h1, h2, h2', h5, h6, h6', h63⟩⟩, ⟨v8, v83, ⟨h8, h8', h83⟩⟩, h9, hib, hq => by
    obtain ⟨hg, hdr, hlt⟩ := drop_cons hi
    have d8 := hp.d8
    have hlt' := ilt hlt
    have hw := wsucc hlt (by omega)
    have h63 := h63 hd6
    have e1 := F319_eq (hp.dn l (List.mem_of_getElem? hg))
    have e2 := F323_eq sBad
    have hdw := @d308_15 (hand U308) n
    have r2 := @room67 (d.length + 1) (by omega)
    have ih := fun s => l308b (k := k) (n := n) (P := P) p hp d6 hd6 q (i + 1) (d ++ [rawT sBad l]) n' s hdr (by simp at hn; omega) (by simp [hd])
    simp only [sub, c308, Tryd.f8, gets, opsAt] at ih hdw
    rw [L_succ]
    cases d with
    | nil =>
      simp only [fldV] at h8'
      simp only [vmr, vmw, vmp, vza, ↓reduceIte, Nat.reduceBEq, Nat.reduceLT, Nat.reduceAdd, Nat.reduceEqDiff, reduceCtorEq, vmt, vzb, vzc, vlen, vleaf, velems, oks, vst, vmd, ty, Nat.reduceLeDiff, Nat.reduceMul, Nat.reduceSub, c308, Tryd.f8, m308, h1, h8, h8', h9, hlt', hg, hw, e1, e2, hdw, room1, room1s, List.map_cons, List.map_nil]
      refine ih _ (A8.of ⟨?_, ?_, ?_, ?_, ?_, ?_, fun _ => ?_⟩) (B8.of ⟨?_, ?_, fun _ => ?_⟩) ?_ (by omega) (fun s' d' hd' => hq s' d' (by rw [hd']; simp))
      all_goals simp only [vmr, vmw, vmp, vza, ↓reduceIte, Nat.reduceBEq, Nat.reduceLT, Nat.reduceAdd, Nat.reduceEqDiff, reduceCtorEq, vmt, vzb, vzc, vlen, vleaf, velems, oks, vst, vmd, ty, Nat.reduceLeDiff, Nat.reduceMul, Nat.reduceSub, ver, fldV, rawT, m308, h1, h2, h2', h5, h6, h6', h63, h8, h8', hw, List.nil_append, List.length_nil]
    | cons y d =>
      have h83 := h83 (by simp)
      simp only [fldV, List.length_cons] at h8' r2 hd
      simp only [vmr, vmw, vmp, vza, ↓reduceIte, Nat.reduceBEq, Nat.reduceLT, Nat.reduceAdd, Nat.reduceEqDiff, reduceCtorEq, vmt, vzb, vzc, vlen, vleaf, velems, oks, vst, vmd, ty, Nat.reduceLeDiff, Nat.reduceMul, Nat.reduceSub, c308, Tryd.f8, m308, h1, h8, h8', h83, h9, hlt', hg, hw, e1, e2, hdw, r2, room1, room1s, List.map_cons, List.map_nil]
      refine ih _ (A8.of ⟨?_, ?_, ?_, ?_, ?_, ?_, fun _ => ?_⟩) (B8.of ⟨?_, ?_, fun _ => ?_⟩) ?_ (by omega) (fun s' d' hd' => hq s' d' (by rw [hd']; simp))
      all_goals simp only [vmr, vmw, vmp, vza, ↓reduceIte, Nat.reduceBEq, Nat.reduceLT, Nat.reduceAdd, Nat.reduceEqDiff, reduceCtorEq, vmt, vzb, vzc, vlen, vleaf, velems, oks, vst, vmd, ty, Nat.reduceLeDiff, Nat.reduceMul, Nat.reduceSub, ver, fldV, rawT, m308, h1, h2, h2', h5, h6, h6', h63, h8, h8', hw, List.cons_append, List.length_append, List.length_cons, List.length_nil]
theorem l308c {n k} (p : Prot) (hp : pOk p) (d6 d8 : List V) (hd6 : d6 ≠ []) (hd8 : d8 ≠ []) {P : Option (Ex × St) → Prop} : ∀ (q : List Int) (i : Nat) (d : List Tm) n' s, p.begin.drop i = q → q.length < n' → d.length = i + 1 → A8 s p d6 → B8 s d8 → C8 s d → tget s.τ 11 = I i → i ≤ p.begin.length →
    (∀ s' d', d' = d ++ cntL (bg p) q i → d'.length ≤ 9 → A8 s' p d6 → B8 s' d8 → C8 s' d' → P (X (M308 (hand U308) n) (.exit 4) k s')) →
    P (L (M308 (hand U308) n) (sub [1, 1, 1, 1, 1, 1, 1, 1, 1, 1, 0, 1, 0, 0] c308) n' k s)
  | [], i, d, n' + 1, s, hi, hn, hd, ⟨v2, v6, v63, ⟨h1, h2, h2', h5, h6, h6', h63⟩⟩, ⟨v8, v83, ⟨h8, h8', h83⟩⟩, ⟨v10, ⟨h10, h10'⟩⟩, h11, hib, hq => by
    have hc := inlt (drop_nil' hi)
    have b8 := hp.b8
    have h63 := h63 hd6
    have h83 := h83 hd8
    rw [L_succ]
    simp only [vmr, vmw, vmp, vza, ↓reduceIte, Nat.reduceBEq, Nat.reduceLT, Nat.reduceAdd, Nat.reduceEqDiff, reduceCtorEq, vmt, vzb, vzc, vlen, vleaf, velems, oks, vst, vmd, ty, Nat.reduceLeDiff, Nat.reduceMul, Nat.reduceSub, c308, Tryd.f8, m308, h1, h11, hc]
    refine hq _ d (by simp [cntL]) (by omega) ⟨v2, v6, v63, ⟨?_, ?_, ?_, ?_, ?_, ?_, fun _ => ?_⟩⟩ ⟨v8, v83, ⟨?_, ?_, fun _ => ?_⟩⟩ ⟨v10, ⟨?_, ?_⟩⟩
    all_goals simp only [vmr, vmw, vmp, vza, ↓reduceIte, Nat.reduceBEq, Nat.reduceLT, Nat.reduceAdd, Nat.reduceEqDiff, reduceCtorEq, vmt, vzb, vzc, vlen, vleaf, velems, oks, vst, vmd, ty, Nat.reduceLeDiff, Nat.reduceMul, Nat.reduceSub, m308, h1, h2, h2', h5, h6, h6', h63, h8, h8', h83, h10, h10']
  | x :: q, i, d, n' + 1, s, hi, hn, hd, ⟨v2, v6, v63, ⟨h1, h2, h2', h5, h6, h6', h63⟩⟩, ⟨v8, v83, ⟨h8, h8', h83⟩⟩, ⟨v10, ⟨h10, h10'⟩⟩, h11, hib, hq => by
    obtain ⟨hg, hdr, hlt⟩ := drop_cons hi
    have b8 := hp.b8
    have hlt' := ilt hlt
    have hw := wsucc hlt (by omega)
    have h63 := h63 hd6
    have h83 := h83 hd8
    have hx0 := hp.bn x (List.mem_of_getElem? hg)
    have e1 := e325 hx0
    have e2 := F324_eq sMore
    have hz := sz3_or x.toNat
    have r1 := @room70 (x.toNat + 1) (by omega)
    have r2 := @room70 (d.length + 1) (by omega)
    have ih := fun s => l308c (k := k) (n := n) (P := P) p hp d6 d8 hd6 hd8 q (i + 1) (d ++ [grpT (List.replicate x.toNat oneT ++ bg p i)]) n' s hdr (by simp at hn; omega) (by simp [hd])
    have sn := map_snoc d (List.replicate x.toNat oneT ++ bg p i)
    simp only [sub, c308, Tryd.f8, gets, opsAt] at ih
    rw [L_succ]
    cases hf : ((i : Int) == p.free) with
    | true =>
      have hb : bg p i = [varT sMore] := by simp [bg, hf]
      have e4 := e321s (List.replicate x.toNat oneT) sMore
      have tk1 : ((List.replicate x.toNat oneT).map tv ++ [vT sMore]).take (x.toNat + 1) = (List.replicate x.toNat oneT).map tv ++ [vT sMore] := List.take_of_length_le (by simp)
      rw [hb] at sn
      simp only [vmr, vmw, vmp, vza, ↓reduceIte, Nat.reduceBEq, Nat.reduceLT, Nat.reduceAdd, Nat.reduceEqDiff, reduceCtorEq, vmt, vzb, vzc, vlen, vleaf, velems, oks, vst, vmd, ty, Nat.reduceLeDiff, Nat.reduceMul, Nat.reduceSub, c308, Tryd.f8, m308, h1, h10, h10', h11, hlt', hg, hw, hf, e1, e2, e4, hz, r1, r2, tk1, room1, List.length_replicate, List.map_cons, List.map_nil]
      refine ih _ (A8.of ⟨?_, ?_, ?_, ?_, ?_, ?_, fun _ => ?_⟩) (B8.of ⟨?_, ?_, fun _ => ?_⟩) (C8.of ⟨?_, ?_⟩) ?_ (by omega) (fun s' d' hd' => hq s' d' (by rw [hd']; simp [cntL]))
      all_goals simp only [vmr, vmw, vmp, vza, ↓reduceIte, Nat.reduceBEq, Nat.reduceLT, Nat.reduceAdd, Nat.reduceEqDiff, reduceCtorEq, vmt, vzb, vzc, vlen, vleaf, velems, oks, vst, vmd, ty, Nat.reduceLeDiff, Nat.reduceMul, Nat.reduceSub, ver, hb, sn, m308, h1, h2, h2', h5, h6, h6', h63, h8, h8', h83, hw, List.length_append, List.length_cons, List.length_nil, List.length_map]
    | false =>
      have hb : bg p i = [] := by simp [bg, hf]
      have e4 : F321 [.lst ((List.replicate x.toNat oneT).map tv)] = some (.agg [I 4, .str [], Ts (List.replicate x.toNat oneT)]) := F321_eq (cans_Tm _)
      have tk1 := take_len tv (List.replicate x.toNat oneT)
      rw [List.length_replicate] at tk1
      rw [hb, List.append_nil] at sn
      simp only [vmr, vmw, vmp, vza, ↓reduceIte, Nat.reduceBEq, Nat.reduceLT, Nat.reduceAdd, Nat.reduceEqDiff, reduceCtorEq, vmt, vzb, vzc, vlen, vleaf, velems, oks, vst, vmd, ty, Nat.reduceLeDiff, Nat.reduceMul, Nat.reduceSub, c308, Tryd.f8, m308, h1, h10, h10', h11, hlt', hg, hw, hf, e1, e2, e4, hz, r1, r2, tk1, room1, List.length_replicate, List.map_cons, List.map_nil]
      refine ih _ (A8.of ⟨?_, ?_, ?_, ?_, ?_, ?_, fun _ => ?_⟩) (B8.of ⟨?_, ?_, fun _ => ?_⟩) (C8.of ⟨?_, ?_⟩) ?_ (by omega) (fun s' d' hd' => hq s' d' (by rw [hd']; simp [cntL]))
      all_goals simp only [vmr, vmw, vmp, vza, ↓reduceIte, Nat.reduceBEq, Nat.reduceLT, Nat.reduceAdd, Nat.reduceEqDiff, reduceCtorEq, vmt, vzb, vzc, vlen, vleaf, velems, oks, vst, vmd, ty, Nat.reduceLeDiff, Nat.reduceMul, Nat.reduceSub, ver, hb, sn, m308, h1, h2, h2', h5, h6, h6', h63, h8, h8', h83, hw, List.append_nil, List.length_append, List.length_cons, List.length_nil, List.length_map]
end Go.Vi
set_option maxRecDepth 100000
set_option maxHeartbeats 2000000
namespace Go.Vi
open Go Go.Proofs

abbrev rawProg (p : Prot) : V := .agg [.own 3 [.agg [.str sLoop, .bool false, .lst (ruleS p.rules 0 ++ [rawE p])], .agg [.str sTest, .bool false, .lst (p.bad.map (rawT sBad) ++ [rawG p])], .agg [.str sMain, .bool false, .lst [rawM p]]]]
theorem rawProg_can (p : Prot) : can (imm (rawProg p)) = progV (progF p) := by
  have e : cans (p.bad.map (rawT sBad)) = (p.bad.map fun l => (cntL restL l 0, [wordT sBad])).map encS := by
    rw [cans_map, List.map_map, List.map_map]
    exact List.map_congr_left fun l _ => canRT sBad l
  simp only [imm, immL, can, cans, cans_app, can_rules, canE, e, cans_Tm]
  simp only [progV, progF, encF, encS, sentV, Ts, List.map_cons, List.map_nil, List.map_append, tv_mk]
theorem w308k (p : Prot) (hpo : p.ok) (hp : pOk p) (h0 : checkF p = 0) : SoundPure Tryd.prog 8 [p.v] (.ret (.tup [rawProg p, I 0])) := by
  have b8 := hp.b8
  have r12 := hp.r12
  have d8 := hp.d8
  have e1 := F15_eq hpo
  rw [h0] at e1
  have z := zerosOk hp
  have e2 : F319 [.lst (List.replicate p.begin.length (V.int .i64 0))] = some (Ts (anyL p)) := by
    have := F319_eq z
    rwa [show Is (zeros p) = .lst (List.replicate p.begin.length (V.int .i64 0)) by simp [zeros]] at this
  generalize hN : p.begin.length + p.rules.length + p.bad.length + 1 = N
  refine s308 hU308 N (by simp) rfl ?_
  generalize hout : (COut.ret (V.tup [rawProg p, I 0])) = out
  have r3 : roomOk Tryd.prog 3 p.begin.length = true := room3 (by omega)
  have m1 : ((p.begin.length : Int) ≤ p.begin.length) = True := eq_true (Int.le_refl _)
  have m2 : ((p.begin.length : Int) ≤ 9223372036854775807) = True := eq_true (by omega)
  have d : ((0 : Int) != 0) = false := rfl
  have tailC : ∀ s d6 d8 kids, d6 = ruleS p.rules 0 ++ [rawE p] → d8 = p.bad.map (rawT sBad) ++ [rawG p] → kids = grpT [varT sRules] :: cntL (bg p) p.begin 0 → A8 s p d6 → B8 s d8 → C8 s kids → Fin (M308 (hand U308) N) [.cell 2 35, .tmp 3] (R (M308 (hand U308) N) (sub [1, 1, 1, 1, 1, 1, 1, 1, 1, 1, 1] c308) .top s) = some out := by
    intro s d6 d8 kids hd6 hd8 hk ⟨v2, v6, v63, ⟨h1, h2, h2', h5, h6, h6', h63⟩⟩ ⟨v8, v83, ⟨h8, h8', h83⟩⟩ ⟨v10, ⟨h10, h10'⟩⟩
    have h63 := h63 (by rw [hd6]; simp)
    have h83 := h83 (by rw [hd8]; simp)
    have f6 : fldV 6 v63 d6 = .ref ⟨0, 6, 3⟩ v63 0 d6.length := by rw [hd6]; cases ruleS p.rules 0 <;> rfl
    have f8 : fldV 8 v83 d8 = .ref ⟨0, 8, 3⟩ v83 0 d8.length := by rw [hd8]; cases p.bad.map (rawT sBad) <;> rfl
    rw [f6] at h6'
    rw [f8] at h8'
    have t6 : d6.take d6.length = d6 := List.take_length
    have t8 : d8.take d8.length = d8 := List.take_length
    have t10 := take_len tv kids
    have e6 := F324_eq sRules
    have e7 := F324_eq sMore
    have e8 : F321 [.lst [vT sRules]] = some (.agg [I 4, .str [], Ts [varT sRules]]) := F321_eq (canT1 _ _ _ nilCan _ (canV _))
    have e9 : F321 [.lst [vT sMore]] = some (.agg [I 4, .str [], Ts [varT sMore]]) := F321_eq (canT1 _ _ _ nilCan _ (canV _))
    have e10 : F322 [.str sLoop, .lst (kids.map tv)] = some (.own 3 [.agg [I 8, .str sLoop, Ts (grpT [varT sRules] :: cntL (bg p) p.begin 0)]]) := by rw [hk]; exact F322_eq (cans_Tm _)
    simp only [sub, c308, Tryd.f8, gets]
    rw [← hout]
    simp only [vmr, vmw, vmp, vza, ↓reduceIte, Nat.reduceBEq, Nat.reduceLT, Nat.reduceAdd, Nat.reduceEqDiff, reduceCtorEq, vmt, vzb, vzc, vlen, vleaf, velems, oks, vst, vmd, ty, Nat.reduceLeDiff, Nat.reduceMul, Nat.reduceSub, vzr, m308, h1, h2, h2', h6, h6', h63, h8, h8', h83, h10, h10', t6, t8, t10, e6, e7, e8, e9, e10, room1, room2, room1s, room64, List.map_cons, List.map_nil]
    rw [hd6, hd8]
  have tailB : ∀ s d6 d8, d6 = ruleS p.rules 0 ++ [rawE p] → d8 = p.bad.map (rawT sBad) → A8 s p d6 → B8 s d8 → Fin (M308 (hand U308) N) [.cell 2 35, .tmp 3] (R (M308 (hand U308) N) (sub [1, 1, 1, 1, 1, 1, 1, 1] c308) .top s) = some out := by
    intro s d6 d8 hd6 hd8 ⟨v2, v6, v63, ⟨h1, h2, h2', h5, h6, h6', h63⟩⟩ ⟨v8, v83, ⟨h8, h8', h83⟩⟩
    have h63 := h63 (by rw [hd6]; simp)
    have e4 := F323_eq sGood
    have e6 := F324_eq sRules
    have e8 : F321 [.lst [vT sRules]] = some (.agg [I 4, .str [], Ts [varT sRules]]) := F321_eq (canT1 _ _ _ nilCan _ (canV _))
    have hd16 := @d308_16 (hand U308) N
    have q4 := @room67 (d8.length + 1) (by rw [hd8]; simp; omega)
    have a3 := fun d8 hd8 => @l308c N (.blk 4 (.seq (sub [1, 1, 1, 1, 1, 1, 1, 1, 1, 1, 1] c308) .top)) p hp d6 d8 (by rw [hd6]; simp) hd8 (fun x => Fin (M308 (hand U308) N) [.cell 2 35, .tmp 3] x = some out) p.begin 0 [grpT [varT sRules]] N
    simp only [sub, c308, Tryd.f8, gets, opsAt] at hd16 a3 tailC ⊢
    cases d8 with
    | nil =>
      simp only [fldV] at h8'
      simp only [vmr, vmw, vmp, vza, ↓reduceIte, Nat.reduceBEq, Nat.reduceLT, Nat.reduceAdd, Nat.reduceEqDiff, reduceCtorEq, vmt, vzb, vzc, vlen, vleaf, velems, oks, vst, vmd, ty, Nat.reduceLeDiff, Nat.reduceMul, Nat.reduceSub, m308, h1, h2, h5, h8, h8', e4, e6, e8, hd16, room1, room1s, List.map_cons, List.map_nil]
      refine a3 [rawG p] (by simp) _ rfl (by omega) rfl (A8.of ⟨?_, ?_, ?_, ?_, ?_, ?_, fun _ => ?_⟩) (B8.of ⟨?_, ?_, fun _ => ?_⟩) (C8.of ⟨?_, ?_⟩) ?_ (by omega) (fun s2 d' hd' hb hA hB hC => ?_)
      case refine_14 =>
        rw [X_blk_exit, if_pos rfl, X_seq]
        exact tailC s2 d6 [rawG p] d' hd6 (by rw [← hd8]; rfl) (by rw [hd']; rfl) hA hB hC
      all_goals simp only [vmr, vmw, vmp, vza, ↓reduceIte, Nat.reduceBEq, Nat.reduceLT, Nat.reduceAdd, Nat.reduceEqDiff, reduceCtorEq, vmt, vzb, vzc, vlen, vleaf, velems, oks, vst, vmd, ty, Nat.reduceLeDiff, Nat.reduceMul, Nat.reduceSub, ver, fldV, m308, h1, h2, h2', h5, h6, h6', h63, h8, h8', tv_mk, List.map_cons, List.map_nil, List.nil_append, List.length_nil, List.length_cons]
    | cons y d8 =>
      have h83 := h83 (by simp)
      simp only [fldV, List.length_cons] at h8' q4
      simp only [vmr, vmw, vmp, vza, ↓reduceIte, Nat.reduceBEq, Nat.reduceLT, Nat.reduceAdd, Nat.reduceEqDiff, reduceCtorEq, vmt, vzb, vzc, vlen, vleaf, velems, oks, vst, vmd, ty, Nat.reduceLeDiff, Nat.reduceMul, Nat.reduceSub, m308, h1, h2, h5, h8, h8', h83, e4, e6, e8, hd16, q4, room1, room1s, List.map_cons, List.map_nil]
      refine a3 (y :: d8 ++ [rawG p]) (by simp) _ rfl (by omega) rfl (A8.of ⟨?_, ?_, ?_, ?_, ?_, ?_, fun _ => ?_⟩) (B8.of ⟨?_, ?_, fun _ => ?_⟩) (C8.of ⟨?_, ?_⟩) ?_ (by omega) (fun s2 d' hd' hb hA hB hC => ?_)
      case refine_14 =>
        rw [X_blk_exit, if_pos rfl, X_seq]
        exact tailC s2 d6 (y :: d8 ++ [rawG p]) d' hd6 (by rw [← hd8]) (by rw [hd']; rfl) hA hB hC
      all_goals simp only [vmr, vmw, vmp, vza, ↓reduceIte, Nat.reduceBEq, Nat.reduceLT, Nat.reduceAdd, Nat.reduceEqDiff, reduceCtorEq, vmt, vzb, vzc, vlen, vleaf, velems, oks, vst, vmd, ty, Nat.reduceLeDiff, Nat.reduceMul, Nat.reduceSub, ver, fldV, m308, h1, h2, h2', h5, h6, h6', h63, h8, h8', tv_mk, List.map_cons, List.map_nil, List.cons_append, List.length_append, List.length_nil, List.length_cons]
  have tailA : ∀ s d6, d6 = ruleS p.rules 0 → A8 s p d6 → Fin (M308 (hand U308) N) [.cell 2 35, .tmp 3] (R (M308 (hand U308) N) (sub [1, 1, 1, 1, 1] c308) .top s) = some out := by
    intro s d6 hd6 ⟨v2, v6, v63, ⟨h1, h2, h2', h5, h6, h6', h63⟩⟩
    have e4 : F321 [.nilS] = some (.agg [I 4, .str [], .lst []]) := hF_eq (a := ([] : List Tm)) (one_inj' fun _ _ => Ts_inj) rfl trivial
    have e3 : F322 [.str sTest, Ts (anyL p)] = some (.own 3 [.agg [I 8, .str sTest, Ts (anyL p)]]) := F322_eq (cans_Tm _)
    have t1 := take_len tv (anyL p)
    have q1 := @room70 (1 + (anyL p).length) (by rw [cntL_len]; have := z.len; omega)
    have q2 := @room67 (d6.length + 1) (by rw [hd6, ruleS_len]; omega)
    have hd10 := @d308_10 (hand U308) N
    have a2 := fun d6 hd6 => @l308b N (.blk 2 (.seq (sub [1, 1, 1, 1, 1, 1, 1, 1] c308) .top)) p hp d6 hd6 (fun x => Fin (M308 (hand U308) N) [.cell 2 35, .tmp 3] x = some out) p.bad 0 [] N
    simp only [sub, c308, Tryd.f8, gets, opsAt] at hd10 a2 tailB ⊢
    cases d6 with
    | nil =>
      simp only [fldV] at h6'
      simp only [vmr, vmw, vmp, vza, ↓reduceIte, Nat.reduceBEq, Nat.reduceLT, Nat.reduceAdd, Nat.reduceEqDiff, reduceCtorEq, vmt, vzb, vzc, vlen, vleaf, velems, oks, vst, vmd, ty, Nat.reduceLeDiff, Nat.reduceMul, Nat.reduceSub, m308, h1, h2, h5, h6, h6', e3, e4, hd10, t1, tkc, q1, room1, room1s, fits70s, List.map_cons, List.map_nil]
      refine a2 [rawE p] (by simp) _ rfl (by omega) rfl (A8.of ⟨?_, ?_, ?_, ?_, ?_, ?_, fun _ => ?_⟩) (B8.of ⟨?_, ?_, fun h => absurd rfl h⟩) ?_ (by omega) (fun s2 d' hd' hb hA hB => ?_)
      case refine_11 =>
        rw [X_blk_exit, if_pos rfl, X_seq]
        exact tailB s2 [rawE p] d' (by rw [← hd6]; rfl) hd' hA hB
      all_goals simp only [vmr, vmw, vmp, vza, ↓reduceIte, Nat.reduceBEq, Nat.reduceLT, Nat.reduceAdd, Nat.reduceEqDiff, reduceCtorEq, vmt, vzb, vzc, vlen, vleaf, velems, oks, vst, vmd, ty, Nat.reduceLeDiff, Nat.reduceMul, Nat.reduceSub, ver, fldV, rawE, m308, h1, h2, h2', h5, h6, h6', List.nil_append, List.length_nil, List.length_cons]
    | cons y d6 =>
      have h63 := h63 (by simp)
      simp only [fldV, List.length_cons] at h6' q2
      simp only [vmr, vmw, vmp, vza, ↓reduceIte, Nat.reduceBEq, Nat.reduceLT, Nat.reduceAdd, Nat.reduceEqDiff, reduceCtorEq, vmt, vzb, vzc, vlen, vleaf, velems, oks, vst, vmd, ty, Nat.reduceLeDiff, Nat.reduceMul, Nat.reduceSub, m308, h1, h2, h5, h6, h6', h63, e3, e4, hd10, t1, tkc, q1, q2, room1, room1s, fits70s, List.map_cons, List.map_nil]
      refine a2 (y :: d6 ++ [rawE p]) (by simp) _ rfl (by omega) rfl (A8.of ⟨?_, ?_, ?_, ?_, ?_, ?_, fun _ => ?_⟩) (B8.of ⟨?_, ?_, fun h => absurd rfl h⟩) ?_ (by omega) (fun s2 d' hd' hb hA hB => ?_)
      case refine_11 =>
        rw [X_blk_exit, if_pos rfl, X_seq]
        exact tailB s2 (y :: d6 ++ [rawE p]) d' (by rw [← hd6]) hd' hA hB
      all_goals simp only [vmr, vmw, vmp, vza, ↓reduceIte, Nat.reduceBEq, Nat.reduceLT, Nat.reduceAdd, Nat.reduceEqDiff, reduceCtorEq, vmt, vzb, vzc, vlen, vleaf, velems, oks, vst, vmd, ty, Nat.reduceLeDiff, Nat.reduceMul, Nat.reduceSub, ver, fldV, rawE, m308, h1, h2, h2', h5, h6, h6', List.cons_append, List.length_append, List.length_nil, List.length_cons]
  have a1 := @l308a N (.blk 0 (.seq (sub [1, 1, 1, 1, 1] c308) .top)) p hp (fun x => Fin (M308 (hand U308) N) [.cell 2 35, .tmp 3] x = some out) p.rules 0 [] N
  simp only [sub, c308, Tryd.f8, gets, opsAt] at a1 tailA ⊢
  simp only [vmr, vmw, vmp, vza, ↓reduceIte, Nat.reduceBEq, Nat.reduceLT, Nat.reduceAdd, Nat.reduceEqDiff, reduceCtorEq, vmt, vzb, vzc, vlen, vleaf, velems, oks, vst, vmd, ty, Nat.reduceLeDiff, Nat.reduceMul, Nat.reduceSub, m308, r3, m1, m2, e1, e2, d, fitsI, List.map_cons, List.map_nil]
  refine a1 _ rfl (by omega) rfl (A8.of ⟨?_, ?_, ?_, ?_, ?_, ?_, fun h => absurd rfl h⟩) ?_ (by omega) (fun s1 d1 hd1 hb1 hA => ?_)
  case refine_8 =>
    rw [X_blk_exit, if_pos rfl, X_seq]
    exact tailA s1 d1 hd1 hA
  all_goals simp only [vmr, vmw, vmp, vza, ↓reduceIte, Nat.reduceBEq, Nat.reduceLT, Nat.reduceAdd, Nat.reduceEqDiff, reduceCtorEq, vmt, vzb, vzc, vlen, vleaf, velems, oks, vst, vmd, ty, Nat.reduceLeDiff, Nat.reduceMul, Nat.reduceSub, ver, fldV, m308, Prot.cs]
theorem w308 (p : Prot) (hp : p.ok) : SoundPure Tryd.prog 8 [p.v] (.ret (.tup [progV (pf p), I (checkF p)])) := by
  by_cases h : checkF p = 0
  · have := sound_imm (w308k p hp (pOk_of hp h) h) rfl
    rw [imm_tup, rawProg_can] at this
    rw [show pf p = progF p by simp [pf, h], h]
    exact this
  · have e1 := F15_eq hp
    have d : (checkF p != 0) = true := by simpa using h
    rw [show pf p = [] by simp [pf, h]]
    have key : SoundPure Tryd.prog 8 [p.v] (.ret (.tup [.agg [.nilS], I (checkF p)])) := by
      refine s308 hU308 1 (by simp) rfl ?_
      simp only [c308, Tryd.f8, gets, sub]
      simp only [vmr, vmw, vmp, vza, ↓reduceIte, Nat.reduceBEq, Nat.reduceLT, Nat.reduceAdd, Nat.reduceEqDiff, reduceCtorEq, vmt, vzb, vzc, vlen, vleaf, velems, oks, vst, vmd, ty, Nat.reduceLeDiff, Nat.reduceMul, Nat.reduceSub, vzr, m308, e1, d]
    have := sound_imm key rfl
    simpa only [imm, immL, can, cans, progV, List.map_nil] using this
noncomputable def F308 : List V → Option V := hF (α := Prot) (fun a => [a.v]) Prot.ok (fun a => .tup [progV (pf a), I (checkF a)])
theorem F308_eq {p : Prot} (h : p.ok) : F308 [p.v] = some (.tup [progV (pf p), I (checkF p)]) := hF_eq (a := p) (one_inj' fun _ _ => Prot_inj) (by simp only [cans, canProt]) h
end Go.Vi
set_option maxRecDepth 100000
set_option maxHeartbeats 2000000
namespace Go.Vi
open Go Go.Proofs

abbrev Fs := List (List UInt8 × List Sn)
structure fsOk (fs : Fs) : Prop where
  len : fs.length ≤ 1000
  ss : ∀ f ∈ fs, f.2.length ≤ 1000
  sz : ∀ f ∈ fs, ∀ x ∈ f.2, szs x.1 ≤ 1000000 ∧ szs x.2 ≤ 1000000
structure A9f (s : St) (fs : Fs) (i : Nat) : Prop where
  h2 : tget s.τ 2 = .iptr [.lst (fs.map encF)]
  h3 : tget s.τ 3 = .iptr [.lst (fs.map encF)]
  h5 : tget s.τ 5 = I i
structure B9f (s : St) (f : List UInt8 × List Sn) (v6 v7 : Nat) : Prop where
  h6 : tget s.τ 6 = .ptr ⟨0, 6, 0⟩ v6 0 0
  h6' : lget s.L (6, 0) = some (v6, .var [.str f.1, .bool false, .lst (f.2.map encS)])
  h7 : tget s.τ 7 = .ptr ⟨0, 7, 0⟩ v7 0 0
  h7' : lget s.L (7, 0) = some (v7, .var [.str f.1, .bool false, .lst (f.2.map encS)])
def B9 (s : St) (f : List UInt8 × List Sn) : Prop := ∃ v6 v7, B9f s f v6 v7
theorem B9.of {s f} (h : B9f s f (ver s (6, 0)) (ver s (7, 0))) : B9 s f := ⟨_, _, h⟩
noncomputable abbrev U309 : List (FuncId × (List V → Option V)) := [(12, F312)]
theorem hU309 : SoundHand Tryd.prog (hand U309) := sound_cons F312_sound sound_nil
theorem l309b {n k} (fs : Fs) (i : Nat) (f : List UInt8 × List Sn) (hl : f.2.length ≤ 1000) (hs : ∀ x ∈ f.2, szs x.1 ≤ 1000000 ∧ szs x.2 ≤ 1000000) {P : Option (Ex × St) → Prop} : ∀ (q : List Sn) (j : Nat) n' s, f.2.drop j = q → q.length < n' → A9f s fs i → B9 s f → tget s.τ 8 = I j →
    (∀ s', A9f s' fs i → P (X (M309 (hand U309) n) (.exit 2) k s')) →
    P (L (M309 (hand U309) n) (sub [1, 1, 0, 1, 0, 0, 1, 0, 0, 1, 1, 1, 0, 0] c309) n' k s)
  | [], j, n' + 1, s, hi, hn, ⟨h2, h3, h5⟩, ⟨v6, v7, ⟨h6, h6', h7, h7'⟩⟩, h8, hq => by
    have hc := inlt (drop_nil' hi)
    rw [L_succ]
    simp only [vmr, vmw, vmp, vza, ↓reduceIte, Nat.reduceBEq, Nat.reduceLT, Nat.reduceAdd, Nat.reduceEqDiff, reduceCtorEq, vmt, vzb, vzc, vlen, vleaf, velems, oks, vst, vmd, ty, Nat.reduceLeDiff, Nat.reduceMul, Nat.reduceSub, c309, Tryd.f9, m309, h6, h6', h8, hc]
    refine hq _ ⟨?_, ?_, ?_⟩
    all_goals simp only [vmr, vmw, vmp, vza, ↓reduceIte, Nat.reduceBEq, Nat.reduceLT, Nat.reduceAdd, Nat.reduceEqDiff, reduceCtorEq, vmt, vzb, vzc, vlen, vleaf, velems, oks, vst, vmd, ty, Nat.reduceLeDiff, Nat.reduceMul, Nat.reduceSub, m309, h2, h3, h5]
  | x :: q, j, n' + 1, s, hi, hn, ⟨h2, h3, h5⟩, ⟨v6, v7, ⟨h6, h6', h7, h7'⟩⟩, h8, hq => by
    obtain ⟨hg, hdr, hlt⟩ := drop_cons hi
    have hlt' := ilt hlt
    have hw := wsucc hlt (by omega)
    obtain ⟨s1, s2⟩ := hs x (List.mem_of_getElem? hg)
    have e1 := F312_eq (a := x.1) (b := x.1) s1
    have e2 := F312_eq (a := x.2) (b := x.2) s2
    rw [eqB_self] at e1 e2
    have hdw := @d309_12 (hand U309) n
    have ih := fun s => l309b (k := k) (n := n) (P := P) fs i f hl hs q (j + 1) n' s hdr (by simp at hn; omega)
    simp only [sub, c309, Tryd.f9, gets, opsAt] at ih hdw
    have d : ((0 : Int) > 0) = False := eq_false (by omega)
    rw [L_succ]
    simp only [vmr, vmw, vmp, vza, ↓reduceIte, Nat.reduceBEq, Nat.reduceLT, Nat.reduceAdd, Nat.reduceEqDiff, reduceCtorEq, vmt, vzb, vzc, vlen, vleaf, velems, oks, vst, vmd, ty, Nat.reduceLeDiff, Nat.reduceMul, Nat.reduceSub, c309, Tryd.f9, m309, h6, h6', h7, h7', h8, hlt', hg, hw, hdw, e1, e2, d, List.map_nil]
    refine ih _ ⟨?_, ?_, ?_⟩ (B9.of ⟨?_, ?_, ?_, ?_⟩) ?_ hq
    all_goals simp only [vmr, vmw, vmp, vza, ↓reduceIte, Nat.reduceBEq, Nat.reduceLT, Nat.reduceAdd, Nat.reduceEqDiff, reduceCtorEq, vmt, vzb, vzc, vlen, vleaf, velems, oks, vst, vmd, ty, Nat.reduceLeDiff, Nat.reduceMul, Nat.reduceSub, ver, m309, h2, h3, h5, h6, h6', h7, h7', hw]
theorem l309a {n} (fs : Fs) (hf : fsOk fs) (hn0 : ∀ f ∈ fs, f.2.length < n) {k} {P : Option (Ex × St) → Prop} : ∀ (q : Fs) (i : Nat) n' s, fs.drop i = q → q.length < n' → A9f s fs i →
    (∀ s', P (X (M309 (hand U309) n) (.exit 0) k s')) →
    P (L (M309 (hand U309) n) (sub [1, 1, 0, 1, 0, 0] c309) n' k s)
  | [], i, n' + 1, s, hi, hn, ⟨h2, h3, h5⟩, hq => by
    have hc := inlt (drop_nil' hi)
    rw [L_succ]
    simp only [vmr, vmw, vmp, vza, ↓reduceIte, Nat.reduceBEq, Nat.reduceLT, Nat.reduceAdd, Nat.reduceEqDiff, reduceCtorEq, vmt, vzb, vzc, vlen, vleaf, velems, oks, vst, vmd, ty, Nat.reduceLeDiff, Nat.reduceMul, Nat.reduceSub, c309, Tryd.f9, m309, h2, h5, hc]
    exact hq _
  | f :: q, i, n' + 1, s, hi, hn, ⟨h2, h3, h5⟩, hq => by
    obtain ⟨hg, hdr, hlt⟩ := drop_cons hi
    have hlen := hf.len
    have hlt' := ilt hlt
    have hw := wsucc hlt (by omega)
    have hmem := List.mem_of_getElem? hg
    have hdw := @d309_6 (hand U309) n
    have ih := fun s => l309a (k := k) (n := n) (P := P) fs hf hn0 q (i + 1) n' s hdr (by simp at hn; omega)
    have b1 := fun k P s => @l309b n k fs i f (hf.ss f hmem) (hf.sz f hmem) P f.2 0 n s rfl (hn0 f hmem)
    have d1 : (f.1 != f.1) = false := by simp
    have d2 : ((f.2.length : Int) != (f.2.length : Int)) = false := by simp
    have d3 : (false != false) = false := rfl
    simp only [sub, c309, Tryd.f9, gets, opsAt] at ih hdw b1
    rw [L_succ]
    simp only [vmr, vmw, vmp, vza, ↓reduceIte, Nat.reduceBEq, Nat.reduceLT, Nat.reduceAdd, Nat.reduceEqDiff, reduceCtorEq, vmt, vzb, vzc, vlen, vleaf, velems, oks, vst, vmd, ty, Nat.reduceLeDiff, Nat.reduceMul, Nat.reduceSub, c309, Tryd.f9, m309, h2, h3, h5, hlt', hg, hw, hdw, strOp, d1, d2, d3]
    refine b1 _ P _ ⟨?_, ?_, ?_⟩ (B9.of ⟨?_, ?_, ?_, ?_⟩) ?_ (fun s' ⟨g2, g3, g5⟩ => ?_)
    case refine_9 =>
      simp only [vmr, vmw, vmp, vza, ↓reduceIte, Nat.reduceBEq, Nat.reduceLT, Nat.reduceAdd, Nat.reduceEqDiff, reduceCtorEq, vmt, vzb, vzc, vlen, vleaf, velems, oks, vst, vmd, ty, Nat.reduceLeDiff, Nat.reduceMul, Nat.reduceSub, m309, g2, g3, g5, hw]
      refine ih _ ⟨?_, ?_, ?_⟩ hq
      all_goals simp only [vmr, vmw, vmp, vza, ↓reduceIte, Nat.reduceBEq, Nat.reduceLT, Nat.reduceAdd, Nat.reduceEqDiff, reduceCtorEq, vmt, vzb, vzc, vlen, vleaf, velems, oks, vst, vmd, ty, Nat.reduceLeDiff, Nat.reduceMul, Nat.reduceSub, m309, g2, g3, g5, hw]
    all_goals simp only [vmr, vmw, vmp, vza, ↓reduceIte, Nat.reduceBEq, Nat.reduceLT, Nat.reduceAdd, Nat.reduceEqDiff, reduceCtorEq, vmt, vzb, vzc, vlen, vleaf, velems, oks, vst, vmd, ty, Nat.reduceLeDiff, Nat.reduceMul, Nat.reduceSub, ver, m309, h2, h3, h5]
theorem w309 (fs : Fs) (hf : fsOk fs) : SoundPure Tryd.prog 9 [progV fs, progV fs] (.ret (.bool true)) := by
  obtain ⟨N, hN⟩ : ∃ N, N = 1002 := ⟨_, rfl⟩
  refine s309 hU309 N (by simp) rfl ?_
  have a1 := fun k s => @l309a N fs hf (fun f h => by have := hf.ss f h; omega) k (fun x => Fin (M309 (hand U309) N) [.tmp 4] x = some (.ret (.bool true))) fs 0 N s rfl (by have := hf.len; omega)
  have d2 : ((fs.length : Int) != (fs.length : Int)) = false := by simp
  simp only [sub, c309, Tryd.f9, gets, opsAt] at a1 ⊢
  simp only [vmr, vmw, vmp, vza, ↓reduceIte, Nat.reduceBEq, Nat.reduceLT, Nat.reduceAdd, Nat.reduceEqDiff, reduceCtorEq, vmt, vzb, vzc, vlen, vleaf, velems, oks, vst, vmd, ty, Nat.reduceLeDiff, Nat.reduceMul, Nat.reduceSub, m309, d2]
  refine a1 _ _ ⟨?_, ?_, ?_⟩ (fun s' => ?_)
  case refine_4 => simp only [vmr, vmw, vmp, vza, ↓reduceIte, Nat.reduceBEq, Nat.reduceLT, Nat.reduceAdd, Nat.reduceEqDiff, reduceCtorEq, vmt, vzb, vzc, vlen, vleaf, velems, oks, vst, vmd, ty, Nat.reduceLeDiff, Nat.reduceMul, Nat.reduceSub, vzr, m309]
  all_goals simp only [vmr, vmw, vmp, vza, ↓reduceIte, Nat.reduceBEq, Nat.reduceLT, Nat.reduceAdd, Nat.reduceEqDiff, reduceCtorEq, vmt, vzb, vzc, vlen, vleaf, velems, oks, vst, vmd, ty, Nat.reduceLeDiff, Nat.reduceMul, Nat.reduceSub, m309]
noncomputable def F309 : List V → Option V := hF (α := Fs) (fun a => [progV a, progV a]) fsOk (fun _ => .bool true)
end Go.Vi
set_option maxRecDepth 100000
set_option maxHeartbeats 2000000
namespace Go.Vi
open Go Go.Proofs

theorem szs_app : ∀ a b : List Tm, szs (a ++ b) = szs a + szs b
  | [], b => by simp [szs]
  | x :: r, b => by simp only [List.cons_append, szs, szs_app r b]; omega
theorem szs_rep (n : Nat) : szs (List.replicate n oneT) = n := by
  induction n with
  | zero => rfl
  | succ n ih => simp only [List.replicate_succ, szs, ih, szt]; omega
theorem szs_vars (N : List (List UInt8)) : szs (N.map fun w => varT w) = N.length := by
  induction N with
  | nil => rfl
  | cons w r ih => simp only [List.map_cons, szs, ih, szt, List.length_cons]; omega
theorem szs_cntL {bh : Nat → List Tm} {B : Nat} (hB : ∀ i, szs (bh i) ≤ B) : ∀ (l : List Int) (i : Nat), (∀ x ∈ l, 0 ≤ x ∧ x < 41) → szs (cntL bh l i) ≤ l.length * (42 + B)
  | [], _, _ => by simp [cntL, szs]
  | x :: r, i, h => by
    have ih := szs_cntL hB r (i + 1) fun y hy => h y (by simp [hy])
    have h1 := h x (by simp)
    have h2 := hB i
    simp only [cntL, szs, szt, szs_app, szs_rep, List.length_cons, Nat.add_mul, Nat.one_mul]
    omega
theorem sz_num {l : List Int} (h : numsOk l) {bh : Nat → List Tm} (hB : ∀ i, szs (bh i) ≤ 1001) : szs (cntL bh l 0) ≤ 93870 := by
  have := szs_cntL hB l 0 h.num
  have hl := h.len
  have : l.length * (42 + 1001) ≤ 90 * (42 + 1001) := Nat.mul_le_mul_right _ hl
  omega
theorem bhS_sz (r : Rule) (hl : r.clear.length ≤ 1000) (i : Nat) : szs (bhS r i) ≤ 1001 := by
  have := bhS_len r i
  unfold bhS at this ⊢
  rw [szs_vars]
  rw [List.length_map] at this
  omega
theorem ruleP_mem : ∀ {q : List Rule} {i : Nat} {x : Sn}, x ∈ ruleP q i → ∃ r ∈ q, ∃ j, x = (sentL r j, sentR r)
  | r :: q, i, x, h => by
    simp only [ruleP] at h
    rcases List.mem_cons.1 h with h | h
    · exact ⟨r, by simp, i, h⟩
    · obtain ⟨r', h1, h2⟩ := ruleP_mem h; exact ⟨r', by simp [h1], h2⟩
theorem ruleP_len : ∀ (q : List Rule) (i : Nat), (ruleP q i).length = q.length
  | [], _ => rfl
  | r :: q, i => by simp only [ruleP, List.length_cons, ruleP_len q]
theorem restL_sz (i : Nat) : szs (restL i) ≤ 1001 := by simp only [restL, szs, szt]; omega
theorem bg_sz (p : Prot) (i : Nat) : szs (bg p i) ≤ 1001 := by unfold bg; split <;> simp [szs, szt]
theorem progF_ok {p : Prot} (h : pOk p) : fsOk (progF p) := by
  have z := sz_num (zerosOk h) restL_sz
  have r12 := h.r12
  have d8 := h.d8
  have hb : numsOk p.begin := ⟨by have := h.b8; omega, h.bn⟩
  refine ⟨by simp [progF], fun f hf => ?_, fun f hf x hx => ?_⟩
  · simp only [progF, List.mem_cons, List.not_mem_nil, or_false] at hf
    rcases hf with rfl | rfl | rfl
    · simp [ruleP_len]; omega
    · simp; omega
    · simp
  · simp only [progF, List.mem_cons, List.not_mem_nil, or_false] at hf
    rcases hf with rfl | rfl | rfl
    · simp only [List.mem_append, List.mem_cons, List.not_mem_nil, or_false] at hx
      rcases hx with hx | rfl
      · obtain ⟨r, hr, j, rfl⟩ := ruleP_mem hx
        obtain ⟨n, ok⟩ := h.rn r hr
        obtain ⟨n1, n2⟩ := ok.nums
        have s1 := sz_num n1 restL_sz
        have s2 := sz_num n2 (bhS_sz r ok.cl)
        constructor
        · simp only [sentL, szs, szt]; omega
        · simp only [sentR, szs, szt]; omega
      · constructor
        · simp only [szs, szt]; omega
        · simp only [szs, szt]; omega
    · simp only [List.mem_append, List.mem_map, List.mem_cons, List.not_mem_nil, or_false] at hx
      rcases hx with ⟨l, hl, rfl⟩ | rfl
      · have s1 := sz_num (h.dn l hl) restL_sz
        constructor
        · dsimp only; omega
        · simp only [szs, szt]; omega
      · constructor
        · dsimp only; omega
        · simp only [szs, szt]; omega
    · simp only [List.mem_cons, List.not_mem_nil, or_false] at hx
      subst hx
      have s1 := sz_num hb (bg_sz p)
      constructor
      · simp only [szs, szt]; omega
      · simp only [szs, szt]; omega
theorem pf_ok {p : Prot} (hp : p.ok) : fsOk (pf p) := by
  unfold pf
  split
  · rename_i h; exact progF_ok (pOk_of hp h)
  · exact ⟨by simp, fun f hf => by simp at hf, fun f hf => by simp at hf⟩
theorem cfT_sz (p : Prot) : szs (cfT p) ≤ 1000000 := by unfold cfT; split <;> simp [szs, szt]
theorem szs_nums (N : List (List UInt8)) : szs (N.map fun w => Tm.mk 3 w []) = N.length := by
  induction N with
  | nil => rfl
  | cons w r ih => simp only [List.map_cons, szs, ih, szt, List.length_cons]; omega
theorem callT_sz (p : Prot) (rules : List Int) (more : Int) : szs (callT' p rules more).1 ≤ 1000000 := by
  unfold callT'
  split
  · simp [szs]
  · split
    · simp [szs]
    · rename_i h
      split
      · simp [szs]
      · split
        · simp [szs]
        · rename_i h2
          simp only [szs, szt, szs_rep, szs_nums, digs, List.length_map]
          omega
theorem three_inj' {α β γ : Type} {e : α → V} {f : β → V} {g : γ → V} (he : ∀ a b, e a = e b → a = b) (hf : ∀ a b, f a = f b → a = b) (hg : ∀ a b, g a = g b → a = b) : ∀ a b : α × β × γ, [e a.1, f a.2.1, g a.2.2] = [e b.1, f b.2.1, g b.2.2] → a = b := fun a b h => by
  injection h with h1 h2; injection h2 with h2 h3; injection h3 with h3
  exact Prod.ext (he _ _ h1) (Prod.ext (hf _ _ h2) (hg _ _ h3))
noncomputable def F313 : List V → Option V := hF (α := Prot × List Int × Int) (fun a => [a.1.v, Is a.2.1, I a.2.2]) (fun a => cOk a.1 a.2.1 a.2.2) (fun a => .tup [Ts (callT' a.1 a.2.1 a.2.2).1, I (callT' a.1 a.2.1 a.2.2).2])
theorem F313_eq {p : Prot} {rules : List Int} {more : Int} (h : cOk p rules more) : F313 [p.v, Is rules, I more] = some (.tup [Ts (callT' p rules more).1, I (callT' p rules more).2]) :=
  hF_eq (a := (p, rules, more)) (three_inj' (fun _ _ => Prot_inj) (fun _ _ => Is_inj) (fun _ _ => I_inj)) (by simp only [cans, canProt, canIs, canI]) h
noncomputable def F314 : List V → Option V := hF (α := Prot × List Int × Int) (fun a => [a.1.v, Is a.2.1, I a.2.2]) (fun a => cOk a.1 a.2.1 a.2.2) (fun a => .tup [Ts (callT' a.1 a.2.1 a.2.2).1, I (callT' a.1 a.2.1 a.2.2).2])
theorem F314_eq {p : Prot} {rules : List Int} {more : Int} (h : cOk p rules more) : F314 [p.v, Is rules, I more] = some (.tup [Ts (callT' p rules more).1, I (callT' p rules more).2]) :=
  hF_eq (a := (p, rules, more)) (three_inj' (fun _ _ => Prot_inj) (fun _ _ => Is_inj) (fun _ _ => I_inj)) (by simp only [cans, canProt, canIs, canI]) h
theorem canFs (fs : Fs) : can (progV fs) = progV fs := by
  have h1 : ∀ l : List Sn, cans (l.map encS) = l.map encS := cans_map_id fun a => canSent a.1 a.2
  have h2 : cans (fs.map encF) = fs.map encF := cans_map_id (fun f => by simp only [encF, can, cans, h1]) fs
  simp only [progV, can, cans, h2]
theorem sn_inj (a b : Sn) (h : encS a = encS b) : a = b := by
  injection h with h
  injection h with h1 h2
  injection h2 with h2 h3
  injection h3 with h3 h4
  exact Prod.ext (Ts_inj h1) (Ts_inj h3)
theorem fs_inj (a b : Fs) (h : progV a = progV b) : a = b := by
  injection h with h
  injection h with h
  injection h with h
  refine map_inj (fun x y hxy => ?_) h
  injection hxy with hxy
  injection hxy with h1 h2
  injection h2 with h2 h3
  injection h3 with h3
  injection h3 with h3
  exact Prod.ext (str_inj _ _ h1) (map_inj sn_inj h3)
theorem F309_eq {fs : Fs} (h : fsOk fs) : F309 [progV fs, progV fs] = some (.bool true) :=
  hF_eq (a := fs) (fun a b h => by injection h with h; exact fs_inj a b h) (by simp only [cans, canFs]) h
noncomputable abbrev T303 : List (FuncId × (List V → Option V)) := [(4, F6), (5, F7), (6, F9), (7, F307), (8, F308), (9, F309), (10, F310), (11, F311), (12, F312), (13, F313), (14, F314)]
theorem h303 : SoundHand Tryd.prog (hand T303) := sound_cons (hF_sound fun a _ => w6 a) <| sound_cons (hF_sound fun _ _ => w7) <| sound_cons (hF_sound fun a h => w9 a h) <| sound_cons (hF_sound fun a h => w307 a h) <| sound_cons (hF_sound fun a h => w308 a h) <| sound_cons (hF_sound fun a h => w309 a h) <|
  sound_cons (hF_sound fun a h => w310 a h) <| sound_cons (hF_sound fun a h => w311 a h) <| sound_cons F312_sound <| sound_cons (hF_sound fun a h => w313 a.1 a.2.1 a.2.2 h) <| sound_cons (hF_sound fun a h => w314 a.1 a.2.1 a.2.2 h) sound_nil
theorem w303 (p : Prot) (rules : List Int) (more : Int) : SoundPure Tryd.prog 3 [p.v, Is rules, I more] (.ret (.bool true)) := by
  refine s303 h303 1 (by simp) rfl ?_
  have e6 := F6_eq p
  have e7 := F7_eq
  simp only [c303, Tryd.f3, gets, sub]
  cases hf : fewF p with
  | false =>
    rw [hf] at e6
    simp only [vmr, vmw, vmp, vza, ↓reduceIte, Nat.reduceBEq, Nat.reduceLT, Nat.reduceAdd, Nat.reduceEqDiff, reduceCtorEq, vmt, vzb, vzc, vlen, vleaf, velems, oks, vst, vmd, ty, Nat.reduceLeDiff, Nat.reduceMul, Nat.reduceSub, vzr, m303, e6, e7]
  | true =>
    rw [hf] at e6
    have hp := few_ok hf
    by_cases h1 : (rules.length : Int) > 40 ∧ (rules.length : Int) ≤ 1000
    · have q1 := eq_true h1.1
      have q2 := eq_true h1.2
      simp only [vmr, vmw, vmp, vza, ↓reduceIte, Nat.reduceBEq, Nat.reduceLT, Nat.reduceAdd, Nat.reduceEqDiff, reduceCtorEq, vmt, vzb, vzc, vlen, vleaf, velems, oks, vst, vmd, ty, Nat.reduceLeDiff, Nat.reduceMul, Nat.reduceSub, vzr, m303, e6, e7, q1, q2]
    · by_cases h2 : (rules.length : Int) > 1002
      · have q2 := eq_true h2
        have q1 : ((rules.length : Int) > 40) = True := eq_true (by omega)
        have q3 : ((rules.length : Int) ≤ 1000) = False := eq_false (by omega)
        simp only [vmr, vmw, vmp, vza, ↓reduceIte, Nat.reduceBEq, Nat.reduceLT, Nat.reduceAdd, Nat.reduceEqDiff, reduceCtorEq, vmt, vzb, vzc, vlen, vleaf, velems, oks, vst, vmd, ty, Nat.reduceLeDiff, Nat.reduceMul, Nat.reduceSub, vzr, m303, e6, e7, q1, q2, q3]
      · have q2 := eq_false h2
        by_cases h3 : more > 40 ∧ more ≤ 1000
        · have q4 := eq_true h3.1
          have q5 := eq_true h3.2
          by_cases h4 : (rules.length : Int) > 40
          · have q1 := eq_true h4
            have q3 : ((rules.length : Int) ≤ 1000) = False := eq_false (by omega)
            simp only [vmr, vmw, vmp, vza, ↓reduceIte, Nat.reduceBEq, Nat.reduceLT, Nat.reduceAdd, Nat.reduceEqDiff, reduceCtorEq, vmt, vzb, vzc, vlen, vleaf, velems, oks, vst, vmd, ty, Nat.reduceLeDiff, Nat.reduceMul, Nat.reduceSub, vzr, m303, e6, e7, q1, q2, q3, q4, q5]
          · have q1 := eq_false h4
            simp only [vmr, vmw, vmp, vza, ↓reduceIte, Nat.reduceBEq, Nat.reduceLT, Nat.reduceAdd, Nat.reduceEqDiff, reduceCtorEq, vmt, vzb, vzc, vlen, vleaf, velems, oks, vst, vmd, ty, Nat.reduceLeDiff, Nat.reduceMul, Nat.reduceSub, vzr, m303, e6, e7, q1, q2, q4, q5]
        · have hc : cOk p rules more := ⟨hp, by omega, by omega⟩
          have e9 := F9_eq hp
          have a1 := F307_eq hp
          have a2 := F308_eq hp
          have a3 := F309_eq (pf_ok hp)
          have a4 := F310_eq hp
          have a5 := F311_eq hp
          have a6 := F312_eq (b := cfT p) (cfT_sz p)
          have a7 := F313_eq hc
          have a8 := F314_eq hc
          have a9 := F312_eq (b := (callT' p rules more).1) (callT_sz p rules more)
          rw [eqB_self] at a6 a9
          have n1 : (checkF p != checkF p) = false := by simp
          have n2 : ((callT' p rules more).2 == (callT' p rules more).2) = true := by simp
          have n3 : ((0 : Int) > 0) = False := eq_false (by omega)
          by_cases h4 : (rules.length : Int) > 40
          · have q1 := eq_true h4
            have q3 : ((rules.length : Int) ≤ 1000) = False := eq_false (by omega)
            by_cases h5 : more > 40
            · have q4 := eq_true h5
              have q5 : (more ≤ 1000) = False := eq_false (by omega)
              simp only [vmr, vmw, vmp, vza, ↓reduceIte, Nat.reduceBEq, Nat.reduceLT, Nat.reduceAdd, Nat.reduceEqDiff, reduceCtorEq, vmt, vzb, vzc, vlen, vleaf, velems, oks, vst, vmd, ty, Nat.reduceLeDiff, Nat.reduceMul, Nat.reduceSub, vzr, m303, e6, e7, q1, q2, q3, q4, q5, e9, a1, a2, a3, a4, a5, a6, a7, a8, a9, n1, n2, n3]
            · have q4 := eq_false h5
              simp only [vmr, vmw, vmp, vza, ↓reduceIte, Nat.reduceBEq, Nat.reduceLT, Nat.reduceAdd, Nat.reduceEqDiff, reduceCtorEq, vmt, vzb, vzc, vlen, vleaf, velems, oks, vst, vmd, ty, Nat.reduceLeDiff, Nat.reduceMul, Nat.reduceSub, vzr, m303, e6, e7, q1, q2, q3, q4, e9, a1, a2, a3, a4, a5, a6, a7, a8, a9, n1, n2, n3]
          · have q1 := eq_false h4
            by_cases h5 : more > 40
            · have q4 := eq_true h5
              have q5 : (more ≤ 1000) = False := eq_false (by omega)
              simp only [vmr, vmw, vmp, vza, ↓reduceIte, Nat.reduceBEq, Nat.reduceLT, Nat.reduceAdd, Nat.reduceEqDiff, reduceCtorEq, vmt, vzb, vzc, vlen, vleaf, velems, oks, vst, vmd, ty, Nat.reduceLeDiff, Nat.reduceMul, Nat.reduceSub, vzr, m303, e6, e7, q1, q2, q4, q5, e9, a1, a2, a3, a4, a5, a6, a7, a8, a9, n1, n2, n3]
            · have q4 := eq_false h5
              simp only [vmr, vmw, vmp, vza, ↓reduceIte, Nat.reduceBEq, Nat.reduceLT, Nat.reduceAdd, Nat.reduceEqDiff, reduceCtorEq, vmt, vzb, vzc, vlen, vleaf, velems, oks, vst, vmd, ty, Nat.reduceLeDiff, Nat.reduceMul, Nat.reduceSub, vzr, m303, e6, e7, q1, q2, q4, e9, a1, a2, a3, a4, a5, a6, a7, a8, a9, n1, n2, n3]
end Go.Vi
set_option maxRecDepth 100000
namespace Go.Vi
open Go Go.Proofs Go.ChangeShapes Go.WideShapes Go.ChangeAt Go.RowKit

theorem own0 : ownKnob Tryd.prog.godebug = none := by kernel_rfl
theorem kids0 : Kids Tryd.prog (· < Tryd.prog.types.size) := kids_rows (by kernel_rfl) (by kernel_rfl)
theorem full0 : ∀ t e, t < Tryd.prog.types.size → Tryd.prog.underlying t = some (.slice e) → 0 < Tryd.prog.cellsOf e := slices_full_of Tryd.prog (by kernel_rfl)
theorem oI : Opens Tryd.prog 3 I := opens_int Tryd.underlying3 (by kernel_rfl)
theorem oIs : Opens Tryd.prog 22 Is := opens_slice Tryd.underlying22 (by kernel_rfl) oI (by decide +kernel)
theorem oIss : Opens Tryd.prog 24 Iss := opens_slice Tryd.underlying24 (by kernel_rfl) oIs (by decide +kernel)
theorem oRule : Opens Tryd.prog 54 Rule.v :=
  (opens_struct Tryd.underlying54 (openF_cons rfl oIs (openF_cons (by kernel_rfl) oIs (openF_cons (by kernel_rfl) oIs (openF_cons (by kernel_rfl) oI openF_nil)))) (by intro b; exact (by kernel_rfl : (4:Nat) = Tryd.prog.cellsOf 54)) (by kernel_rfl)).map (fun a => ⟨a.1, a.2.1, a.2.2.1, a.2.2.2.1⟩) (fun _ => rfl) (fun _ => (by kernel_rfl : (4:Nat) = Tryd.prog.cellsOf 54))
theorem oRules : Opens Tryd.prog 23 Rules := opens_slice Tryd.underlying23 (by kernel_rfl) oRule (by decide +kernel)
theorem oProt : Opens Tryd.prog 26 (fun b : List Int × Int × List Rule × List (List Int) × Unit => V.agg (cellsV (Is b.1) ++ (cellsV (I b.2.1) ++ (cellsV (Rules b.2.2.1) ++ (cellsV (Iss b.2.2.2.1) ++ []))))) :=
  opens_struct Tryd.underlying26 (openF_cons rfl oIs (openF_cons (by kernel_rfl) oI (openF_cons (by kernel_rfl) oRules (openF_cons (by kernel_rfl) oIss openF_nil)))) (by intro b; exact (by kernel_rfl : (4:Nat) = Tryd.prog.cellsOf 26)) (by kernel_rfl)
theorem argProt {H : Type} {enc : TypeId × Value → H} {w : World} {base : Nat} {v : Value} {d : DataW H} {p : List MemPlace} (hv : Value.okWide Tryd.prog w .any base 26 v) (h : DataW.Trod enc Tryd.prog w 0 (fun _ => true) true 26 v d p) : ∃ x : Prot, PC w (oldB w) x.v v := by
  obtain ⟨b, hb⟩ := arg_struct Tryd.underlying26 oProt hv h
  exact ⟨⟨b.1, b.2.1, b.2.2.1, b.2.2.2.1⟩, hb⟩
theorem contract3 (H : Type) (enc : TypeId × Value → H) (W : World) (base : Nat) (args : Array Value) (ds gs : List (DataW H)) (before : List MemPlace)
    (hval : ∀ (j : Nat) t v, Tryd.f3.params[j]? = some t → args[j]? = some v → Value.okWide Tryd.prog W .any base t v)
    (hW : DataW.Whole enc Tryd.prog Tryd.f3.params.toList YtkpcgnjjkaamgaaDoor.Rows.protocolProgramsSpec.vars false W args.toList ds gs before) :
    Calls Tryd.prog 3 args W fun e W' => ∃ v, e = .returned v ∧ YtkpcgnjjkaamgaaDoor.Rows.protocolProgramsSpec.post enc Tryd.prog Tryd.f3 false true false false W args v W' := by
  have hW' := hW
  obtain ⟨p, q, hA0, hV, rfl, hfz, hnd⟩ := hW
  have hA : DataW.TrodAll enc Tryd.prog W 0 (fun _ => true) true Tryd.f3.params.toList args.toList ds p := hA0
  rw [Tryd.params3] at hA hval
  obtain ⟨v0, vs0, d0, ds0, p0, q0, e0, rfl, rfl, h0, hA⟩ := trodAll_cons hA
  obtain ⟨v1, vs1, d1, ds1, p1, q1, rfl, rfl, rfl, h1, hA⟩ := trodAll_cons hA
  obtain ⟨v2, vs2, d2, ds2, p2, q2, rfl, rfl, rfl, h2, hA⟩ := trodAll_cons hA
  obtain ⟨rfl, rfl, rfl⟩ := trodAll_nil hA
  obtain rfl : args = #[v0, v1, v2] := by cases args; simp_all
  obtain ⟨rfl, rfl⟩ := trodVars_none hV
  obtain ⟨x, hx⟩ := argProt (hval 0 26 v0 rfl rfl) h0
  obtain ⟨st, hst⟩ := arg_slice Tryd.underlying22 oIs (hval 1 22 v1 rfl rfl) h1
  obtain ⟨m, hm⟩ := arg_int Tryd.underlying3 (hval 2 3 v2 rfl rfl) h2
  refine (w303 x st m W (oldB W) #[v0, v1, v2] (fun q hq => by cases hq) (fun _ h => h) ?_).mono fun e W' he => ?_
  · simp only [PCs]
    exact ⟨_, _, rfl, hx, _, _, rfl, hst, _, _, rfl, hm, rfl⟩
  · exact law_post kids0 full0 (by rw [Tryd.params3]; decide +kernel) rfl (by kernel_rfl) Tryd.underlying4 hW' rfl he
def lit1 : DataW Unit → List Value
  | .lit (.int k n) => [.int k n]
  | _ => []
def lits : DataW Unit → Array Value
  | .agg ds => (ds.flatMap lit1).toArray
  | _ => #[]
def setCells (cs : Array Value) : Go.Obj → Go.Obj
  | .cells _ t frozen => .cells cs t frozen
  | o => o
noncomputable def heap0 (os : Os) : Array Go.Obj := (World.holding Tryd.prog os ⟨#[], #[], []⟩).heap
noncomputable def laidWorld (os : Os) : World :=
  { World.holding Tryd.prog os ⟨#[], #[], []⟩ with
    heap := (((heap0 os).modify 0 (setCells (lits YtkpcgnjjkaamgaaDoor.Rows.laid_internal_strconv_uint64pow10))).modify 1 (setCells (lits YtkpcgnjjkaamgaaDoor.Rows.laid_math_bits_deBruijn32tab))).modify 2 (setCells (lits YtkpcgnjjkaamgaaDoor.Rows.laid_math_bits_deBruijn64tab)) }
theorem laid_met (os : Os) : laidMet Tryd.prog YtkpcgnjjkaamgaaDoor.Rows.protocolProgramsRow.laid ((laidWorld os).forCall (fun _ _ => 0) ⟨#[], #[.agg #[.slice none 0 0, .int .i64 0, .slice none 0 0, .slice none 0 0], .slice none 0 0, .int .i64 0], []⟩).memory :=
  laidMet_of_run' 8 (by kernel_rfl) (by kernel_rfl)
theorem reads (os : Os) {H : Type} (enc : TypeId × Value → H) : ∃ places, DataW.whole enc Tryd.prog ((laidWorld os).forCall (fun _ _ => 0) ⟨#[], #[.agg #[.slice none 0 0, .int .i64 0, .slice none 0 0, .slice none 0 0], .slice none 0 0, .int .i64 0], []⟩).memory Tryd.f3.params.toList YtkpcgnjjkaamgaaDoor.Rows.protocolProgramsSpec.vars false #[Value.agg #[.slice none 0 0, .int .i64 0, .slice none 0 0, .slice none 0 0], Value.slice none 0 0, Value.int .i64 0].toList 8 = some ([.agg [.nil, .lit (.int .i64 0), .nil, .nil], .nil, .lit (.int .i64 0)], [], places) :=
  ⟨[], by kernel_rfl⟩
set_option maxRecDepth 100000 in
theorem lifted3 (os : Os) (started : os.Started) (H : Type) (enc : TypeId × Value → H) (F : Stop.Interp) :
    ReturnsInHanded {} Tryd.checked os 3 .any ((OpenSpec.ofChange YtkpcgnjjkaamgaaDoor.Rows.protocolProgramsSpec).preRow enc Tryd.prog Tryd.f3 YtkpcgnjjkaamgaaDoor.Rows.protocolProgramsRow.domain false YtkpcgnjjkaamgaaDoor.Rows.protocolProgramsRow.laid) (((OpenSpec.ofChange YtkpcgnjjkaamgaaDoor.Rows.protocolProgramsSpec).at F).post enc Tryd.prog Tryd.f3 false true false false) := by
  obtain ⟨places, hx⟩ := reads os enc
  refine returnsInHanded_of_row (C := Tryd.checked) (s := OpenSpec.ofChange YtkpcgnjjkaamgaaDoor.Rows.protocolProgramsSpec) own0 started (by kernel_rfl) Tryd.func3
    (witness_row_at (enc := enc) (C := Tryd.checked) false (laidWorld os) #[.agg #[.slice none 0 0, .int .i64 0, .slice none 0 0, .slice none 0 0], .slice none 0 0, .int .i64 0] rfl (by kernel_rfl) (by kernel_rfl) (by kernel_rfl)
      (OpenSpec.preRow_of_cond 8 hx (by kernel_rfl) (fun k hk => by cases hk) (by kernel_rfl) (laid_met os))) ?_
  intro W base args ds gs before hval hW _ _ _ hL _ _
  exact contract3 H enc W base args ds gs before hval hW
end Go.Vi
namespace Go.Proofs.YtkpcgnjjkaamgaaDoor
open Go.Vi
theorem said3 : Rows.ProtocolProgramsSaid :=
  OpenClaim.holds_of_cond 3 Tryd.f3 rfl rfl rfl rfl rfl rfl rfl ⟨rfl, rfl, rfl, rfl, rfl⟩ rfl rfl rfl rfl rfl (by kernel_rfl) Tryd.func3 (by kernel_rfl)
    (of_decide_eq_true (by kernel_rfl)) (by unfold Func.isWrapper; first | (rw [if_pos (by decide +kernel)]; kernel_rfl) | (rw [if_neg (by decide +kernel)]; exact ⟨rfl, rfl⟩))
    (fun os started H enc _ F => by rw [OpenClaim.pre_eq_preRow]; exact lifted3 os started H enc F)
theorem plain3 (f : FuncId) (fn : Func) (hf : Tryd.pinned.checked.prog.funcNamed "chiasmus/chiasmuslaw34.ProtocolPrograms" = some f) (hfn : Tryd.pinned.checked.prog.funcs[f]? = some fn) :
    false = Tryd.pinned.checked.prog.looks [] ∧ ∀ (j : Nat) t, fn.params[j]? = some t → Tryd.pinned.checked.prog.wantsStandIn t = false := by
  obtain rfl : f = 3 := Option.some.inj ((show Tryd.prog.funcNamed "chiasmus/chiasmuslaw34.ProtocolPrograms" = some 3 by kernel_rfl).symm.trans hf) |>.symm
  obtain rfl : fn = Tryd.f3 := (Option.some.inj (Tryd.func3.symm.trans hfn)).symm
  refine ⟨by kernel_rfl, fun j t ht => ?_⟩
  rw [Tryd.params3] at ht
  have hm : t = 26 ∨ t = 22 ∨ t = 3 := by
    have := Array.mem_of_getElem? ht
    simp at this
    omega
  rcases hm with rfl | rfl | rfl
  · exact (show Tryd.prog.wantsStandIn 26 = false by kernel_rfl)
  · exact (show Tryd.prog.wantsStandIn 22 = false by kernel_rfl)
  · exact (show Tryd.prog.wantsStandIn 3 = false by kernel_rfl)
theorem protocolPrograms_holds : Rows.ProtocolProgramsCardSaid :=
  Claim7.holds_tied_plain_at .later [] _ _ _ _ said3 (fun _ h => by cases h) (by kernel_rfl) (fun _ h => by cases h) protocolPrograms_row_tie rfl ⟨rfl, rfl⟩ (by kernel_rfl) rfl plain3 (by kernel_rfl)
#print axioms protocolPrograms_holds
end Go.Proofs.YtkpcgnjjkaamgaaDoor
