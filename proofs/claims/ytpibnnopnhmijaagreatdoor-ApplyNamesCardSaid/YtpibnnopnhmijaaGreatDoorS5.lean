/-
  Walk of the reference's Fresh; Fresh at any number.
-/
import Derived.Test.YtpibnnopnhmijaaGreatDoorS4
import Derived.Test.YtpibnnopnhmijaaGreatDoorS3
import Derived.Test.YtpibnnopnhmijaaGreatDoorS2
import Derived.Test.YtpibnnopnhmijaaGreatDoorS1
import Derived.Test.YtpibnnopnhmijaaGreatDoorVD
import Derived.WalkKit
import Derived.ProofKit
import Derived.Test.YtpibnnopnhmijaaGreatDoorCards
import Derived.Test.YtpibnnopnhmijaaGreatDoorTie
import Derived.OpenShut
import Derived.Deep.DeepHandedRow
import Derived.Lib.LaidTab
set_option linter.unusedSimpArgs false
set_option linter.unusedVariables false
set_option maxRecDepth 100000
set_option maxHeartbeats 1000000
namespace Go.Vi
open Go Go.Proofs
theorem kd_eq {x : List UInt8} (h : nmOk x) : x ≠ [] ∧ kdB x = ((varB x).map (·.1)).getD 0 := by
  obtain ⟨k, s, hk, hr, rfl⟩ := h
  exact ⟨nameV_ne k s, by rw [kdB_V hk, varB_of hk hr]; rfl⟩
theorem itoa_dec (n : Nat) : Lib.itoa (n : Int) = Lib.decDigits n := by unfold Lib.itoa; rw [if_neg (by omega)]; rfl
def frN (x : List UInt8) (n : Int) : V := .agg [.str x, .lst [.agg [I (((varB x).map (·.1)).getD 0), .str (Lib.itoa n), .nilS]]]
def frNL : List (List UInt8) → Int → List V
  | [], _ => []
  | x :: r, n => frN x n :: frNL r (n + 1)
theorem cans_frNL : ∀ (l : List (List UInt8)) (n : Int), cans (frNL l n) = (frL l n).map Bn.v
  | [], n => rfl
  | x :: r, n => by
    simp only [frNL, frL, cans, List.map_cons, cans_frNL r, frV_v]
    rfl
theorem frNL_len : ∀ (l : List (List UInt8)) (n : Int), (frNL l n).length = l.length
  | [], n => rfl
  | x :: r, n => by simp [frNL, frNL_len r]
theorem pureFrN : ∀ (l : List (List UInt8)) (n : Int), pureRL (frNL l n) = true
  | [], n => rfl
  | x :: r, n => by simp only [frNL, pureRL, frN, pureR, pureFrN r, Bool.and_self]
noncomputable abbrev T1022 : List (FuncId × (List V → Option V)) := [(33, Fres), (35, F1035), (54, Fkind), (55, Fdig), (56, FunR)]
theorem h1022 : SoundHand Tryz.prog (hand T1022) := sound_cons F31_sound <| sound_cons F1035_sound <| sound_cons F54_sound <| sound_cons F1055_sound <| sound_cons F59_sound sound_nil
def A1022 (s : St) (d : List V) : Prop := ∃ v8 sz, (sz = 2 ∨ sz = 0) ∧ tget s.τ 8 = .ref ⟨0, 8, 0⟩ v8 0 d.length ∧ lget s.L (8, 0) = some (v8, .arr sz d)
theorem A1022.of {s d} (h : tget s.τ 8 = .ref ⟨0, 8, 0⟩ (ver s (8, 0)) 0 d.length) (h' : lget s.L (8, 0) = some (ver s (8, 0), .arr 2 d)) : A1022 s d := ⟨_, 2, .inl rfl, h, h'⟩
theorem l1022 {n k} {P : Option (Ex × St) → Prop} {from_ : Nat} (hfr : from_ ≤ 1000000000) {e : List Tm} (a : List (List UInt8)) (ha : a.length ≤ 1000000) (hv : ∀ x ∈ a, nmOk x) : ∀ r (i : Nat) d n' s, a.drop i = r → r.length < n' → d.length + r.length ≤ 1000000 → A1022 s d → tget s.τ 0 = Ts e → tget s.τ 1 = I from_ → tget s.τ 9 = Ss a → tget s.τ 10 = I (i : Nat) →
    (∀ s', A1022 s' (d ++ frNL r (from_ + i : Nat)) → tget s'.τ 0 = Ts e → P (X (M1022 (hand T1022) n) (.exit 0) k s')) →
    P (L (M1022 (hand T1022) n) (sub [1, 1, 1, 1, 1, 0, 1, 0, 0] c1022) n' k s)
  | [], i, d, n' + 1, s, hi, hn, hl, ⟨v8, sz, hz, h8, h8'⟩, h0, h1, h9, h10, hq => by
    have hc := inlt (drop_nil' hi)
    rw [L_succ]
    simp only [vmr, vmw, vmp, vza, ↓reduceIte, Nat.reduceBEq, Nat.reduceLT, Nat.reduceAdd, Nat.reduceEqDiff, reduceCtorEq, vmt, vzb, vzc, vlen, vleaf, velems, oks, vst, vmd, ty, Nat.reduceLeDiff, Nat.reduceMul, Nat.reduceSub, c1022, Tryz.f22, m1022, h9, h10, hc]
    refine hq _ ⟨v8, sz, hz, ?_, ?_⟩ ?_
    all_goals simp only [vmr, vmw, vmp, vza, ↓reduceIte, Nat.reduceBEq, Nat.reduceLT, Nat.reduceAdd, Nat.reduceEqDiff, reduceCtorEq, vmt, vzb, vzc, vlen, vleaf, velems, oks, vst, vmd, ty, Nat.reduceLeDiff, Nat.reduceMul, Nat.reduceSub, m1022, h0, h8, h8', frNL, List.append_nil]
  | x :: r, i, d, n' + 1, s, hi, hn, hl, ⟨v8, sz, hz, h8, h8'⟩, h0, h1, h9, h10, hq => by
    obtain ⟨g1, g2, g3⟩ := drop_cons hi
    have hcl := ilt g3
    have ga := ss_get g1
    have hz' := eq_true hz
    have w4 := wsuc g3 (by omega)
    obtain ⟨hne, hkd⟩ := kd_eq (hv x (List.mem_of_getElem? g1))
    have e1 := Fkind_eq hne
    rw [hkd] at e1
    have w5 : IntKind.i64.wrap ((from_ : Int) + (i : Int)) = ((from_ + i : Nat) : Int) := by rw [wrap_id] <;> omega
    have e2 := Fdig_eq (n := from_ + i) (by omega)
    rw [← itoa_dec] at e2
    have hd := @d1022_11 (hand T1022) n
    have ih := fun d s => l1022 (n := n) (k := k) (P := P) hfr (e := e) a ha hv r (i + 1) d n' s g2 (by simp at hn; omega)
    simp only [sub, c1022, Tryz.f22, gets, opsAt] at ih hd
    have hb : frN x ((from_ + i : Nat) : Int) = .agg [.str x, .lst [.agg [I (((varB x).map (·.1)).getD 0), .str (Lib.itoa ((from_ + i : Nat) : Int)), .nilS]]] := rfl
    rw [frNL, List.append_cons, hb] at hq
    have r0 := @room35 1 (by omega)
    have r1 := @room59 1 (by omega)
    have r2 := @room59 (d.length + 1) (by simp at hl; omega)
    have f2 : ∀ (k : Int) (s : List UInt8), fitsE Tryz.prog 52 (.agg [I k, .str s, .nilS]) = true := fun k s => by simp [fitsE, ty, leafV]
    have f1 : ∀ (s : List UInt8) (e : List V), fitsE Tryz.prog 57 (.agg [.str s, .lst e]) = true := fun s e => by simp [fitsE, ty, leafV]
    rw [L_succ]
    simp only [vmr, vmw, vmp, vza, ↓reduceIte, Nat.reduceBEq, Nat.reduceLT, Nat.reduceAdd, Nat.reduceEqDiff, reduceCtorEq, vmt, vzb, vzc, vlen, vleaf, velems, oks, vst, vmd, ty, Nat.reduceLeDiff, Nat.reduceMul, Nat.reduceSub, c1022, Tryz.f22, m1022, h0, h1, h9, h10, h8, h8', hcl, ga, w4, w5, e1, e2, hd, r0, r1, r2, f1, f2, hz', List.map_cons, List.map_nil]
    refine ih (d ++ [.agg [.str x, .lst [.agg [I (((varB x).map (·.1)).getD 0), .str (Lib.itoa ((from_ + i : Nat) : Int)), .nilS]]]]) _ (by simp at hl ⊢; omega) (A1022.of ?_ ?_) ?_ ?_ ?_ ?_ (by rw [show ((from_ + (i + 1) : Nat) : Int) = ((from_ + i : Nat) : Int) + 1 by omega]; exact hq)
    all_goals simp only [vmr, vmw, vmp, vza, ↓reduceIte, Nat.reduceBEq, Nat.reduceLT, Nat.reduceAdd, Nat.reduceEqDiff, reduceCtorEq, vmt, vzb, vzc, vlen, vleaf, velems, oks, vst, vmd, ty, Nat.reduceLeDiff, Nat.reduceMul, Nat.reduceSub, m1022, ver, h0, h1, h9, List.length_append]
def RM (M : Mc) (ops : Array Oper) (r : List Oper) (k : K) (d j : Nat) (s : St) (x : Oper) : Option V → Option (Ex × St)
  | some v => RO M ops r k { St.dels M.E (refs (tget s.τ j)) s with τ := tset (tset s.τ j v) d v }
  | none => RO M ops (x :: r) k s
theorem RM_some {M ops r k d j s x v} : RM M ops r k d j s x (some v) = RO M ops r k { St.dels M.E (refs (tget s.τ j)) s with τ := tset (tset s.τ j v) d v } := rfl
theorem RO_melt2 {M : Mc} {ops : Array Oper} {r : List Oper} {k : K} {s : St} {d j ty pos af} (hd : d < M.E.n) (hf : M.E.frz.contains d = true) : RO M ops ({ dst := some d, op := .move (.tmp j), type := ty, pos := pos, after := af, guard := none } :: r) k s = RM M ops r k d j s { dst := some d, op := .move (.tmp j), type := ty, pos := pos, after := af, guard := none } (frz M.E s (tget s.τ j)) := by
  cases h : frz M.E s (tget s.τ j) with
  | none => rfl
  | some v => exact RO_melt hf hd h
theorem nm_len {x : List UInt8} (h : nmOk x) : x.length ≤ 1000 := by
  obtain ⟨k, s, hk, hr, rfl⟩ := h
  have hs : s.length ≤ 40 := by
    unfold rightB at hr
    rcases isV_iff.1 hk with rfl | rfl | rfl <;> simp at hr <;> omega
  have : (nameV k s).length = 2 + s.length := by unfold nameV; rcases isV_iff.1 hk with rfl | rfl | rfl <;> simp <;> omega
  omega
theorem itoa_len {n : Nat} (h : n ≤ 2000000000) : (Lib.itoa (n : Int)).length ≤ 10 := by rw [itoa_dec, Lib.decDigits_length]; exact nd_le 9 n (by omega)
theorem frL_bok : ∀ (W : List (List UInt8)) (n : Nat), (∀ x ∈ W, nmOk x) → n + W.length ≤ 2000000000 → ∀ b ∈ frL W (n : Int), bok b
  | x :: r, n, hW, hn, b, hb => by
    rw [frL] at hb
    simp only [List.length_cons] at hn
    rcases List.mem_cons.1 hb with rfl | hb
    · have h1 := nm_len (hW x (by simp))
      have h2 := itoa_len (n := n) (by omega)
      refine ⟨by show x.length ≤ _; omega, by simp [frB, szs, szt], ?_⟩
      simp only [frB, txs, txt1]
      exact ⟨⟨by omega, trivial⟩, trivial⟩
    · exact frL_bok r (n + 1) (fun y hy => hW y (by simp [hy])) (by omega) b hb
theorem nm_all {e : List Tm} (h : errB 8 e = 0) : ∀ x ∈ varL e, nmOk x := by
  obtain ⟨h1, h2, h3⟩ := errB_iff.1 h
  rw [varL_cn 0 h3]
  exact cnL_ok 0 [] (fun x hx => by cases hx) e h3
def frVi (e : List Tm) (m : Int) : V :=
  if errB 8 e = 0 then (if m < 0 ∨ m > 1000000000 then .tup [Ts [], Bs [], I 4] else .tup [Ts (frE e m.toNat), Bs (frL (varL e) (m.toNat : Int)), I 0]) else .tup [Ts [], Bs [], I (errB 8 e)]
def Fi22 (n : Nat) (v : V) (r : Option (Ex × St)) : Prop := Fin (M1022 (hand T1022) n) [.tmp 4, .tmp 5, .tmp 6] r = some (.ret v)
theorem w22 (e : List Tm) (m : Int) (hs : szs e ≤ 1000000) (ho : txs e) : SoundPure Tryz.prog 22 [Ts e, I m] (.ret (frVi e m)) := by
  have e1 := Fres_eq hs ho
  have n0 : ((0 : Int) != 0) = false := rfl
  unfold frVi
  by_cases q1 : errB 8 e = 0
  case neg =>
    have q1' : (errB 8 e != 0) = true := by simpa using q1
    rw [if_neg q1]
    have : SoundPure Tryz.prog 22 [Ts e, I m] (.ret (.tup [.nilS, .nilS, I (errB 8 e)])) := by
      refine s1022 h1022 1 (by simp) rfl ?_
      simp only [c1022, Tryz.f22, gets, sub]
      simp only [vmr, vmw, vmp, vza, ↓reduceIte, Nat.reduceBEq, Nat.reduceLT, Nat.reduceAdd, Nat.reduceEqDiff, reduceCtorEq, vmt, vzb, vzc, vlen, vleaf, velems, oks, vst, vmd, ty, Nat.reduceLeDiff, Nat.reduceMul, Nat.reduceSub, vzr, callV_s2, m1022, e1, q1']
    exact sound_imm this rfl
  rw [if_pos q1]
  rw [q1] at e1
  by_cases q2 : m < 0 ∨ m > 1000000000
  · rw [if_pos q2]
    have : SoundPure Tryz.prog 22 [Ts e, I m] (.ret (.tup [.nilS, .nilS, I 4])) := by
      refine s1022 h1022 1 (by simp) rfl ?_
      simp only [c1022, Tryz.f22, gets, sub]
      by_cases q3 : m < 0
      · have q3' := eq_true q3
        simp only [vmr, vmw, vmp, vza, ↓reduceIte, Nat.reduceBEq, Nat.reduceLT, Nat.reduceAdd, Nat.reduceEqDiff, reduceCtorEq, vmt, vzb, vzc, vlen, vleaf, velems, oks, vst, vmd, ty, Nat.reduceLeDiff, Nat.reduceMul, Nat.reduceSub, vzr, callV_s2, m1022, e1, n0, q3']
      · have q3' := eq_false q3
        have q4 : (m > 1000000000) = True := eq_true (q2.resolve_left q3)
        simp only [vmr, vmw, vmp, vza, ↓reduceIte, Nat.reduceBEq, Nat.reduceLT, Nat.reduceAdd, Nat.reduceEqDiff, reduceCtorEq, vmt, vzb, vzc, vlen, vleaf, velems, oks, vst, vmd, ty, Nat.reduceLeDiff, Nat.reduceMul, Nat.reduceSub, vzr, callV_s2, m1022, e1, n0, q3', q4]
    exact sound_imm this rfl
  rw [if_neg q2]
  have q3 : (m < 0) = False := eq_false (by omega)
  have q4 : (m > 1000000000) = False := eq_false (by omega)
  obtain ⟨n, rfl⟩ : ∃ n : Nat, m = (n : Int) := ⟨m.toNat, by omega⟩
  have hn : n ≤ 1000000000 := by omega
  rw [Int.toNat_natCast]
  obtain ⟨g1, g2, g3⟩ := fr_names q1
  obtain ⟨f1, f2, f3⟩ := errB_iff.1 q1
  have e2 := F1035_eq hs ho
  have hnm := nm_all q1
  have hbo : bnsOk (frL (varL e) (n : Int)) := ⟨by rw [frL_len]; omega, frL_bok _ n hnm (by omega)⟩
  have e3 : FunR [Ts e, .lst (frNL (varL e) (n : Int))] = some (Ts (frE e n)) := by
    have h : frE e n = unRL (frL (varL e) (n : Int)) e := (unR_L (most := 8) e f3).symm
    rw [h]
    refine hF_eq (a := (e, frL (varL e) (n : Int))) (two_inj (fun _ _ => Ts_inj) (fun _ _ => Bs_inj)) ?_ ⟨hs, hbo, ho, ?_⟩
    · rw [show cans [Ts e, .lst (frNL (varL e) (n : Int))] = [can (Ts e), .lst (cans (frNL (varL e) (n : Int)))] from rfl, can_Ts, cans_frNL]
    · rw [← h, (frE_right hn q1).2]; exact hs
  have hln := frNL_len (varL e) (n : Int)
  let Po : Option (Ex × St) → Prop := fun r => Fi22 (szs e + 4) (.tup [Ts (frE e n), .lst (frNL (varL e) (n : Int)), I 0]) r
  have key : Po (R (M1022 (hand T1022) (szs e + 4)) c1022 .top ⟨params 0 [Ts e, I n], [], fun _ => none, 0⟩) := by
    have a1 := fun k s => @l1022 (szs e + 4) k Po n hn e (varL e) (by omega) hnm (varL e) 0 [] (szs e + 4) s rfl (by omega) (by simp; omega)
    simp only [c1022, Tryz.f22, gets, sub] at a1 ⊢
    have hr0 := @room59 0 (by omega)
    simp only [vmr, vmw, vmp, vza, ↓reduceIte, Nat.reduceBEq, Nat.reduceLT, Nat.reduceAdd, Nat.reduceEqDiff, reduceCtorEq, vmt, vzb, vzc, vlen, vleaf, velems, oks, vst, vmd, ty, Nat.reduceLeDiff, Nat.reduceMul, Nat.reduceSub, callV_s2, m1022, e1, e2, n0, q3, q4, hr0]
    refine a1 _ _ ⟨1, 2, .inl rfl, ?_, ?_⟩ ?_ ?_ ?_ ?_ (fun s' hA h0 => ?_)
    case refine_7 =>
      rw [List.nil_append] at hA
      obtain ⟨v8, sz, hz, h8, h8'⟩ := hA
      rw [Nat.add_zero] at h8 h8'
      simp only [vmr, vmw, vmp, vza, ↓reduceIte, Nat.reduceBEq, Nat.reduceLT, Nat.reduceAdd, Nat.reduceEqDiff, reduceCtorEq, vmt, vzb, vzc, vlen, vleaf, velems, oks, vst, vmd, ty, Nat.reduceLeDiff, Nat.reduceMul, Nat.reduceSub, callV_s2, m1022, h0, h8, h8', RO_melt2, RM_some, take_len]
      unfold Po Fi22
      simp only [vmr, vmw, vmp, vza, ↓reduceIte, Nat.reduceBEq, Nat.reduceLT, Nat.reduceAdd, Nat.reduceEqDiff, reduceCtorEq, vmt, vzb, vzc, vlen, vleaf, velems, oks, vst, vmd, ty, Nat.reduceLeDiff, Nat.reduceMul, Nat.reduceSub, vzr, callV_s2, m1022, h0, h8, h8', e3, RO_melt2, RM_some, take_len]
    all_goals simp only [vmr, vmw, vmp, vza, ↓reduceIte, Nat.reduceBEq, Nat.reduceLT, Nat.reduceAdd, Nat.reduceEqDiff, reduceCtorEq, vmt, vzb, vzc, vlen, vleaf, velems, oks, vst, vmd, ty, Nat.reduceLeDiff, Nat.reduceMul, Nat.reduceSub, m1022]
    all_goals rfl
  have hp : pureR (.tup [Ts (frE e n), .lst (frNL (varL e) (n : Int)), I 0]) = true := by simp only [pureR, pureRL, pureFrN, pureLT, Bool.and_self]
  have := sound_imm (s1022 h1022 (szs e + 4) (by simp) hp key) hp
  have hc : can (imm (.tup [Ts (frE e n), .lst (frNL (varL e) (n : Int)), I 0])) = .tup [Ts (frE e n), Bs (frL (varL e) (n : Int)), I 0] := by
    show V.tup [can (Ts (frE e n)), V.lst (cans (frNL (varL e) (n : Int))), _] = _
    rw [can_Ts, cans_frNL]
    rfl
  rw [hc] at this
  exact this
noncomputable def FfrR : List V → Option V := hF (α := List Tm × Int) (fun p => [Ts p.1, I p.2]) (fun p => szs p.1 ≤ 1000000 ∧ txs p.1) (fun p => frVi p.1 p.2)
theorem FfrR_eq {e : List Tm} {m : Int} (hs : szs e ≤ 1000000) (ho : txs e) : FfrR [Ts e, I m] = some (frVi e m) := hF_eq (a := (e, m)) (two_inj (fun _ _ => Ts_inj) (fun _ _ => I_inj)) (by simp only [cans, can_Ts, canI]) ⟨hs, ho⟩
theorem FfrR_sound : ∀ args v, FfrR args = some v → SoundPure Tryz.prog 22 args (.ret v) := hF_sound fun p hp => w22 p.1 p.2 hp.1 hp.2
theorem w19i (e : List Tm) (m : Int) (hs : szs e ≤ 1000000) (ho : txs e) : SoundPure Tryz.prog 21 [Ts e, I m] (.ret (frVi e m)) := by
  have e1 := Fres_eq hs ho
  have n0 : ((0 : Int) != 0) = false := rfl
  by_cases q2 : m < 0 ∨ m > 1000000000
  · unfold frVi
    by_cases q1 : errB 8 e = 0
    · rw [if_pos q1, if_pos q2]
      rw [q1] at e1
      have : SoundPure Tryz.prog 21 [Ts e, I m] (.ret (.tup [.nilS, .nilS, I 4])) := by
        refine s719 h719 1 (by simp) rfl ?_
        simp only [c719, Tryz.f21, gets, sub]
        by_cases q3 : m < 0
        · have q3' := eq_true q3
          simp only [vmr, vmw, vmp, vza, ↓reduceIte, Nat.reduceBEq, Nat.reduceLT, Nat.reduceAdd, Nat.reduceEqDiff, reduceCtorEq, vmt, vzb, vzc, vlen, vleaf, velems, oks, vst, vmd, ty, Nat.reduceLeDiff, Nat.reduceMul, Nat.reduceSub, vzr, callV_s2, m719, e1, n0, q3']
        · have q3' := eq_false q3
          have q4 : (m > 1000000000) = True := eq_true (q2.resolve_left q3)
          simp only [vmr, vmw, vmp, vza, ↓reduceIte, Nat.reduceBEq, Nat.reduceLT, Nat.reduceAdd, Nat.reduceEqDiff, reduceCtorEq, vmt, vzb, vzc, vlen, vleaf, velems, oks, vst, vmd, ty, Nat.reduceLeDiff, Nat.reduceMul, Nat.reduceSub, vzr, callV_s2, m719, e1, n0, q3', q4]
      exact sound_imm this rfl
    · have q1' : (errB 8 e != 0) = true := by simpa using q1
      rw [if_neg q1]
      have : SoundPure Tryz.prog 21 [Ts e, I m] (.ret (.tup [.nilS, .nilS, I (errB 8 e)])) := by
        refine s719 h719 1 (by simp) rfl ?_
        simp only [c719, Tryz.f21, gets, sub]
        simp only [vmr, vmw, vmp, vza, ↓reduceIte, Nat.reduceBEq, Nat.reduceLT, Nat.reduceAdd, Nat.reduceEqDiff, reduceCtorEq, vmt, vzb, vzc, vlen, vleaf, velems, oks, vst, vmd, ty, Nat.reduceLeDiff, Nat.reduceMul, Nat.reduceSub, vzr, callV_s2, m719, e1, q1']
      exact sound_imm this rfl
  · obtain ⟨n, rfl⟩ : ∃ n : Nat, m = (n : Int) := ⟨m.toNat, by omega⟩
    have h : frVi e (n : Int) = frV19 e n := by
      unfold frVi frV19
      rw [if_neg q2]
      rfl
    rw [h]
    exact w19 e n (by omega) hs ho
noncomputable def F19i : List V → Option V := hF (α := List Tm × Int) (fun p => [Ts p.1, I p.2]) (fun p => szs p.1 ≤ 1000000 ∧ txs p.1) (fun p => frVi p.1 p.2)
theorem F19i_eq {e : List Tm} {m : Int} (hs : szs e ≤ 1000000) (ho : txs e) : F19i [Ts e, I m] = some (frVi e m) := hF_eq (a := (e, m)) (two_inj (fun _ _ => Ts_inj) (fun _ _ => I_inj)) (by simp only [cans, can_Ts, canI]) ⟨hs, ho⟩
theorem F19i_sound : ∀ args v, F19i args = some v → SoundPure Tryz.prog 21 args (.ret v) := hF_sound fun p hp => w19i p.1 p.2 hp.1 hp.2
end Go.Vi
set_option maxRecDepth 100000
set_option maxHeartbeats 1000000
namespace Go.Vi
open Go Go.Proofs
theorem nameV_iff {k k' : Int} {s s' : List UInt8} (hk : isV k = true) (hk' : isV k' = true) : nameV k s = nameV k' s' ↔ k = k' ∧ s = s' :=
  ⟨fun h => ⟨nameV_kind hk hk' h, nameV_inj h⟩, fun h => by rw [h.1, h.2]⟩
theorem lkT_x {x : List UInt8} : ∀ {w : List Rp} {p}, lkT w x = some p → p.x = x
  | q :: r, p, h => by
    simp only [lkT] at h
    split at h
    · rename_i e; injection h with h; subst h; simpa using e
    · exact lkT_x h
theorem lkF_of : ∀ {w : List Rp} {p}, (w.map Rp.nm).Nodup → p ∈ w → lkF w p.nm = some p
  | q :: r, p, h, hm => by
    simp only [List.map_cons, List.nodup_cons] at h
    simp only [lkF]
    rcases List.mem_cons.1 hm with rfl | hm
    · rw [if_pos (by simp)]
    · have : q.nm ≠ p.nm := fun e => h.1 (by rw [e]; exact List.mem_map_of_mem hm)
      rw [if_neg (by simpa using this)]
      exact lkF_of h.2 hm
theorem lkF_no : ∀ {w : List Rp} {y}, lkF w y = none ↔ ∀ p ∈ w, p.nm ≠ y
  | [], y => by simp [lkF]
  | q :: r, y => by
    simp only [lkF, List.mem_cons, forall_eq_or_imp]
    by_cases e : q.nm = y
    · rw [if_pos (by simpa using e)]; simp [e]
    · rw [if_neg (by simpa using e), lkF_no]; simp [e]
def usedB (w : List Rp) (k : Int) (s : List UInt8) : Bool := w.any fun p => p.k == k && p.s == s
theorem used_no {w : List Rp} {k : Int} {s : List UInt8} (hk : isV k = true) (hw : ∀ p ∈ w, rnOk p) : usedB w k s = false ↔ lkF w (nameV k s) = none := by
  rw [lkF_no]
  unfold usedB
  rw [List.any_eq_false]
  constructor
  · intro h p hp e
    have := (nameV_iff (hw p hp).1 hk).1 e
    exact h p hp (by simp [this.1, this.2])
  · intro h p hp e
    simp only [Bool.and_eq_true, beq_iff_eq] at e
    exact h p hp (by rw [Rp.nm, e.1, e.2])
theorem reV_ref {w : List Rp} {s0 : List UInt8} {k : Int} {s : List UInt8} (hk : isV k = true) (hw : ∀ p ∈ w, rnOk p) (hb : bij w) :
    reV w (nameV k s0) k s = match lkT w (nameV k s0) with
      | some p => if p.s = s then some w else none
      | none => if usedB w k s = true then none else some (w ++ [⟨nameV k s0, k, s⟩]) := by
  unfold reV
  cases h : lkT w (nameV k s0) with
  | some p =>
    have hp := lkT_mem h
    have hx := lkT_x h
    obtain ⟨h1, ⟨s1, h2, h3⟩, h4⟩ := hw p hp
    have hkk : p.k = k := nameV_kind h1 hk (by rw [← h3, hx])
    dsimp only
    by_cases e : p.s = s
    · have hn : nameV k s = p.nm := by rw [Rp.nm, hkk, e]
      rw [hn, lkF_of hb.2 hp, if_pos e]
      simp only [hx, and_self, if_true]
    · rw [if_neg e]
      have hn : p.nm ≠ nameV k s := fun e' => e ((nameV_iff h1 hk).1 e').2
      cases lkF w (nameV k s) with
      | none => rfl
      | some q => simp only [hn, false_and, if_false]
  | none =>
    dsimp only
    cases hu : usedB w k s with
    | false => rw [(used_no hk hw).1 hu]; simp
    | true =>
      cases hl : lkF w (nameV k s) with
      | none => rw [(used_no hk hw).2 hl] at hu; cases hu
      | some q => simp
theorem bij_reV {w w' : List Rp} {a k s} (hb : bij w) (h : reV w a k s = some w') : bij w' := by
  have g := reV_cn hb a k s
  rw [h] at g
  exact ⟨by rw [g.2.1]; exact addN_nd _ hb.1, by rw [g.2.2]; exact addN_nd _ hb.2⟩
theorem bij_reL {w w' : List Rp} {a b} (hb : bij w) (ha : fms 8 a = true) (hb' : fms 8 b = true) (h : reL w a b = some w') : bij w' := by
  have g := reL_cn 0 w a b hb ha hb'
  rw [h] at g
  exact ⟨by rw [g.2.1]; exact cnL_nd 0 _ hb.1 a, by rw [g.2.2]; exact cnL_nd 0 _ hb.2 b⟩
theorem rn_reL {w w' : List Rp} {a b} (hw : ∀ p ∈ w, rnOk p) (ha : fms 8 a = true) (hb' : fms 8 b = true) (h : reL w a b = some w') : ∀ p ∈ w', rnOk p := by
  obtain ⟨r, rfl, h2⟩ := reL_app w a b ha hb' h
  intro p hp
  exact (List.mem_append.1 hp).elim (hw p) (h2 p)
theorem rn_reV {w w' : List Rp} {s0 k s} (hw : ∀ p ∈ w, rnOk p) (hk : isV k = true) (h1 : rightB k s0 [] = true) (h2 : rightB k s [] = true) (h : reV w (nameV k s0) k s = some w') : ∀ p ∈ w', rnOk p := by
  obtain ⟨r, rfl, h3⟩ := reV_app h
  intro p hp
  rcases List.mem_append.1 hp with hp | hp
  · exact hw p hp
  · rw [h3 p hp]; exact ⟨hk, ⟨s0, h1, rfl⟩, h2⟩
def rnZ (z : V) (p : Rp) : V := .agg [.str p.x, .lst [.agg [I p.k, .str p.s, z]]]
def okR : List V → List Rp → Prop
  | [], [] => True
  | e :: es, p :: w => (∃ z, (z = .nilS ∨ z = .lst []) ∧ e = rnZ z p) ∧ okR es w
  | _, _ => False
theorem okR_len : ∀ {es w}, okR es w → es.length = w.length
  | [], [], _ => rfl
  | e :: es, p :: w, h => by simp only [okR] at h; simp [okR_len h.2]
  | [], p :: w, h => by simp [okR] at h
  | e :: es, [], h => by simp [okR] at h
theorem okR_can : ∀ {es w}, okR es w → cans es = (w.map Rp.b).map Bn.v
  | [], [], _ => rfl
  | e :: es, p :: w, h => by
    simp only [okR] at h
    obtain ⟨⟨z, hz, rfl⟩, h⟩ := h
    simp only [cans, List.map_cons, okR_can h]
    congr 1
    rcases hz with rfl | rfl
    · exact can_rpV p
    · rw [Rp.b, Bn.v, Ts, List.map_cons, List.map_nil, tv_mk]; rfl
  | [], p :: w, h => by simp [okR] at h
  | e :: es, [], h => by simp [okR] at h
theorem okR_imm : ∀ {es w}, okR es w → immL es = es ∧ pureRL es = true
  | [], [], _ => ⟨rfl, rfl⟩
  | e :: es, p :: w, h => by
    simp only [okR] at h
    obtain ⟨⟨z, hz, rfl⟩, h⟩ := h
    obtain ⟨h1, h2⟩ := okR_imm h
    rcases hz with rfl | rfl <;> exact ⟨by simp only [immL, h1]; rfl, by simp only [pureRL, h2, rnZ, pureR, Bool.and_self]⟩
  | [], p :: w, h => by simp [okR] at h
  | e :: es, [], h => by simp [okR] at h
theorem okR_get : ∀ {es w} {i : Nat} {p : Rp}, okR es w → w[i]? = some p → ∃ z, leafV z = true ∧ es[i]? = some (rnZ z p)
  | e :: es, p :: w, 0, q, h, hg => by
    simp only [okR] at h
    obtain ⟨⟨z, hz, rfl⟩, h⟩ := h
    simp at hg
    subst hg
    exact ⟨z, by rcases hz with rfl | rfl <;> rfl, rfl⟩
  | e :: es, p :: w, i + 1, q, h, hg => by
    simp only [okR] at h
    simp at hg
    obtain ⟨z, hl, hz⟩ := okR_get h.2 hg
    exact ⟨z, hl, by simpa using hz⟩
  | [], [], i, q, h, hg => by simp at hg
  | [], p :: w, i, q, h, hg => by simp [okR] at h
  | e :: es, [], i, q, h, hg => by simp [okR] at h
theorem okR_add {p : Rp} : ∀ {es w}, okR es w → okR (es ++ [rnZ .nilS p]) (w ++ [p])
  | [], [], _ => by simp only [List.nil_append, okR]; exact ⟨⟨_, .inl rfl, rfl⟩, trivial⟩
  | e :: es, q :: w, h => by
    simp only [okR, List.cons_append] at h ⊢
    exact ⟨h.1, okR_add h.2⟩
  | [], p :: w, h => by simp [okR] at h
  | e :: es, [], h => by simp [okR] at h
theorem okR_bv : ∀ w : List Rp, okR ((w.map Rp.b).map Bn.v) w
  | [] => trivial
  | p :: w => by
    simp only [List.map_cons, okR]
    refine ⟨⟨.lst [], .inr rfl, ?_⟩, okR_bv w⟩
    rw [Rp.b, Bn.v, Ts, List.map_cons, List.map_nil, tv_mk]; rfl
theorem okR_fit {t : Nat} : ∀ {es w}, okR es w → es.all (fitsE Tryz.prog 57) = true
  | [], [], _ => rfl
  | e :: es, p :: w, h => by
    simp only [okR] at h
    obtain ⟨⟨z, hz, rfl⟩, h⟩ := h
    rw [List.all_cons, okR_fit (t := t) h]
    simp [rnZ, fitsE, ty, leafV]
  | [], p :: w, h => by simp [okR] at h
  | e :: es, [], h => by simp [okR] at h
theorem Rpb_inj (p q : Rp) (h : p.b = q.b) : p = q := by
  obtain ⟨x, k, s⟩ := p
  obtain ⟨x', k', s'⟩ := q
  simp only [Rp.b, Bn.mk.injEq, List.cons.injEq, Tm.mk.injEq, and_true] at h
  obtain ⟨h1, h2, h3⟩ := h
  subst h1; subst h2; subst h3; rfl
theorem rpb_inj : ∀ {a b : List Rp}, a.map Rp.b = b.map Rp.b → a = b
  | [], [], _ => rfl
  | [], _ :: _, h => by cases h
  | _ :: _, [], h => by cases h
  | x :: r, y :: t, h => by
    simp only [List.map_cons, List.cons.injEq] at h
    rw [Rpb_inj x y h.1, rpb_inj h.2]
theorem rn_bok {w : List Rp} (hl : w.length ≤ 1000000) (hw : ∀ p ∈ w, rnOk p) : bnsOk (w.map Rp.b) := by
  refine ⟨by simpa using hl, fun b hb => ?_⟩
  obtain ⟨p, hp, rfl⟩ := List.mem_map.1 hb
  obtain ⟨h1, ⟨s0, h2, h3⟩, h4⟩ := hw p hp
  have hs : p.s.length ≤ 40 := by
    unfold rightB at h4
    rcases isV_iff.1 h1 with e | e | e <;> rw [e] at h4 <;> simp at h4 <;> omega
  refine ⟨by have := nm_len ⟨p.k, s0, h1, h2, h3⟩; show p.x.length ≤ _; omega, by simp [Rp.b, szs, szt], ?_⟩
  simp only [Rp.b, txs, txt1]
  exact ⟨⟨by omega, trivial⟩, trivial⟩
structure reOk (a b : List Tm) (w : List Rp) : Prop where
  sa : szs a ≤ 1000000
  sb : szs b ≤ 1000000
  oa : txs a
  ob : txs b
  fa : fms 8 a = true
  fb : fms 8 b = true
  rn : ∀ p ∈ w, rnOk p
  bj : bij w
  ln : w.length + szs a ≤ 1000000
noncomputable def Fren (m : Nat) : List V → Option V := hF (α := List Tm × List Tm × List Rp) (fun p => [Ts p.1, Ts p.2.1, Bs (p.2.2.map Rp.b)]) (fun p => szs p.1 < m ∧ reOk p.1 p.2.1 p.2.2) (fun p => reO (reL p.2.2 p.1 p.2.1))
theorem Fren_eq {m : Nat} {a b : List Tm} {w : List Rp} {es : List V} (h : szs a < m) (hk : reOk a b w) (he : okR es w) : Fren m [Ts a, Ts b, .lst es] = some (reO (reL w a b)) := by
  refine hF_eq (a := (a, b, w)) ?_ (by rw [show cans [Ts a, Ts b, .lst es] = [can (Ts a), can (Ts b), .lst (cans es)] from rfl, can_Ts, can_Ts, okR_can he]) ⟨h, hk⟩
  rintro ⟨a, b, w⟩ ⟨a', b', w'⟩ h
  injection h with h1 h2
  injection h2 with h2 h3
  injection h3 with h3 _
  dsimp only at h1 h2 h3
  have h4 : w.map Rp.b = w'.map Rp.b := Bs_inj h3
  have h5 : w = w' := rpb_inj h4
  rw [Ts_inj h1, Ts_inj h2, h5]
noncomputable abbrev T1049 (m : Nat) : List (FuncId × (List V → Option V)) := [(45, Ffind), (49, Fren m), (59, FisV), (68, FnameV)]
def P1049 (m n : Nat) (v : V) (r : Option (Ex × St)) : Prop := Fin (M1049 (hand (T1049 m)) n) [.tmp 6, .tmp 7] r = some (.ret v)
theorem l1049k {m n k} {P : Option (Ex × St) → Prop} {a b : List Tm} {es : List V} {w : List Rp} (he : okR es w) (hwl : w.length ≤ 1000000) {i : Nat} {kb : Int} {sb : List UInt8} {cb : List Tm} (hb : b[i]? = some (.mk kb sb cb)) :
    ∀ r j n' s, w.drop j = r → r.length < n' → tget s.τ 0 = Ts a → tget s.τ 1 = Ts b → tget s.τ 2 = .lst es → tget s.τ 8 = I i → tget s.τ 13 = I (j : Nat) →
    (usedB r kb sb = false → ∀ s', tget s'.τ 0 = Ts a → tget s'.τ 1 = Ts b → tget s'.τ 2 = .lst es → tget s'.τ 8 = I i → P (X (M1049 (hand (T1049 m)) n) (.exit 2) k s')) →
    (usedB r kb sb = true → ∀ s', tget s'.τ 6 = .nilS → tget s'.τ 7 = .bool false → P (some (.ret, s'))) →
    P (L (M1049 (hand (T1049 m)) n) (sub [1, 1, 0, 1, 0, 0, 1, 0, 0, 1, 1, 1, 1, 1, 0, 1, 0, 0] c1049) n' k s)
  | [], j, n' + 1, s, hi, hn, h0, h1, h2, h8, h13, hx, hy => by
    have hc := inlt (drop_nil' hi)
    rw [← okR_len he] at hc
    rw [L_succ]
    simp only [vmr, vmw, vmp, vza, ↓reduceIte, Nat.reduceBEq, Nat.reduceLT, Nat.reduceAdd, Nat.reduceEqDiff, reduceCtorEq, vmt, vzb, vzc, vlen, vleaf, velems, oks, vst, vmd, ty, Nat.reduceLeDiff, Nat.reduceMul, Nat.reduceSub, c1049, Tryz.f49, m1049, h0, h1, h2, h8, h13, hc]
    refine hx rfl _ ?_ ?_ ?_ ?_
    all_goals simp only [vmr, vmw, vmp, vza, ↓reduceIte, Nat.reduceBEq, Nat.reduceLT, Nat.reduceAdd, Nat.reduceEqDiff, reduceCtorEq, vmt, vzb, vzc, vlen, vleaf, velems, oks, vst, vmd, ty, Nat.reduceLeDiff, Nat.reduceMul, Nat.reduceSub, m1049, h0, h1, h2, h8]
  | p :: r, j, n' + 1, s, hi, hn, h0, h1, h2, h8, h13, hx, hy => by
    obtain ⟨g1, g2, g3⟩ := drop_cons hi
    have hcl := ilt g3
    rw [← okR_len he] at hcl
    obtain ⟨z, hlz, ga⟩ := okR_get he g1
    unfold rnZ at ga
    have gb : (b.map tv)[i]? = some (.agg [I kb, .str sb, Ts cb]) := by rw [List.getElem?_map, hb, Option.map_some, tv_mk]
    have w4 := wsuc g3 (by omega)
    have hd := @d1049_20 (hand (T1049 m)) n
    have ih := fun s => l1049k (m := m) (n := n) (k := k) (P := P) (a := a) he hwl hb r (j + 1) n' s g2 (by simp at hn; omega)
    simp only [sub, c1049, Tryz.f49, gets, opsAt] at ih hd
    have f2 : ∀ (k : Int) (s : List UInt8) (z : V), fitsE Tryz.prog 52 (.agg [I k, .str s, z]) = fitsE Tryz.prog 52 (.agg [I k, .str s, z]) := fun _ _ _ => rfl
    have hu : usedB (p :: r) kb sb = ((p.k == kb && p.s == sb) || usedB r kb sb) := by simp [usedB]
    rw [hu] at hx hy
    rw [L_succ]
    cases q1 : (p.k == kb) with
    | false =>
      rw [q1, Bool.false_and, Bool.false_or] at hx hy
      simp only [vmr, vmw, vmp, vza, ↓reduceIte, Nat.reduceBEq, Nat.reduceLT, Nat.reduceAdd, Nat.reduceEqDiff, reduceCtorEq, vmt, vzb, vzc, vlen, vleaf, velems, oks, vst, vmd, ty, Nat.reduceLeDiff, Nat.reduceMul, Nat.reduceSub, c1049, Tryz.f49, m1049, h0, h1, h2, h8, h13, hcl, ga, gb, w4, hd, hlz, q1, strOp]
      refine ih _ ?_ ?_ ?_ ?_ ?_ hx hy
      all_goals simp only [vmr, vmw, vmp, vza, ↓reduceIte, Nat.reduceBEq, Nat.reduceLT, Nat.reduceAdd, Nat.reduceEqDiff, reduceCtorEq, vmt, vzb, vzc, vlen, vleaf, velems, oks, vst, vmd, ty, Nat.reduceLeDiff, Nat.reduceMul, Nat.reduceSub, m1049, h0, h1, h2, h8]
    | true =>
      cases q2 : (p.s == sb) with
      | false =>
        rw [q1, q2, Bool.and_false, Bool.false_or] at hx hy
        simp only [vmr, vmw, vmp, vza, ↓reduceIte, Nat.reduceBEq, Nat.reduceLT, Nat.reduceAdd, Nat.reduceEqDiff, reduceCtorEq, vmt, vzb, vzc, vlen, vleaf, velems, oks, vst, vmd, ty, Nat.reduceLeDiff, Nat.reduceMul, Nat.reduceSub, c1049, Tryz.f49, m1049, h0, h1, h2, h8, h13, hcl, ga, gb, w4, hd, hlz, q1, q2, strOp]
        refine ih _ ?_ ?_ ?_ ?_ ?_ hx hy
        all_goals simp only [vmr, vmw, vmp, vza, ↓reduceIte, Nat.reduceBEq, Nat.reduceLT, Nat.reduceAdd, Nat.reduceEqDiff, reduceCtorEq, vmt, vzb, vzc, vlen, vleaf, velems, oks, vst, vmd, ty, Nat.reduceLeDiff, Nat.reduceMul, Nat.reduceSub, m1049, h0, h1, h2, h8]
      | true =>
        rw [q1, q2] at hy
        simp only [vmr, vmw, vmp, vza, ↓reduceIte, Nat.reduceBEq, Nat.reduceLT, Nat.reduceAdd, Nat.reduceEqDiff, reduceCtorEq, vmt, vzb, vzc, vlen, vleaf, velems, oks, vst, vmd, ty, Nat.reduceLeDiff, Nat.reduceMul, Nat.reduceSub, c1049, Tryz.f49, m1049, h0, h1, h2, h8, h13, hcl, ga, gb, w4, hd, hlz, q1, q2, strOp]
        refine hy rfl _ ?_ ?_
        all_goals simp only [vmr, vmw, vmp, vza, ↓reduceIte, Nat.reduceBEq, Nat.reduceLT, Nat.reduceAdd, Nat.reduceEqDiff, reduceCtorEq, vmt, vzb, vzc, vlen, vleaf, velems, oks, vst, vmd, ty, Nat.reduceLeDiff, Nat.reduceMul, Nat.reduceSub, m1049]
end Go.Vi
set_option maxRecDepth 100000
set_option maxHeartbeats 1000000
namespace Go.Vi
open Go Go.Proofs
theorem Ffind_R {w : List Rp} {es : List V} {x : List UInt8} (hl : w.length ≤ 1000000) (hw : ∀ p ∈ w, rnOk p) (he : okR es w) : Ffind [.lst es, .str x] = some (findI ((lkT w x).map fun p => [.mk p.k p.s []])) := by
  rw [← findB_re]
  exact hF_eq (a := (w.map Rp.b, x)) (two_inj (fun _ _ => Bs_inj) (fun _ _ => Str_inj)) (by rw [show cans [.lst es, .str x] = [.lst (cans es), .str x] from rfl, okR_can he]) (rn_bok hl hw)
theorem l1049 {m n k} {P : Option (Ex × St) → Prop} {a b : List Tm} (hm : szs a ≤ m) (hsa : szs a ≤ 1000000) (hsb : szs b ≤ 1000000) (hoa : txs a) (hob : txs b) {res : Option (List Rp)} (hnn : 1000000 < n) :
    ∀ r t i es w n' s, a.drop i = r → b.drop i = t → r.length = t.length → r.length < n' → w.length + szs r ≤ 1000000 → fms 8 r = true → fms 8 t = true → okR es w → (∀ p ∈ w, rnOk p) → bij w → tget s.τ 0 = Ts a → tget s.τ 1 = Ts b → tget s.τ 2 = .lst es → tget s.τ 8 = I (i : Nat) → reL w r t = res →
    (res = none → ∀ s', tget s'.τ 6 = .nilS → tget s'.τ 7 = .bool false → P (some (.ret, s'))) →
    (∀ w' es', res = some w' → okR es' w' → ∀ s', tget s'.τ 2 = .lst es' → P (X (M1049 (hand (T1049 m)) n) (.exit 0) k s')) →
    P (L (M1049 (hand (T1049 m)) n) (sub [1, 1, 0, 1, 0, 0] c1049) n' k s)
  | [], [], i, es, w, n' + 1, s, hi, hj, hlen, hn, hw, hfa, hfb, he, hrn, hbj, h0, h1, h2, h8, hres, hy, hx => by
    have hc := inlt (drop_nil' hi)
    rw [reL] at hres
    rw [L_succ]
    simp only [vmr, vmw, vmp, vza, ↓reduceIte, Nat.reduceBEq, Nat.reduceLT, Nat.reduceAdd, Nat.reduceEqDiff, reduceCtorEq, vmt, vzb, vzc, vlen, vleaf, velems, oks, vst, vmd, ty, Nat.reduceLeDiff, Nat.reduceMul, Nat.reduceSub, c1049, Tryz.f49, m1049, h0, h8, hc]
    refine hx w es hres.symm he _ ?_
    simp only [vmr, vmw, vmp, vza, ↓reduceIte, Nat.reduceBEq, Nat.reduceLT, Nat.reduceAdd, Nat.reduceEqDiff, reduceCtorEq, vmt, vzb, vzc, vlen, vleaf, velems, oks, vst, vmd, ty, Nat.reduceLeDiff, Nat.reduceMul, Nat.reduceSub, m1049, h2]
  | .mk k1 s1 c1 :: r, .mk k2 s2 c2 :: t, i, es, w, n' + 1, s, hi, hj, hlen, hn, hw, hfa, hfb, he, hrn, hbj, h0, h1, h2, h8, hres, hy, hx => by
    obtain ⟨g1, g2, g3⟩ := drop_cons hi
    obtain ⟨g4, g5, g6⟩ := drop_cons hj
    have hcl := ilt g3
    have ga : (a.map tv)[i]? = some (.agg [I k1, .str s1, Ts c1]) := by rw [List.getElem?_map, g1, Option.map_some, tv_mk]
    have gb : (b.map tv)[i]? = some (.agg [I k2, .str s2, Ts c2]) := by rw [List.getElem?_map, g4, Option.map_some, tv_mk]
    have hma := List.mem_of_getElem? g1
    have hmb := List.mem_of_getElem? g4
    have hsc := szs_mem (l := a) hma
    have hsc2 := szs_mem (l := b) hmb
    have ho1 := txs_mem hoa hma
    have ho2 := txs_mem hob hmb
    simp only [txt1] at ho1 ho2
    have hlna := szs_len a
    have w4 := wsuc g3 (by omega)
    simp only [fms, Bool.and_eq_true] at hfa hfb
    have hfc := fmt_no hfa.1
    have hfc2 := fmt_no hfb.1
    simp only [szs, szt] at hw
    have hlr := szs_len r
    have e1 := Ftm_eq (f := fun k _ => .bool (isV k)) k1 c1 ho1.1
    have e2 := Ftm_eq (f := fun k s => .str (nameV k s)) k1 c1 ho1.1
    have hd6 := @d1049_6 (hand (T1049 m)) n
    have hd9 := @d1049_9 (hand (T1049 m)) n
    have hd10 := @d1049_10 (hand (T1049 m)) n
    have hd14 := @d1049_14 (hand (T1049 m)) n
    have hd22 := @d1049_22 (hand (T1049 m)) n
    have ih := fun es w s => l1049 (m := m) (n := n) (k := k) (P := P) hm hsa hsb hoa hob (res := res) hnn r t (i + 1) es w n' s g2 g5 (by simpa using hlen) (by simp at hn; omega)
    simp only [sub, c1049, Tryz.f49, gets, opsAt] at ih hd6 hd9 hd10 hd14 hd22
    rw [reL, reT] at hres
    rw [L_succ]
    by_cases q1 : k1 = k2
    case neg =>
      have q1' : (k1 != k2) = true := by simpa using q1
      rw [if_neg q1] at hres
      simp only [vmr, vmw, vmp, vza, ↓reduceIte, Nat.reduceBEq, Nat.reduceLT, Nat.reduceAdd, Nat.reduceEqDiff, reduceCtorEq, vmt, vzb, vzc, vlen, vleaf, velems, oks, vst, vmd, ty, Nat.reduceLeDiff, Nat.reduceMul, Nat.reduceSub, c1049, Tryz.f49, m1049, h0, h1, h2, h8, hcl, ga, gb, hd6, q1']
      refine hy hres.symm _ ?_ ?_
      all_goals simp only [vmr, vmw, vmp, vza, ↓reduceIte, Nat.reduceBEq, Nat.reduceLT, Nat.reduceAdd, Nat.reduceEqDiff, reduceCtorEq, vmt, vzb, vzc, vlen, vleaf, velems, oks, vst, vmd, ty, Nat.reduceLeDiff, Nat.reduceMul, Nat.reduceSub, m1049]
    subst q1
    have q1' : (k1 != k1) = false := by simp
    rw [if_pos rfl] at hres
    cases q2 : isV k1 with
    | false =>
      rw [q2] at e1
      rw [q2, if_neg (by simp)] at hres
      have e3 := Fren_eq (m := m) (a := c1) (b := c2) (w := w) (es := es) (by omega) ⟨by omega, by omega, ho1.2, ho2.2, hfc, hfc2, hrn, hbj, by omega⟩ he
      cases q3 : reL w c1 c2 with
      | none =>
        have hres' : res = none := by
          rw [q3] at hres
          by_cases q4 : s1 = s2
          · rw [if_pos q4] at hres; exact hres.symm
          · rw [if_neg q4] at hres; exact hres.symm
        rw [q3] at e3
        unfold reO at e3
        simp only [vmr, vmw, vmp, vza, ↓reduceIte, Nat.reduceBEq, Nat.reduceLT, Nat.reduceAdd, Nat.reduceEqDiff, reduceCtorEq, vmt, vzb, vzc, vlen, vleaf, velems, oks, vst, vmd, ty, Nat.reduceLeDiff, Nat.reduceMul, Nat.reduceSub, c1049, Tryz.f49, m1049, h0, h1, h2, h8, hcl, ga, gb, hd6, hd9, hd10, q1', e1, e3]
        refine hy hres' _ ?_ ?_
        all_goals simp only [vmr, vmw, vmp, vza, ↓reduceIte, Nat.reduceBEq, Nat.reduceLT, Nat.reduceAdd, Nat.reduceEqDiff, reduceCtorEq, vmt, vzb, vzc, vlen, vleaf, velems, oks, vst, vmd, ty, Nat.reduceLeDiff, Nat.reduceMul, Nat.reduceSub, m1049]
      | some w1 =>
        rw [q3] at e3 hres
        unfold reO at e3
        cases q4 : (s1 == s2) with
        | false =>
          rw [if_neg (by simpa using q4)] at hres
          simp only [vmr, vmw, vmp, vza, ↓reduceIte, Nat.reduceBEq, Nat.reduceLT, Nat.reduceAdd, Nat.reduceEqDiff, reduceCtorEq, vmt, vzb, vzc, vlen, vleaf, velems, oks, vst, vmd, ty, Nat.reduceLeDiff, Nat.reduceMul, Nat.reduceSub, c1049, Tryz.f49, m1049, h0, h1, h2, h8, hcl, ga, gb, hd6, hd9, hd10, q1', e1, e3, q4, strOp]
          refine hy hres.symm _ ?_ ?_
          all_goals simp only [vmr, vmw, vmp, vza, ↓reduceIte, Nat.reduceBEq, Nat.reduceLT, Nat.reduceAdd, Nat.reduceEqDiff, reduceCtorEq, vmt, vzb, vzc, vlen, vleaf, velems, oks, vst, vmd, ty, Nat.reduceLeDiff, Nat.reduceMul, Nat.reduceSub, m1049]
        | true =>
          rw [if_pos (by simpa using q4)] at hres
          have hsz := reL_sz w c1 c2 q3
          simp only [vmr, vmw, vmp, vza, ↓reduceIte, Nat.reduceBEq, Nat.reduceLT, Nat.reduceAdd, Nat.reduceEqDiff, reduceCtorEq, vmt, vzb, vzc, vlen, vleaf, velems, oks, vst, vmd, ty, Nat.reduceLeDiff, Nat.reduceMul, Nat.reduceSub, c1049, Tryz.f49, m1049, h0, h1, h2, h8, hcl, ga, gb, hd6, hd9, hd10, q1', e1, e3, q4, strOp, w4]
          refine ih ((w1.map Rp.b).map Bn.v) w1 _ (by omega) hfa.2 hfb.2 (okR_bv w1) (rn_reL hrn hfc hfc2 q3) (bij_reL hbj hfc hfc2 q3) ?_ ?_ ?_ ?_ hres hy hx
          all_goals simp only [vmr, vmw, vmp, vza, ↓reduceIte, Nat.reduceBEq, Nat.reduceLT, Nat.reduceAdd, Nat.reduceEqDiff, reduceCtorEq, vmt, vzb, vzc, vlen, vleaf, velems, oks, vst, vmd, ty, Nat.reduceLeDiff, Nat.reduceMul, Nat.reduceSub, m1049, h0, h1]
    | true =>
      obtain ⟨hr1, hc1⟩ := fmt_var q2 hfa.1
      obtain ⟨hr2, hc2⟩ := fmt_var q2 hfb.1
      rw [q2] at e1
      rw [q2, if_pos rfl, reV_ref q2 hrn hbj] at hres
      have e3 := Ffind_R (x := nameV k1 s1) (es := es) (w := w) (by omega) hrn he
      cases q3 : lkT w (nameV k1 s1) with
      | some p =>
        rw [q3] at e3 hres
        dsimp only at hres
        simp only [Option.map_some, findI, Ts, List.map_cons, List.map_nil, tv_mk] at e3
        cases q4 : (p.s == s2) with
        | false =>
          rw [if_neg (by simpa using q4)] at hres
          simp only [vmr, vmw, vmp, vza, ↓reduceIte, Nat.reduceBEq, Nat.reduceLT, Nat.reduceAdd, Nat.reduceEqDiff, reduceCtorEq, vmt, vzb, vzc, vlen, vleaf, velems, oks, vst, vmd, ty, Nat.reduceLeDiff, Nat.reduceMul, Nat.reduceSub, c1049, Tryz.f49, m1049, h0, h1, h2, h8, hcl, ga, gb, hd6, hd14, q1', e1, e2, e3, q4, strOp]
          refine hy hres.symm _ ?_ ?_
          all_goals simp only [vmr, vmw, vmp, vza, ↓reduceIte, Nat.reduceBEq, Nat.reduceLT, Nat.reduceAdd, Nat.reduceEqDiff, reduceCtorEq, vmt, vzb, vzc, vlen, vleaf, velems, oks, vst, vmd, ty, Nat.reduceLeDiff, Nat.reduceMul, Nat.reduceSub, m1049]
        | true =>
          rw [if_pos (by simpa using q4)] at hres
          simp only [vmr, vmw, vmp, vza, ↓reduceIte, Nat.reduceBEq, Nat.reduceLT, Nat.reduceAdd, Nat.reduceEqDiff, reduceCtorEq, vmt, vzb, vzc, vlen, vleaf, velems, oks, vst, vmd, ty, Nat.reduceLeDiff, Nat.reduceMul, Nat.reduceSub, c1049, Tryz.f49, m1049, h0, h1, h2, h8, hcl, ga, gb, hd6, hd14, q1', e1, e2, e3, q4, strOp, w4]
          refine ih es w _ (by omega) hfa.2 hfb.2 he hrn hbj ?_ ?_ ?_ ?_ hres hy hx
          all_goals simp only [vmr, vmw, vmp, vza, ↓reduceIte, Nat.reduceBEq, Nat.reduceLT, Nat.reduceAdd, Nat.reduceEqDiff, reduceCtorEq, vmt, vzb, vzc, vlen, vleaf, velems, oks, vst, vmd, ty, Nat.reduceLeDiff, Nat.reduceMul, Nat.reduceSub, m1049, h0, h1, h2]
      | none =>
        rw [q3] at e3 hres
        dsimp only at hres
        simp only [Option.map_none, findI] at e3
        have a2 := fun k2 s => @l1049k m n k2 P a b es w he (by omega) i k1 s2 c2 g4 w 0 n s rfl (by omega)
        simp only [sub, c1049, Tryz.f49, gets, opsAt] at a2
        simp only [vmr, vmw, vmp, vza, ↓reduceIte, Nat.reduceBEq, Nat.reduceLT, Nat.reduceAdd, Nat.reduceEqDiff, reduceCtorEq, vmt, vzb, vzc, vlen, vleaf, velems, oks, vst, vmd, ty, Nat.reduceLeDiff, Nat.reduceMul, Nat.reduceSub, c1049, Tryz.f49, m1049, h0, h1, h2, h8, hcl, ga, gb, hd6, hd14, q1', e1, e2, e3, strOp]
        refine a2 _ _ ?_ ?_ ?_ ?_ ?_ (fun hu s' h0 h1 h2 h8 => ?_) (fun hu s' h6 h7 => ?_)
        case refine_6 =>
          rw [hu, if_neg (by simp)] at hres
          dsimp only at hres
          have hel := okR_len he
          have r1 := @room35 1 (by omega)
          have r2 := @room59 0 (by omega)
          have r3 := @room59 1 (by omega)
          have r4 := @room59 es.length (by omega)
          have r5 := @room59 (es.length + 1) (by omega)
          have f1 := okR_fit (t := 0) he
          have f2 : ∀ (k : Int) (s : List UInt8) (z : V), fitsE Tryz.prog 52 (.agg [I k, .str s, .nilS]) = true := fun k s z => by simp [fitsE, ty, leafV]
          have f3 : ∀ (x : List UInt8) (l : List V), fitsE Tryz.prog 57 (.agg [.str x, .lst l]) = true := fun x l => by simp [fitsE, ty, leafV]
          simp only [vmr, vmw, vmp, vza, ↓reduceIte, Nat.reduceBEq, Nat.reduceLT, Nat.reduceAdd, Nat.reduceEqDiff, reduceCtorEq, vmt, vzb, vzc, vlen, vleaf, velems, oks, vst, vmd, ty, Nat.reduceLeDiff, Nat.reduceMul, Nat.reduceSub, c1049, Tryz.f49, m1049, h0, h1, h2, h8, ga, gb, hd22, e2, r1, r2, r3, r4, r5, f1, f2, f3, w4, List.map_cons, List.map_nil]
          refine ih (es ++ [rnZ .nilS ⟨nameV k1 s1, k1, s2⟩]) (w ++ [⟨nameV k1 s1, k1, s2⟩]) _ (by simp; omega) hfa.2 hfb.2 (okR_add he) (rn_reV hrn q2 hr1 hr2 (w := w) (w' := w ++ [⟨nameV k1 s1, k1, s2⟩]) (by rw [reV_ref q2 hrn hbj, q3]; dsimp only; rw [hu, if_neg (by simp)])) (bij_reV hbj (w := w) (a := nameV k1 s1) (k := k1) (s := s2) (by rw [reV_ref q2 hrn hbj, q3]; dsimp only; rw [hu, if_neg (by simp)])) ?_ ?_ ?_ ?_ hres hy hx
          all_goals simp only [vmr, vmw, vmp, vza, ↓reduceIte, Nat.reduceBEq, Nat.reduceLT, Nat.reduceAdd, Nat.reduceEqDiff, reduceCtorEq, vmt, vzb, vzc, vlen, vleaf, velems, oks, vst, vmd, ty, Nat.reduceLeDiff, Nat.reduceMul, Nat.reduceSub, m1049, h0, h1, h2, rnZ]
        case refine_7 =>
          rw [hu, if_pos rfl] at hres
          exact hy hres.symm _ h6 h7
        all_goals simp only [vmr, vmw, vmp, vza, ↓reduceIte, Nat.reduceBEq, Nat.reduceLT, Nat.reduceAdd, Nat.reduceEqDiff, reduceCtorEq, vmt, vzb, vzc, vlen, vleaf, velems, oks, vst, vmd, ty, Nat.reduceLeDiff, Nat.reduceMul, Nat.reduceSub, m1049, h0, h1, h2, h8]
  | [], _ :: _, i, es, w, n', s, hi, hj, hlen, hn, hw, hfa, hfb, he, hrn, hbj, h0, h1, h2, h8, hres, hy, hx => by simp at hlen
  | _ :: _, [], i, es, w, n', s, hi, hj, hlen, hn, hw, hfa, hfb, he, hrn, hbj, h0, h1, h2, h8, hres, hy, hx => by simp at hlen
theorem w1049 : ∀ (m : Nat) (a b : List Tm) (w : List Rp), szs a ≤ m → reOk a b w → SoundPure Tryz.prog 49 [Ts a, Ts b, Bs (w.map Rp.b)] (.ret (reO (reL w a b))) := by
  intro m
  induction m using Nat.strongRecOn with
  | ind m IH =>
  intro a b w hm hk
  have hH : SoundHand Tryz.prog (hand (T1049 (szs a))) := sound_cons F37_sound (sound_cons (hF_sound fun p hp => IH (szs p.1) (by omega) p.1 p.2.1 p.2.2 (Nat.le_refl _) hp.2) (sound_cons F88_sound (sound_cons F89_sound sound_nil)))
  let Po : Option (Ex × St) → Prop := fun r => ∃ v, pureR v = true ∧ can (imm v) = reO (reL w a b) ∧ P1049 (szs a) 1000001 v r
  have hla := szs_len a
  have hlb := szs_len b
  have hsa := hk.sa
  have hsb := hk.sb
  have key : Po (R (M1049 (hand (T1049 (szs a))) 1000001) c1049 .top ⟨params 0 [Ts a, Ts b, Bs (w.map Rp.b)], [], fun _ => none, 0⟩) := by
    by_cases q1 : a.length = b.length
    case neg =>
      have q1' : ((a.length : Int) != (b.length : Int)) = true := by simp; omega
      rw [show Po = _ from rfl]
      refine ⟨.tup [.nilS, .bool false], rfl, by rw [reL_len w a b q1]; rfl, ?_⟩
      unfold P1049
      simp only [c1049, Tryz.f49, gets, sub]
      simp only [vmr, vmw, vmp, vza, ↓reduceIte, Nat.reduceBEq, Nat.reduceLT, Nat.reduceAdd, Nat.reduceEqDiff, reduceCtorEq, vmt, vzb, vzc, vlen, vleaf, velems, oks, vst, vmd, ty, Nat.reduceLeDiff, Nat.reduceMul, Nat.reduceSub, vzr, m1049, List.length_map, q1']
    have q1' : ((a.length : Int) != (b.length : Int)) = false := by simp; omega
    have a1 := fun k s => @l1049 (szs a) 1000001 k Po a b (Nat.le_refl _) hk.sa hk.sb hk.oa hk.ob (reL w a b) (by omega) a b 0 ((w.map Rp.b).map Bn.v) w 1000001 s rfl rfl q1 (by omega) hk.ln hk.fa hk.fb (okR_bv w) hk.rn hk.bj
    obtain ⟨N, hN⟩ : ∃ N, N = 1000001 := ⟨_, rfl⟩
    have hN' : 1000000 < N := by omega
    unfold Po at a1 ⊢
    rw [← hN] at a1 ⊢
    clear hN
    simp only [c1049, Tryz.f49, gets, sub] at a1 ⊢
    simp only [vmr, vmw, vmp, vza, ↓reduceIte, Nat.reduceBEq, Nat.reduceLT, Nat.reduceAdd, Nat.reduceEqDiff, reduceCtorEq, vmt, vzb, vzc, vlen, vleaf, velems, oks, vst, vmd, ty, Nat.reduceLeDiff, Nat.reduceMul, Nat.reduceSub, m1049, List.length_map, q1']
    refine a1 _ _ ?_ ?_ ?_ ?_ (by first | trivial | rfl) (fun hr s' h6 h7 => ?_) (fun w' es' hr he s' h2 => ?_)
    case refine_5 =>
      refine ⟨.tup [.nilS, .bool false], rfl, by rw [hr]; rfl, ?_⟩
      unfold P1049
      simp only [vmr, vmw, vmp, vza, ↓reduceIte, Nat.reduceBEq, Nat.reduceLT, Nat.reduceAdd, Nat.reduceEqDiff, reduceCtorEq, vmt, vzb, vzc, vlen, vleaf, velems, oks, vst, vmd, ty, Nat.reduceLeDiff, Nat.reduceMul, Nat.reduceSub, vzr, m1049, h6, h7]
    case refine_6 =>
      obtain ⟨i1, i2⟩ := okR_imm he
      refine ⟨.tup [.lst es', .bool true], by simp only [pureR, pureRL, i2, Bool.and_self], ?_, ?_⟩
      · rw [hr]
        show V.tup [V.lst (cans es'), _] = _
        rw [okR_can he]
        rfl
      · simp only [vmr, vmw, vmp, vza, ↓reduceIte, Nat.reduceBEq, Nat.reduceLT, Nat.reduceAdd, Nat.reduceEqDiff, reduceCtorEq, vmt, vzb, vzc, vlen, vleaf, velems, oks, vst, vmd, ty, Nat.reduceLeDiff, Nat.reduceMul, Nat.reduceSub, m1049, h2]
        unfold P1049
        simp only [vmr, vmw, vmp, vza, ↓reduceIte, Nat.reduceBEq, Nat.reduceLT, Nat.reduceAdd, Nat.reduceEqDiff, reduceCtorEq, vmt, vzb, vzc, vlen, vleaf, velems, oks, vst, vmd, ty, Nat.reduceLeDiff, Nat.reduceMul, Nat.reduceSub, vzr, m1049, h2]
    all_goals simp only [vmr, vmw, vmp, vza, ↓reduceIte, Nat.reduceBEq, Nat.reduceLT, Nat.reduceAdd, Nat.reduceEqDiff, reduceCtorEq, vmt, vzb, vzc, vlen, vleaf, velems, oks, vst, vmd, ty, Nat.reduceLeDiff, Nat.reduceMul, Nat.reduceSub, m1049]
    all_goals rfl
  obtain ⟨v, hp, hc, hkk⟩ := key
  have := sound_imm (s1049 hH 1000001 (by simp) hp hkk) hp
  rw [hc] at this
  exact this
noncomputable def F1049 : List V → Option V := hF (α := List Tm × List Tm × List Rp) (fun p => [Ts p.1, Ts p.2.1, Bs (p.2.2.map Rp.b)]) (fun p => reOk p.1 p.2.1 p.2.2) (fun p => reO (reL p.2.2 p.1 p.2.1))
theorem F1049_eq {a b : List Tm} (hk : reOk a b []) : F1049 [Ts a, Ts b, .lst []] = some (reO (reL [] a b)) := by
  refine hF_eq (a := (a, b, [])) ?_ (by rw [show cans [Ts a, Ts b, .lst []] = [can (Ts a), can (Ts b), .lst []] from rfl, can_Ts, can_Ts]; rfl) hk
  rintro ⟨a, b, w⟩ ⟨a', b', w'⟩ h
  injection h with h1 h2
  injection h2 with h2 h3
  injection h3 with h3 _
  dsimp only at h1 h2 h3
  have h4 : w.map Rp.b = w'.map Rp.b := Bs_inj h3
  have h5 : w = w' := rpb_inj h4
  rw [Ts_inj h1, Ts_inj h2, h5]
theorem F1049_sound : ∀ args v, F1049 args = some v → SoundPure Tryz.prog 49 args (.ret v) := hF_sound fun p hp => w1049 _ p.1 p.2.1 p.2.2 (Nat.le_refl _) hp
noncomputable abbrev T1020 : List (FuncId × (List V → Option V)) := [(33, Fres), (49, F1049)]
theorem w1020 (a b : List Tm) (hs : szs a ≤ 1000000) (hs' : szs b ≤ 1000000) (ho : txs a) (ho' : txs b) : SoundPure Tryz.prog 20 [Ts a, Ts b] (.ret (reO (reB a b))) := by
  have hH : SoundHand Tryz.prog (hand T1020) := sound_cons F31_sound (sound_cons F1049_sound sound_nil)
  have e1 := Fres_eq hs ho
  have e2 := Fres_eq hs' ho'
  have n0 : ((0 : Int) != 0) = false := rfl
  unfold reB
  by_cases q1 : errB 8 a = 0
  case neg =>
    have q1' : (errB 8 a != 0) = true := by simpa using q1
    rw [if_neg (fun h => q1 h.1)]
    have : SoundPure Tryz.prog 20 [Ts a, Ts b] (.ret (.tup [.nilS, .bool false])) := by
      refine s1020 hH 1 (by simp) rfl ?_
      simp only [c1020, Tryz.f20, gets, sub]
      simp only [vmr, vmw, vmp, vza, ↓reduceIte, Nat.reduceBEq, Nat.reduceLT, Nat.reduceAdd, Nat.reduceEqDiff, reduceCtorEq, vmt, vzb, vzc, vlen, vleaf, velems, oks, vst, vmd, ty, Nat.reduceLeDiff, Nat.reduceMul, Nat.reduceSub, vzr, callV_s2, m1020, e1, e2, q1']
    exact sound_imm this rfl
  rw [q1] at e1
  by_cases q2 : errB 8 b = 0
  case neg =>
    have q2' : (errB 8 b != 0) = true := by simpa using q2
    rw [if_neg (fun h => q2 h.2)]
    have : SoundPure Tryz.prog 20 [Ts a, Ts b] (.ret (.tup [.nilS, .bool false])) := by
      refine s1020 hH 1 (by simp) rfl ?_
      simp only [c1020, Tryz.f20, gets, sub]
      simp only [vmr, vmw, vmp, vza, ↓reduceIte, Nat.reduceBEq, Nat.reduceLT, Nat.reduceAdd, Nat.reduceEqDiff, reduceCtorEq, vmt, vzb, vzc, vlen, vleaf, velems, oks, vst, vmd, ty, Nat.reduceLeDiff, Nat.reduceMul, Nat.reduceSub, vzr, callV_s2, m1020, e1, e2, n0, q2']
    exact sound_imm this rfl
  rw [q2] at e2
  rw [if_pos ⟨q1, q2⟩]
  obtain ⟨a1, a2, a3⟩ := errB_iff.1 q1
  obtain ⟨b1, b2, b3⟩ := errB_iff.1 q2
  have e3 := F1049_eq (a := a) (b := b) ⟨hs, hs', ho, ho', a3, b3, fun p hp => (by cases hp), bij_nil, by simpa using hs⟩
  have r0 := @room59 0 (by omega)
  have hp : pureR (reO (reL [] a b)) = true := by
    cases reL [] a b with
    | none => rfl
    | some w => simp only [reO, pureR, pureRL, (okR_imm (okR_bv w)).2, Bool.and_self]
  refine s1020 hH 1 (by simp) hp ?_
  simp only [c1020, Tryz.f20, gets, sub]
  generalize reL [] a b = o at e3 hp ⊢
  cases o with
  | none =>
    unfold reO at e3 ⊢
    simp only [vmr, vmw, vmp, vza, ↓reduceIte, Nat.reduceBEq, Nat.reduceLT, Nat.reduceAdd, Nat.reduceEqDiff, reduceCtorEq, vmt, vzb, vzc, vlen, vleaf, velems, oks, vst, vmd, ty, Nat.reduceLeDiff, Nat.reduceMul, Nat.reduceSub, vzr, callV_s2, m1020, e1, e2, n0, e3, r0]
  | some w =>
    unfold reO at e3 ⊢
    simp only [vmr, vmw, vmp, vza, ↓reduceIte, Nat.reduceBEq, Nat.reduceLT, Nat.reduceAdd, Nat.reduceEqDiff, reduceCtorEq, vmt, vzb, vzc, vlen, vleaf, velems, oks, vst, vmd, ty, Nat.reduceLeDiff, Nat.reduceMul, Nat.reduceSub, vzr, callV_s2, m1020, e1, e2, n0, e3, r0]
noncomputable def FreR : List V → Option V := hF (α := List Tm × List Tm) (fun p => [Ts p.1, Ts p.2]) (fun p => szs p.1 ≤ 1000000 ∧ szs p.2 ≤ 1000000 ∧ txs p.1 ∧ txs p.2) (fun p => reO (reB p.1 p.2))
theorem FreR_eq {a b : List Tm} (h1 : szs a ≤ 1000000) (h2 : szs b ≤ 1000000) (h3 : txs a) (h4 : txs b) : FreR [Ts a, Ts b] = some (reO (reB a b)) := hF_eq (a := (a, b)) (two_inj (fun _ _ => Ts_inj) (fun _ _ => Ts_inj)) (by simp only [cans, can_Ts]) ⟨h1, h2, h3, h4⟩
theorem FreR_sound : ∀ args v, FreR args = some v → SoundPure Tryz.prog 20 args (.ret v) := hF_sound fun p hp => w1020 p.1 p.2 hp.1 hp.2.1 hp.2.2.1 hp.2.2.2
end Go.Vi
set_option maxRecDepth 100000
set_option maxHeartbeats 1000000
namespace Go.Vi
open Go Go.Proofs
mutual
theorem tx8_1 : ∀ t, tx8 t → txt1 t
  | .mk k s c, h => by simp only [tx8] at h; simp only [txt1]; exact ⟨by omega, tx8_L c h.2⟩
theorem tx8_L : ∀ l, tx8s l → txs l
  | [], _ => trivial
  | t :: r, h => by simp only [tx8s] at h; exact ⟨tx8_1 t h.1, tx8_L r h.2⟩
end
theorem reO_form {a b : List Tm} (hs : szs a ≤ 1000000) : ∃ (l : List Bn) (ok : Bool), reO (reB a b) = .tup [Bs l, .bool ok] ∧ l.length ≤ 1000000 ∧ ∀ p ∈ l, szs p.e ≤ 1000000 := by
  cases h : reB a b with
  | none => exact ⟨[], false, rfl, by simp, fun p hp => by cases hp⟩
  | some w =>
    refine ⟨w.map Rp.b, true, rfl, ?_, fun p hp => ?_⟩
    · unfold reB at h
      split at h
      · have := reL_sz [] a b h
        simp at this ⊢
        omega
      · cases h
    · obtain ⟨q, hq, rfl⟩ := List.mem_map.1 hp
      simp [Rp.b, szs, szt]
theorem frVi_form {a : List Tm} {m : Int} (hs : szs a ≤ 1000000) : ∃ (x : List Tm) (l : List Bn) (e : Int), frVi a m = .tup [Ts x, Bs l, I e] ∧ szs x ≤ 1000000 ∧ l.length ≤ 1000000 ∧ ∀ p ∈ l, szs p.e ≤ 1000000 := by
  unfold frVi
  by_cases q1 : errB 8 a = 0
  · rw [if_pos q1]
    by_cases q2 : m < 0 ∨ m > 1000000000
    · rw [if_pos q2]
      exact ⟨[], [], 4, rfl, by simp [szs], by simp, fun p hp => by cases hp⟩
    · rw [if_neg q2]
      obtain ⟨g1, g2, g3⟩ := fr_names q1
      refine ⟨_, _, _, rfl, ?_, ?_, fun p hp => ?_⟩
      · rw [(frE_right (by omega) q1).2]; exact hs
      · rw [frL_len]; omega
      · obtain ⟨k, j, h⟩ := frL_e _ _ p hp
        rw [h]; simp [szs, szt]
  · rw [if_neg q1]
    exact ⟨[], [], _, rfl, by simp [szs], by simp, fun p hp => by cases hp⟩
noncomputable abbrev T1005 : List (FuncId × (List V → Option V)) := [(6, F8), (7, F10), (18, F20), (19, F18), (20, FreR), (21, F19i), (22, FfrR), (23, F312), (24, F24), (25, Fnext)]
theorem h1005 : SoundHand Tryz.prog (hand T1005) := sound_cons F8_sound <| sound_cons F10_sound <| sound_cons F20_sound <| sound_cons F18_sound <| sound_cons FreR_sound <| sound_cons F19i_sound <| sound_cons FfrR_sound <| sound_cons F312_sound <| sound_cons F24_sound <| sound_cons F1025_sound sound_nil
theorem w1005 (a b : List Tm) (m : Int) (ho8 : tx8s a) (ho8' : tx8s b) : SoundPure Tryz.prog 5 [Ts a, Ts b, I m] (.ret (.bool true)) := by
  refine s1005 h1005 1 (by simp) rfl ?_
  simp only [c1005, Tryz.f5, gets, sub]
  have ho := tx8_L a ho8
  have ho' := tx8_L b ho8'
  have e1 := F8_eq (a := a) (k := 201) (by omega) (by omega)
  have e2 := F8_eq (a := b) (k := 201) (by omega) (by omega)
  have e0 := F10_eq
  by_cases q1 : lmL 201 0 a > 200
  · have q1' := eq_true q1
    simp only [vmr, vmw, vmp, vza, ↓reduceIte, Nat.reduceBEq, Nat.reduceLT, Nat.reduceAdd, Nat.reduceEqDiff, reduceCtorEq, vmt, vzb, vzc, vlen, vleaf, velems, oks, vst, vmd, ty, Nat.reduceLeDiff, Nat.reduceMul, Nat.reduceSub, vzr, m1005, e1, e0, q1']
  have q1' := eq_false q1
  by_cases q2 : lmL 201 0 b > 200
  · have q2' := eq_true q2
    simp only [vmr, vmw, vmp, vza, ↓reduceIte, Nat.reduceBEq, Nat.reduceLT, Nat.reduceAdd, Nat.reduceEqDiff, reduceCtorEq, vmt, vzb, vzc, vlen, vleaf, velems, oks, vst, vmd, ty, Nat.reduceLeDiff, Nat.reduceMul, Nat.reduceSub, vzr, m1005, e1, e2, e0, q1', q2']
  have q2' := eq_false q2
  have sa := lmL_sz a 201 0 (by omega) (by omega) (by omega)
  have sb := lmL_sz b 201 0 (by omega) (by omega) (by omega)
  have e3 := F18_eq (a := a) (b := b) (by omega) (by omega) ho ho'
  have e4 := FreR_eq (a := a) (b := b) (by omega) (by omega) ho ho'
  have e5 := F19i_eq (e := a) (m := m) (by omega) ho
  have e6 := FfrR_eq (e := a) (m := m) (by omega) ho
  have e7 := F24_eq (a := a) (by omega) ho ho8
  have e8 := Fnext_eq (a := a) (by omega) ho
  obtain ⟨l, ok, h1, h2, h3⟩ := reO_form (a := a) (b := b) (by omega)
  obtain ⟨x, n, e, g1, g2, g3, g4⟩ := frVi_form (a := a) (m := m) (by omega)
  rw [h1] at e3 e4
  rw [g1] at e5 e6
  have e9 := F20_eq (a := l) (b := l) h2 h3
  rw [alB_self] at e9
  have e10 := F20_eq (a := n) (b := n) g3 g4
  rw [alB_self] at e10
  have e11 := F312_eq (a := x) (b := x) g2
  rw [eqB_self] at e11
  have n1 : (ok == ok) = true := by simp
  have n2 : (e == e) = true := by simp
  have n3 : (nxL 1 a == nxL 1 a) = true := by simp
  simp only [vmr, vmw, vmp, vza, ↓reduceIte, Nat.reduceBEq, Nat.reduceLT, Nat.reduceAdd, Nat.reduceEqDiff, reduceCtorEq, vmt, vzb, vzc, vlen, vleaf, velems, oks, vst, vmd, ty, Nat.reduceLeDiff, Nat.reduceMul, Nat.reduceSub, vzr, m1005, e1, e2, e0, q1', q2', e3, e4, e5, e6, e7, e8, e9, e10, e11, n1, n2, n3]
end Go.Vi
set_option maxRecDepth 100000
namespace Go.Vi
open Go Go.Proofs Go.ChangeShapes Go.WideShapes Go.ChangeAt Go.RowKit
theorem own0 : ownKnob Tryz.prog.godebug = none := by kernel_rfl
theorem kids0 : Kids Tryz.prog (· < Tryz.prog.types.size) := kids_rows (by kernel_rfl) (by kernel_rfl)
theorem full0 : ∀ t e, t < Tryz.prog.types.size → Tryz.prog.underlying t = some (.slice e) → 0 < Tryz.prog.cellsOf e := slices_full_of Tryz.prog (by kernel_rfl)
theorem OpS.map {α β : Type} {P : Program} {t : TypeId} {f : α → V} {ok : α → Prop} {m : Nat} (h : OpS P t f ok m) (g : α → β) {f' : β → V} {ok' : β → Prop} (e : ∀ a, f' (g a) = f a) (o : ∀ a, ok a → ok' (g a)) : OpS P t f' ok' m := fun hx hz =>
  let ⟨a, ha, hao⟩ := h hx hz
  ⟨g a, by rw [e]; exact ha, o a hao⟩
theorem cells35 : Tryz.prog.cellsOf 52 = 3 := by kernel_rfl
theorem len_tv (t : Tm) : (cellsV (tv t)).length = Tryz.prog.cellsOf 52 := by cases t; rw [tv_mk, cells35]; rfl
theorem sized_at {H : Type} {ts : List TypeId} {ds : List (DataW H)} (h : (DataW.weightsEach Tryz.prog ts ds).all (· ≤ reachBytes) = true) {j : Nat} {t : TypeId} {d : DataW H} (ht : ts[j]? = some t) (hd : ds[j]? = some d) : ∀ n ∈ d.weights Tryz.prog t, n ≤ reachBytes := fun n hn => by
  have := List.all_eq_true.1 h n (DataW.weights_mem_each ht hd n hn)
  simpa using this
end Go.Vi
set_option maxRecDepth 100000
namespace Go.Vi
open Go Go.Proofs Go.ChangeShapes Go.WideShapes Go.ChangeAt Go.RowKit
theorem tab_of_vars {P : Program} {W : World} {name : String} {k : IntKind} {zs : List Int} {rest : List (String × DataW Unit)} {ps : List MemPlace} {g : Nat} {t e : TypeId} {n : Nat}
    (hg : P.globalNamed name = some g) (hty : (P.globals[g]?).map (·.type) = some t) (ht : P.underlying t = some (.array n e)) (he : P.underlying e = some (.int k)) (hce : P.cellsOf e = 1) (hct : P.cellsOf t = n)
    (h : DataW.LaidVars P W ((name, Lib.tabData k zs) :: rest) ps) : Lib.TabIs P W name k zs := by
  obtain ⟨g', t', cs, fuel, p, q, hg', ht', hvar, hd, _, _⟩ := h
  obtain rfl := Option.some.inj (hg.symm.trans hg')
  obtain rfl := Option.some.inj (hty.symm.trans ht')
  unfold Lib.TabIs
  rw [hvar, ← Lib.cells_of_tab ht he hce hct hd]
theorem vars_tail {P : Program} {W : World} {x : String × DataW Unit} {rest : List (String × DataW Unit)} {ps : List MemPlace} (h : DataW.LaidVars P W (x :: rest) ps) : ∃ q, DataW.LaidVars P W rest q := by
  obtain ⟨n, d⟩ := x
  obtain ⟨g', t', cs, fuel, p, q, hg', ht', hvar, hd, hq, _⟩ := h
  exact ⟨q, hq⟩
theorem cells_of_iface {H : Type} {enc : TypeId × Value → H} {P : Program} {w : World} {base : Nat} {sp : Nat → Bool} {fuel : Nat} {t : TypeId} {ms} {cs : List Value} {nm : String} {d : DataW H} {p : List MemPlace}
    (ht : P.underlying t = some (.interface ms)) (h : DataW.trod enc P w base sp false fuel t cs = some (.iface nm d, p)) : ∃ u v, cs = [.iface u v] := by
  cases fuel with
  | zero => simp [DataW.trod] at h
  | succ fuel =>
    unfold DataW.trod at h
    rw [ht] at h
    split at h <;> first | (simp_all; done) | exact ⟨_, _, rfl⟩
theorem sent_of_vars {P : Program} {W : World} {name nm : String} {d : DataW Unit} {rest : List (String × DataW Unit)} {ps : List MemPlace} {g : Nat} {t : TypeId} {ms}
    (hg : P.globalNamed name = some g) (hty : (P.globals[g]?).map (·.type) = some t) (ht : P.underlying t = some (.interface ms))
    (h : DataW.LaidVars P W ((name, .iface nm d) :: rest) ps) : ∃ u v, W.var? P name = some #[.iface u v] := by
  obtain ⟨g', t', cs, fuel, p, q, hg', ht', hvar, hd, _, _⟩ := h
  obtain rfl := Option.some.inj (hg.symm.trans hg')
  obtain rfl := Option.some.inj (hty.symm.trans ht')
  obtain ⟨u, v, hc⟩ := cells_of_iface ht hd
  refine ⟨u, v, ?_⟩
  rw [hvar]
  congr 1
  cases cs
  simp at hc
  rw [hc]
theorem cells_at {P : Program} {W : World} {name : String} {g : Nat} {cs : Array Value} (hg : P.globalNamed name = some g) (h : W.var? P name = some cs) : g < W.heap.size ∧ ∃ t f, W.heap[g]? = some (.cells cs t f) := by
  unfold World.var? at h
  rw [hg] at h
  simp only [Option.bind_some] at h
  split at h
  · rename_i cs' t f hc
    injection h with h
    subst h
    exact ⟨(Array.getElem?_eq_some_iff.1 hc).1, t, f, hc⟩
  · cases h
theorem globalA : Tryz.prog.globalNamed "strconv.ErrSyntax" = some 1 := by kernel_rfl
theorem globalB : Tryz.prog.globalNamed "strconv.ErrRange" = some 2 := by kernel_rfl
theorem JA_of {W : World} (h : laidMet Tryz.prog YtpibnnopnhmijaaGreatDoor.Rows.applyNamesRow.laid W) : JA W (oldB W) := by
  obtain ⟨ps, hv, _⟩ := h
  obtain ⟨ps, hv⟩ := vars_tail hv
  obtain ⟨ps, hv⟩ := vars_tail hv
  have ht := tab_of_vars (t := 152) (g := 3) (zs := Lib.pow10Tab) (k := .u64) (e := 135) (n := 20) global1 (by kernel_rfl) (by kernel_rfl) (by kernel_rfl) (by kernel_rfl) (by kernel_rfl) hv
  obtain ⟨ps, hv⟩ := vars_tail hv
  obtain ⟨u, v, hs⟩ := sent_of_vars (t := 90) globalB (by kernel_rfl) Tryz.underlying90 hv
  obtain ⟨ps, hv⟩ := vars_tail hv
  obtain ⟨u', v', hs'⟩ := sent_of_vars (t := 90) globalA (by kernel_rfl) Tryz.underlying90 hv
  obtain ⟨a1, t1, f1, c1⟩ := cells_at global1 ht
  obtain ⟨a2, t2, f2, c2⟩ := cells_at globalB hs
  obtain ⟨a3, t3, f3, c3⟩ := cells_at globalA hs'
  intro q hq
  unfold JL at hq
  rcases List.mem_cons.1 hq with rfl | hq
  · exact ⟨a1, _, _, _, c1, rfl⟩
  · rcases List.mem_cons.1 hq with rfl | hq
    · exact ⟨a3, _, _, _, c3, _, rfl, .inr ⟨_, _, rfl⟩⟩
    · obtain rfl := List.mem_singleton.1 hq
      exact ⟨a2, _, _, _, c2, _, rfl, .inr ⟨_, _, rfl⟩⟩
theorem tx8_of : ∀ {l : List Tm}, (∀ t ∈ l, tx8 t) → tx8s l
  | [], _ => trivial
  | x :: r, h => ⟨h x (by simp), tx8_of fun t ht => h t (by simp [ht])⟩
theorem opT8 : ∀ m, OpS Tryz.prog 52 tv tx8 m ∧ OpS Tryz.prog 22 (fun l : List Tm => V.lst (l.map tv)) tx8s m := by
  intro m
  induction m using Nat.strongRecOn with
  | ind m IH =>
  refine ⟨?_, ?_⟩
  · refine OpS.map (opS_struct Tryz.underlying52 (fun n hn => opSF_cons rfl (opS_int Tryz.underlying3) (opSF_cons (by kernel_rfl) (opS_str Tryz.underlying9) (opSF_cons (by kernel_rfl) (IH n hn).2 opSF_nil))) (by kernel_rfl)) (fun b => Tm.mk b.1 b.2.1 b.2.2.1) (fun b => ?_) (fun b h => ?_)
    · rw [tv_mk]; rfl
    · exact ⟨Nat.le_trans h.2.1 (by unfold reachBytes; omega), h.2.2.1⟩
  · exact OpS.map (opS_slice Tryz.underlying22 (fun n hn => (IH n hn).1) len_tv (by rw [cells35]; decide)) id (fun _ => rfl) (fun l h => tx8_of h)
theorem argT8 {H : Type} {enc : TypeId × Value → H} {w : World} {base : Nat} {v : Value} {d : DataW H} {p : List MemPlace} (hv : Value.okWide Tryz.prog w .any base 22 v) (h : DataW.Trod enc Tryz.prog w 0 (fun _ => true) true 22 v d p) (hz : ∀ n ∈ d.weights Tryz.prog 22, n ≤ reachBytes) : ∃ l : List Tm, PC w (oldB w) (Ts l) v ∧ tx8s l :=
  argS_slice Tryz.underlying22 (fun m => (opT8 m).2) hv h hz
theorem arg_int2 {H : Type} {enc : TypeId × Value → H} {P : Program} {t : TypeId} {k : IntKind} {w : World} {base : Nat} {v : Value} {d : DataW H} {p : List MemPlace} (ht : P.underlying t = some (.int k)) (hv : Value.okWide P w .any base t v) (h : DataW.Trod enc P w 0 (fun _ => true) true t v d p) :
    ∃ n, PC w (oldB w) (.int k n) v ∧ k.min ≤ n ∧ n ≤ k.max := by
  obtain ⟨n, rfl, _, _, hw⟩ := open_int ht hv h
  simp only [Lit.wf, Bool.and_eq_true, decide_eq_true_eq] at hw
  exact ⟨n, by simp [PC], hw.1, hw.2⟩
theorem contract5 (H : Type) (enc : TypeId × Value → H) (W : World) (base : Nat) (args : Array Value) (ds gs : List (DataW H)) (before : List MemPlace)
    (hval : ∀ (j : Nat) t v, Tryz.f5.params[j]? = some t → args[j]? = some v → Value.okWide Tryz.prog W .any base t v)
    (hW : DataW.Whole enc Tryz.prog Tryz.f5.params.toList YtpibnnopnhmijaaGreatDoor.Rows.applyNamesSpec.vars false W args.toList ds gs before)
    (hsz : (DataW.weightsEach Tryz.prog (Tryz.f5.params.toList ++ (OpenSpec.ofChange YtpibnnopnhmijaaGreatDoor.Rows.applyNamesSpec).bare.plain.varTypes Tryz.prog) (ds ++ gs)).all (· ≤ reachBytes) = true) (hL : laidMet Tryz.prog YtpibnnopnhmijaaGreatDoor.Rows.applyNamesRow.laid W) :
    Calls Tryz.prog 5 args W fun e W' => ∃ v, e = .returned v ∧ YtpibnnopnhmijaaGreatDoor.Rows.applyNamesSpec.post enc Tryz.prog Tryz.f5 false true false false W args v W' := by
  have hW' := hW
  obtain ⟨p, q, hA0, hV, rfl, hfz, hnd⟩ := hW
  have hA : DataW.TrodAll enc Tryz.prog W 0 (fun _ => true) true Tryz.f5.params.toList args.toList ds p := hA0
  rw [Tryz.params5] at hA hval hsz
  obtain ⟨v0, vs0, d0, ds0, p0, q0, e0, rfl, rfl, h0, hA⟩ := trodAll_cons hA
  obtain ⟨v1, vs1, d1, ds1, p1, q1, rfl, rfl, rfl, h1, hA⟩ := trodAll_cons hA
  obtain ⟨v2, vs2, d2, ds2, p2, q2, rfl, rfl, rfl, h2, hA⟩ := trodAll_cons hA
  obtain ⟨rfl, rfl, rfl⟩ := trodAll_nil hA
  obtain rfl : args = #[v0, v1, v2] := by cases args; simp_all
  obtain ⟨rfl, rfl⟩ := trodVars_none hV
  obtain ⟨x, hx, hxo⟩ := argT8 (hval 0 22 v0 rfl rfl) h0 (sized_at hsz (j := 0) rfl rfl)
  obtain ⟨y, hy, hyo⟩ := argT8 (hval 1 22 v1 rfl rfl) h1 (sized_at hsz (j := 1) rfl rfl)
  obtain ⟨z, hz, ha2, hb2⟩ := arg_int2 Tryz.underlying3 (hval 2 3 v2 rfl rfl) h2
  refine (w1005 x y z hxo hyo W (oldB W) #[v0, v1, v2] (JA_of hL) (fun _ h => h) ?_).mono fun e W' he => ?_
  · simp only [PCs]
    exact ⟨_, _, rfl, hx, _, _, rfl, hy, _, _, rfl, hz, rfl⟩
  · exact law_post kids0 full0 (by rw [Tryz.params5]; decide +kernel) rfl (by kernel_rfl) Tryz.underlying4 hW' rfl he
def lit1 : DataW Unit → List Value
  | .lit (.int k n) => [.int k n]
  | _ => []
def lit2 : DataW Unit → List Value
  | .agg es => es.flatMap lit1
  | d => lit1 d
def lits : DataW Unit → Array Value
  | .agg ds => (ds.flatMap lit2).toArray
  | _ => #[]
def setCells (cs : Array Value) : Go.Obj → Go.Obj
  | .cells _ t frozen => .cells cs t frozen
  | o => o
def strLit : DataW Unit → Array Value
  | .iface _ (.ptr (.agg [.lit (.string s)])) => #[.string ⟨s.toArray⟩]
  | _ => #[]
noncomputable def heap0 (os : Os) : Array Go.Obj := (World.holding Tryz.prog os ⟨#[], #[], []⟩).heap
noncomputable def laidWorld (os : Os) : World :=
  { World.holding Tryz.prog os ⟨#[], #[], []⟩ with
    heap := (((((((heap0 os).modify 3 (setCells (lits YtpibnnopnhmijaaGreatDoor.Rows.laid_internal_strconv_uint64pow10))).modify 4 (setCells (lits YtpibnnopnhmijaaGreatDoor.Rows.laid_math_bits_deBruijn32tab))).modify 5 (setCells (lits YtpibnnopnhmijaaGreatDoor.Rows.laid_math_bits_deBruijn64tab))).modify 2 (setCells #[.iface 157 (.pointer (some ⟨(heap0 os).size, 0, none⟩))])).modify 1 (setCells #[.iface 157 (.pointer (some ⟨(heap0 os).size + 1, 0, none⟩))])).push (.cells (strLit YtpibnnopnhmijaaGreatDoor.Rows.laid_strconv_ErrRange) 159 (0, 0))).push (.cells (strLit YtpibnnopnhmijaaGreatDoor.Rows.laid_strconv_ErrSyntax) 159 (0, 0)) }
theorem laid_met (os : Os) : laidMet Tryz.prog YtpibnnopnhmijaaGreatDoor.Rows.applyNamesRow.laid ((laidWorld os).forCall (fun _ _ => 0) ⟨#[], #[.slice none 0 0, .slice none 0 0, .int .i64 0], []⟩).memory :=
  laidMet_of_run' 8 (by kernel_rfl) (by kernel_rfl)
theorem reads (os : Os) {H : Type} (enc : TypeId × Value → H) : ∃ places, DataW.whole enc Tryz.prog ((laidWorld os).forCall (fun _ _ => 0) ⟨#[], #[.slice none 0 0, .slice none 0 0, .int .i64 0], []⟩).memory Tryz.f5.params.toList YtpibnnopnhmijaaGreatDoor.Rows.applyNamesSpec.vars false #[Value.slice none 0 0, Value.slice none 0 0, Value.int .i64 0].toList 8 = some ([.nil, .nil, .lit (.int .i64 0)], [], places) :=
  ⟨[], by kernel_rfl⟩
set_option maxRecDepth 100000 in
theorem lifted5 (os : Os) (started : os.Started) (H : Type) (enc : TypeId × Value → H) (F : Stop.Interp) :
    ReturnsInHanded {} Tryz.checked os 5 .any ((OpenSpec.ofChange YtpibnnopnhmijaaGreatDoor.Rows.applyNamesSpec).preRow enc Tryz.prog Tryz.f5 YtpibnnopnhmijaaGreatDoor.Rows.applyNamesRow.domain false YtpibnnopnhmijaaGreatDoor.Rows.applyNamesRow.laid) (((OpenSpec.ofChange YtpibnnopnhmijaaGreatDoor.Rows.applyNamesSpec).at F).post enc Tryz.prog Tryz.f5 false true false false) := by
  obtain ⟨places, hx⟩ := reads os enc
  refine returnsInHanded_of_row (C := Tryz.checked) (s := OpenSpec.ofChange YtpibnnopnhmijaaGreatDoor.Rows.applyNamesSpec) own0 started (by kernel_rfl) Tryz.func5
    (witness_row_at (enc := enc) (C := Tryz.checked) false (laidWorld os) #[.slice none 0 0, .slice none 0 0, .int .i64 0] rfl (by kernel_rfl) (by kernel_rfl) (by kernel_rfl)
      (OpenSpec.preRow_of_cond 8 hx (by kernel_rfl) (fun k hk => by cases hk) (by kernel_rfl) (laid_met os))) ?_
  intro W base args ds gs before hval hW _ _ hsz hL _ _
  exact contract5 H enc W base args ds gs before hval hW hsz hL
end Go.Vi
namespace Go.Proofs.YtpibnnopnhmijaaGreatDoor
open Go.Vi
theorem said5 : Rows.ApplyNamesSaid :=
  OpenClaim.holds_of_cond 5 Tryz.f5 rfl rfl rfl rfl rfl rfl rfl ⟨rfl, rfl, rfl, rfl, rfl⟩ rfl rfl rfl rfl rfl (by kernel_rfl) Tryz.func5 (by kernel_rfl)
    (of_decide_eq_true (by kernel_rfl)) (by unfold Func.isWrapper; first | (rw [if_pos (by decide +kernel)]; kernel_rfl) | (rw [if_neg (by decide +kernel)]; exact ⟨rfl, rfl⟩))
    (fun os started H enc _ F => by rw [OpenClaim.pre_eq_preRow]; exact lifted5 os started H enc F)
theorem plain5 (f : FuncId) (fn : Func) (hf : Tryz.pinned.checked.prog.funcNamed "chiasmus/chiasmuslaw07.ApplyNames" = some f) (hfn : Tryz.pinned.checked.prog.funcs[f]? = some fn) :
    true = Tryz.pinned.checked.prog.looks [] ∧ ∀ (j : Nat) t, fn.params[j]? = some t → Tryz.pinned.checked.prog.wantsStandIn t = false := by
  obtain rfl : f = 5 := Option.some.inj ((show Tryz.prog.funcNamed "chiasmus/chiasmuslaw07.ApplyNames" = some 5 by kernel_rfl).symm.trans hf) |>.symm
  obtain rfl : fn = Tryz.f5 := (Option.some.inj (Tryz.func5.symm.trans hfn)).symm
  refine ⟨by kernel_rfl, fun j t ht => ?_⟩
  rw [Tryz.params5] at ht
  have hm : t = 22 ∨ t = 3 := by
    have := Array.mem_of_getElem? ht
    simp at this
    omega
  rcases hm with rfl | rfl
  · exact (show Tryz.prog.wantsStandIn 22 = false by kernel_rfl)
  · exact (show Tryz.prog.wantsStandIn 3 = false by kernel_rfl)
theorem applyNames_holds : Rows.ApplyNamesCardSaid :=
  Claim7.holds_tied_plain_at .later [] _ _ _ _ said5 (fun _ h => by cases h) (by kernel_rfl) (fun _ h => by cases h) applyNames_row_tie rfl ⟨rfl, rfl⟩ (by kernel_rfl) rfl plain5 (by kernel_rfl)
#print axioms applyNames_holds
end Go.Proofs.YtpibnnopnhmijaaGreatDoor
