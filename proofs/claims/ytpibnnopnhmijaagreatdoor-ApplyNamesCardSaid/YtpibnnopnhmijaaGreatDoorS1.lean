/-
  The law ApplyTo.
-/
import Derived.Test.YtpibnnopnhmijaaGreatDoorRE
import Derived.Test.YtpibnnopnhmijaaGreatDoorRB
import Derived.Test.YtpibnnopnhmijaaGreatDoorRC
import Derived.Test.YtpibnnopnhmijaaGreatDoorRD
import Derived.Test.YtpibnnopnhmijaaGreatDoorRA
set_option linter.unusedSimpArgs false
set_option linter.unusedVariables false
set_option maxRecDepth 100000
set_option maxHeartbeats 1000000
namespace Go.Vi
open Go Go.Proofs
mutual
theorem lmT_sz : ∀ (t : Tm) (most n : Int), 0 ≤ n → n + 1 ≤ most → lmT most n t ≤ most → lmT most n t = n + szt t
  | .mk k s c, most, n, h0, h1, h => by
    simp only [lmT] at h ⊢
    have := lmL_sz c (most - (n + 1)) 0 (by omega) (by omega) (by omega)
    rw [this]
    simp only [szt]
    omega
theorem lmL_sz : ∀ (l : List Tm) (most n : Int), 0 ≤ most → 0 ≤ n → lmL most n l ≤ most → lmL most n l = n + szs l
  | [], most, n, h0, h1, h => by simp only [lmL, szs]; omega
  | t :: r, most, n, h0, h1, h => by
    simp only [lmL] at h ⊢
    by_cases q : n + 1 > most
    · rw [if_pos q] at h; omega
    · rw [if_neg q] at h ⊢
      obtain ⟨b1, b2⟩ := szT_le t most n h1 (by omega)
      obtain ⟨b3, b4⟩ := szL_le r most (lmT most n t) h0 (by omega)
      rw [lmL_sz r most _ h0 (by omega) h, lmT_sz t most n h1 (by omega) (by omega)]
      simp only [szs]
      omega
end
end Go.Vi
set_option maxRecDepth 100000
set_option maxHeartbeats 1000000
namespace Go.Vi
open Go Go.Proofs
abbrev bnv (x : List UInt8) (e : List Tm) : V := .agg [.str x, Ts e]
theorem can_bnv (x : List UInt8) (e : List Tm) : can (bnv x e) = bnv x e := by show V.agg [.str x, can (Ts e)] = _; rw [can_Ts]
theorem bnv_inj {a b : Bn} (h : bnv a.x a.e = bnv b.x b.e) : a = b := Bn.v_inj a b h
theorem bn_get {a : List Bn} {i : Nat} {b : Bn} (h : a[i]? = some b) : (a.map Bn.v)[i]? = some (bnv b.x b.e) := by rw [List.getElem?_map, h, Option.map_some, Bn.v]
def alB1 (p q : Bn) : Bool := p.x == q.x && eqB p.e q.e
def alB : List Bn → List Bn → Bool
  | [], [] => true
  | p :: r, q :: t => alB1 p q && alB r t
  | _, _ => false
theorem w46 (p q : Bn) (h : szs p.e ≤ 1000000) : SoundPure Tryz.prog 47 [bnv p.x p.e, bnv q.x q.e] (.ret (.bool (alB1 p q))) := by
  refine s746 (H := [(23, F312)]) (sound_cons F312_sound sound_nil) 1 (by simp) rfl ?_
  simp only [c746, Tryz.f47, gets, sub]
  have e := F312_eq (a := p.e) (b := q.e) h
  unfold alB1
  cases hq : p.x == q.x with
  | true => simp only [vmr, vmw, vmp, vza, ↓reduceIte, Nat.reduceBEq, Nat.reduceLT, Nat.reduceAdd, Nat.reduceEqDiff, reduceCtorEq, vmt, vzb, vzc, vlen, vleaf, velems, oks, vst, vmd, ty, Nat.reduceLeDiff, Nat.reduceMul, Nat.reduceSub, vzr, m746, strOp, hq, e]
  | false => simp only [vmr, vmw, vmp, vza, ↓reduceIte, Nat.reduceBEq, Nat.reduceLT, Nat.reduceAdd, Nat.reduceEqDiff, reduceCtorEq, vmt, vzb, vzc, vlen, vleaf, velems, oks, vst, vmd, ty, Nat.reduceLeDiff, Nat.reduceMul, Nat.reduceSub, vzr, m746, strOp, hq]
noncomputable def F46 : List V → Option V := hF (α := Bn × Bn) (fun p => [bnv p.1.x p.1.e, bnv p.2.x p.2.e]) (fun p => szs p.1.e ≤ 1000000) (fun p => .bool (alB1 p.1 p.2))
theorem F46_eq {p q : Bn} (h : szs p.e ≤ 1000000) : F46 [bnv p.x p.e, bnv q.x q.e] = some (.bool (alB1 p q)) :=
  hF_eq (a := (p, q)) (two_inj (fun _ _ => bnv_inj) (fun _ _ => bnv_inj)) (by simp only [cans, can_bnv]) h
theorem F46_sound : ∀ args v, F46 args = some v → SoundPure Tryz.prog 47 args (.ret v) := hF_sound fun p hp => w46 p.1 p.2 hp
abbrev fn46 : V := .fn (.func 47) [] []
def P745 (n : Nat) (v : V) (r : Option (Ex × St)) : Prop := Fin (M745 (hand [(47, F46)]) n) [.tmp 6] r = some (.ret v)
theorem l745 {n k v} (a b : List Bn) (ha : a.length ≤ 1000000) (hb : ∀ p ∈ a, szs p.e ≤ 1000000) : ∀ r t i n' s, a.drop i = r → b.drop i = t → r.length = t.length → r.length < n' → tget s.τ 1 = Bs b → tget s.τ 2 = fn46 → tget s.τ 15 = Bs a → tget s.τ 16 = I a.length → tget s.τ 17 = I (i : Nat) →
    V.bool (alB r t) = v → (∀ s', V.bool true = v → P745 n v (X (M745 (hand [(47, F46)]) n) (.exit 0) k s')) →
    P745 n v (L (M745 (hand [(47, F46)]) n) (sub [1, 1, 0, 1, 0, 0] c745) n' k s)
  | [], [], i, n' + 1, s, hi, hj, hl, hn, h1, h2, h15, h16, h17, hv, hx => by
    have hc := inlt (drop_nil' hi)
    rw [L_succ]
    simp only [vmr, vmw, vmp, vza, ↓reduceIte, Nat.reduceBEq, Nat.reduceLT, Nat.reduceAdd, Nat.reduceEqDiff, reduceCtorEq, vmt, vzb, vzc, vlen, vleaf, velems, oks, vst, vmd, ty, Nat.reduceLeDiff, Nat.reduceMul, Nat.reduceSub, c745, Tryz.f46, m745, h15, h16, h17, hc]
    exact hx _ hv
  | p :: r, q :: t, i, n' + 1, s, hi, hj, hl, hn, h1, h2, h15, h16, h17, hv, hx => by
    obtain ⟨g1, g2, g3⟩ := drop_cons hi
    obtain ⟨g4, g5, g6⟩ := drop_cons hj
    have hcl := ilt g3
    have ga := bn_get g1
    have gb := bn_get g4
    have w4 := wsuc g3 (by omega)
    have e := F46_eq (p := p) (q := q) (hb p (List.mem_of_getElem? g1))
    have ih := fun s => l745 (n := n) (k := k) (v := v) a b ha hb r t (i + 1) n' s g2 g5 (by simpa using hl) (by simp at hn; omega)
    simp only [sub, c745, Tryz.f46, gets] at ih
    rw [L_succ]
    rw [alB] at hv
    cases hq : alB1 p q with
    | true =>
      rw [hq] at e hv
      simp only [vmr, vmw, vmp, vza, ↓reduceIte, Nat.reduceBEq, Nat.reduceLT, Nat.reduceAdd, Nat.reduceEqDiff, reduceCtorEq, vmt, vzb, vzc, vlen, vleaf, velems, oks, vst, vmd, ty, Nat.reduceLeDiff, Nat.reduceMul, Nat.reduceSub, c745, Tryz.f46, m745, h1, h2, h15, h16, h17, hcl, ga, gb, w4, e]
      refine ih _ ?_ ?_ ?_ ?_ ?_ hv hx
      all_goals simp only [vmr, vmw, vmp, vza, ↓reduceIte, Nat.reduceBEq, Nat.reduceLT, Nat.reduceAdd, Nat.reduceEqDiff, reduceCtorEq, vmt, vzb, vzc, vlen, vleaf, velems, oks, vst, vmd, ty, Nat.reduceLeDiff, Nat.reduceMul, Nat.reduceSub, m745, h1, h2, h15, h16]
    | false =>
      rw [hq] at e hv
      rw [← hv]
      simp only [vmr, vmw, vmp, vza, ↓reduceIte, Nat.reduceBEq, Nat.reduceLT, Nat.reduceAdd, Nat.reduceEqDiff, reduceCtorEq, vmt, vzb, vzc, vlen, vleaf, velems, oks, vst, vmd, ty, Nat.reduceLeDiff, Nat.reduceMul, Nat.reduceSub, c745, Tryz.f46, m745, h1, h2, h15, h16, h17, hcl, ga, gb, w4, e]
      unfold P745
      simp only [vmr, vmw, vmp, vza, ↓reduceIte, Nat.reduceBEq, Nat.reduceLT, Nat.reduceAdd, Nat.reduceEqDiff, reduceCtorEq, vmt, vzb, vzc, vlen, vleaf, velems, oks, vst, vmd, ty, Nat.reduceLeDiff, Nat.reduceMul, Nat.reduceSub, vzr, m745]
theorem alB_len : ∀ {a b : List Bn}, a.length ≠ b.length → alB a b = false
  | [], [], h => absurd rfl h
  | [], _ :: _, _ => rfl
  | _ :: _, [], _ => rfl
  | p :: r, q :: t, h => by rw [alB, alB_len (by simpa using h), Bool.and_false]
theorem w45 (a b : List Bn) (ha : a.length ≤ 1000000) (hb : ∀ p ∈ a, szs p.e ≤ 1000000) : SoundPure Tryz.prog 46 [Bs a, Bs b, fn46] (.ret (.bool (alB a b))) := by
  refine s745 (H := [(47, F46)]) (sound_cons F46_sound sound_nil) (a.length + 1) (by simp) rfl ?_
  by_cases hl : a.length = b.length
  · have q : ((a.length : Int) != (b.length : Int)) = false := by simp [hl]
    show P745 _ _ _
    have a1 := fun k s => @l745 (a.length + 1) k (.bool (alB a b)) a b ha hb a b 0 (a.length + 1) s rfl rfl hl (by omega)
    simp only [c745, Tryz.f46, gets, sub] at a1 ⊢
    simp only [vmr, vmw, vmp, vza, ↓reduceIte, Nat.reduceBEq, Nat.reduceLT, Nat.reduceAdd, Nat.reduceEqDiff, reduceCtorEq, vmt, vzb, vzc, vlen, vleaf, velems, oks, vst, vmd, ty, Nat.reduceLeDiff, Nat.reduceMul, Nat.reduceSub, m745, q]
    refine a1 _ _ ?_ ?_ ?_ ?_ ?_ (by first | trivial | rfl) (fun s' e => ?_)
    case refine_6 =>
      simp only [vmr, vmw, vmp, vza, ↓reduceIte, Nat.reduceBEq, Nat.reduceLT, Nat.reduceAdd, Nat.reduceEqDiff, reduceCtorEq, vmt, vzb, vzc, vlen, vleaf, velems, oks, vst, vmd, ty, Nat.reduceLeDiff, Nat.reduceMul, Nat.reduceSub, m745]
      unfold P745
      simp only [vmr, vmw, vmp, vza, ↓reduceIte, Nat.reduceBEq, Nat.reduceLT, Nat.reduceAdd, Nat.reduceEqDiff, reduceCtorEq, vmt, vzb, vzc, vlen, vleaf, velems, oks, vst, vmd, ty, Nat.reduceLeDiff, Nat.reduceMul, Nat.reduceSub, vzr, m745, e]
    all_goals simp only [vmr, vmw, vmp, vza, ↓reduceIte, Nat.reduceBEq, Nat.reduceLT, Nat.reduceAdd, Nat.reduceEqDiff, reduceCtorEq, vmt, vzb, vzc, vlen, vleaf, velems, oks, vst, vmd, ty, Nat.reduceLeDiff, Nat.reduceMul, Nat.reduceSub, m745]
  · have q : ((a.length : Int) != (b.length : Int)) = true := by simp; omega
    rw [alB_len hl]
    simp only [c745, Tryz.f46, gets, sub]
    simp only [vmr, vmw, vmp, vza, ↓reduceIte, Nat.reduceBEq, Nat.reduceLT, Nat.reduceAdd, Nat.reduceEqDiff, reduceCtorEq, vmt, vzb, vzc, vlen, vleaf, velems, oks, vst, vmd, ty, Nat.reduceLeDiff, Nat.reduceMul, Nat.reduceSub, vzr, m745, q]
noncomputable def F45 : List V → Option V := hF (α := List Bn × List Bn) (fun p => [Bs p.1, Bs p.2, fn46]) (fun p => p.1.length ≤ 1000000 ∧ ∀ q ∈ p.1, szs q.e ≤ 1000000) (fun p => .bool (alB p.1 p.2))
theorem F45_eq {a b : List Bn} (ha : a.length ≤ 1000000) (hb : ∀ p ∈ a, szs p.e ≤ 1000000) : F45 [Bs a, Bs b, fn46] = some (.bool (alB a b)) :=
  hF_eq (a := (a, b)) (fun a b h => by
    injection h with h1 h2
    injection h2 with h2
    exact Prod.ext (Bs_inj h1) (Bs_inj h2)) (by simp only [cans, can_Bs]; rfl) ⟨ha, hb⟩
theorem F45_sound : ∀ args v, F45 args = some v → SoundPure Tryz.prog 46 args (.ret v) := hF_sound fun p hp => w45 p.1 p.2 hp.1 hp.2
theorem w20 (a b : List Bn) (ha : a.length ≤ 1000000) (hb : ∀ p ∈ a, szs p.e ≤ 1000000) : SoundPure Tryz.prog 18 [Bs a, Bs b] (.ret (.bool (alB a b))) := by
  refine s720 (H := [(46, F45)]) (sound_cons F45_sound sound_nil) 1 (by simp) rfl ?_
  simp only [c720, Tryz.f18, gets, sub]
  have e := F45_eq (b := b) ha hb
  simp only [vmr, vmw, vmp, vza, ↓reduceIte, Nat.reduceBEq, Nat.reduceLT, Nat.reduceAdd, Nat.reduceEqDiff, reduceCtorEq, vmt, vzb, vzc, vlen, vleaf, velems, oks, vst, vmd, ty, Nat.reduceLeDiff, Nat.reduceMul, Nat.reduceSub, vzr, m720, e]
noncomputable def F20 : List V → Option V := hF (α := List Bn × List Bn) (fun p => [Bs p.1, Bs p.2]) (fun p => p.1.length ≤ 1000000 ∧ ∀ q ∈ p.1, szs q.e ≤ 1000000) (fun p => .bool (alB p.1 p.2))
theorem F20_eq {a b : List Bn} (ha : a.length ≤ 1000000) (hb : ∀ p ∈ a, szs p.e ≤ 1000000) : F20 [Bs a, Bs b] = some (.bool (alB a b)) :=
  hF_eq (a := (a, b)) (two_inj (fun _ _ => Bs_inj) (fun _ _ => Bs_inj)) (by simp only [cans, can_Bs]) ⟨ha, hb⟩
theorem F20_sound : ∀ args v, F20 args = some v → SoundPure Tryz.prog 18 args (.ret v) := hF_sound fun p hp => w20 p.1 p.2 hp.1 hp.2
theorem alB_self : ∀ a : List Bn, alB a a = true
  | [] => rfl
  | p :: r => by rw [alB, alB_self r, alB1, eqB_self]; simp
end Go.Vi
set_option maxRecDepth 100000
set_option maxHeartbeats 1000000
namespace Go.Vi
open Go Go.Proofs
theorem room59 {n : Nat} (h : n ≤ 2000000) : roomOk Tryz.prog 57 n = true := by simp [roomOk, ty, cellsV, leafV]; omega
def A21 (s : St) (d : List Bn) : Prop := ∃ v8 sz, (sz = 2 ∨ sz = 0) ∧ tget s.τ 8 = .ref ⟨0, 8, 0⟩ v8 0 d.length ∧ lget s.L (8, 0) = some (v8, .arr sz (d.map Bn.v))
theorem A21.of {s d} (h : tget s.τ 8 = .ref ⟨0, 8, 0⟩ (ver s (8, 0)) 0 d.length) (h' : lget s.L (8, 0) = some (ver s (8, 0), .arr 2 (d.map Bn.v))) : A21 s d := ⟨_, 2, .inl rfl, h, h'⟩
end Go.Vi
set_option maxRecDepth 100000
set_option maxHeartbeats 1000000
namespace Go.Vi
open Go Go.Proofs
theorem imm_bv (b : Bn) : imm b.v = b.v := rfl
theorem pureLB : ∀ l : List Bn, pureRL (l.map Bn.v) = true
  | [] => rfl
  | ⟨x, e⟩ :: r => by simp only [List.map_cons, pureRL, Bn.v, pureR, pureLB r, Bool.and_self]
end Go.Vi
set_option maxRecDepth 100000
set_option maxHeartbeats 1000000
namespace Go.Vi
open Go Go.Proofs
end Go.Vi
namespace Go.Vi
open Go Go.Proofs
theorem errB_iff {e : List Tm} : errB 8 e = 0 ↔ szs e ≤ 4000 ∧ dps e ≤ 100 ∧ fms 8 e = true := by
  unfold errB
  split
  · constructor
    · intro h; cases h
    · intro h; omega
  · split
    · constructor
      · intro h; cases h
      · intro h; omega
    · split
      · rename_i h; exact ⟨fun _ => ⟨by omega, by omega, h⟩, fun _ => rfl⟩
      · rename_i h; exact ⟨fun q => (by cases q), fun q => absurd q.2.2 h⟩
theorem right_c {k : Int} {s : List UInt8} {c c' : List Tm} (h : c = [] → c' = []) (hr : rightB k s c = true) : rightB k s c' = true := by
  unfold rightB at *
  by_cases k4 : k = 4
  · rw [if_pos k4] at hr ⊢; exact hr
  · rw [if_neg k4] at hr ⊢
    by_cases k8 : k = 8
    · rw [if_pos k8] at hr ⊢; exact hr
    · rw [if_neg k8] at hr ⊢
      by_cases hc : c = []
      · rw [if_neg (by simpa using hc)] at hr
        rw [if_neg (by simpa using h hc)]
        exact hr
      · rw [if_pos hc] at hr; cases hr
theorem right_kids {k : Int} {s : List UInt8} {c : List Tm} (hr : rightB k s c = true) : k = 4 ∨ k = 8 ∨ c = [] := by
  by_cases k4 : k = 4
  · exact .inl k4
  · by_cases k8 : k = 8
    · exact .inr (.inl k8)
    · refine .inr (.inr ?_)
      unfold rightB at hr
      rw [if_neg k4, if_neg k8] at hr
      by_cases hc : c = []
      · exact hc
      · rw [if_pos hc] at hr; cases hr
end Go.Vi
namespace Go.Vi
open Go Go.Proofs
end Go.Vi
set_option maxRecDepth 100000
set_option maxHeartbeats 1000000
namespace Go.Vi
open Go Go.Proofs
end Go.Vi
set_option maxRecDepth 100000
set_option maxHeartbeats 1000000
namespace Go.Vi
open Go Go.Proofs
def varS (w : List (List UInt8)) : Tm → Bool × List (List UInt8)
  | .mk k s _ => (true, if nameP k s = [] ∨ w.contains (nameP k s) = true then w else w ++ [nameP k s])
noncomputable abbrev T727 : List (FuncId × (List V → Option V)) := [(37, FnameP), (62, F53)]
noncomputable abbrev B27 (lvl n : Nat) : Mc := mcRd (Cx (hand T727)) (lpOf (M727 (hand T727) 0).E) lvl n
theorem b27 (lvl n) : (B27 lvl n).E.keep = [0, 2, 3, 4, 5, 6, 9, 10, 20] ∧ (B27 lvl n).E.cnd = [20] ∧ (B27 lvl n).E.frz = [6] ∧ (B27 lvl n).E.pro = [] ∧ (B27 lvl n).E.imp = [] ∧ (B27 lvl n).E.n = 28 ∧ (B27 lvl n).E.lvl = lvl ∧ (B27 lvl n).E.P = Tryz.prog ∧ (B27 lvl n).fuel = n ∧ (B27 lvl n).C = hand T727 ∧ (B27 lvl n).E.ok = okL := ⟨rfl, rfl, rfl, rfl, rfl, rfl, rfl, rfl, rfl, rfl, rfl⟩
def kvS (w : List (List UInt8)) : List (V × V) := w.map fun x => (.str x, .bool true)
def rowS (O : Heap) (w : List (List UInt8)) (row : V) : Prop := (w = [] ∧ row = .nilS) ∨ ∃ vr, row = .ref ⟨0, 3, 1⟩ vr 0 w.length ∧ O ⟨0, 3, 1⟩ = some (vr, .arr 1 (w.map .str))
def U27 (N : List (List UInt8)) (v3 v4 vm : Nat) (w : List (List UInt8)) (b : Bool) (O : Heap) : Prop :=
  (∃ row, O ⟨0, 3, 0⟩ = some (v3, .var [row]) ∧ rowS O w row) ∧ O ⟨0, 4, 0⟩ = some (v4, .var [.mref ⟨0, 4, 1⟩ vm]) ∧ O ⟨0, 4, 1⟩ = some (vm, .map (kvS w)) ∧ w.Nodup ∧ ∀ y ∈ w, y ∈ N
mutual
def nmT : Tm → List (List UInt8)
  | .mk k s c => nameP k s :: nmL c
def nmL : List Tm → List (List UInt8)
  | [] => []
  | t :: r => nmT t ++ nmL r
end
mutual
theorem nmT_len : ∀ t, (nmT t).length = szt t
  | .mk k s c => by rw [nmT, List.length_cons, nmL_len c, szt]
theorem nmL_len : ∀ l, (nmL l).length = szs l
  | [] => rfl
  | t :: r => by rw [nmL, List.length_append, nmT_len t, nmL_len r, szs]
end
theorem nm_mem {x : List UInt8} : ∀ {l : List Tm} {t}, t ∈ l → x ∈ nmT t → x ∈ nmL l
  | u :: r, t, h, hx => by
    rw [nmL, List.mem_append]
    rcases List.mem_cons.1 h with rfl | h
    · exact .inl hx
    · exact .inr (nm_mem h hx)
def ok27 (N : List (List UInt8)) (t : Tm) : Prop := txt1 t ∧ ∀ x ∈ nmT t, x ∈ N
theorem ok27_kids (N : List (List UInt8)) (k : Int) (s : List UInt8) (c : List Tm) (h : ok27 N (.mk k s c)) : ∀ u ∈ c, ok27 N u := fun u hu =>
  ⟨txt_kids k s c h.1 u hu, fun x hx => h.2 x (by rw [nmT]; exact List.mem_cons_of_mem _ (nm_mem hu hx))⟩
theorem sub_len : ∀ (w N : List (List UInt8)), w.Nodup → (∀ y ∈ w, y ∈ N) → w.length ≤ N.length
  | [], N, _, _ => Nat.zero_le _
  | y :: r, N, hd, h => by
    rw [List.nodup_cons] at hd
    have hy := h y (by simp)
    have := sub_len r (N.erase y) hd.2 (fun z hz => (List.mem_erase_of_ne (fun e => hd.1 (by rw [← e]; exact hz))).2 (h z (by simp [hz])))
    rw [List.length_erase_of_mem hy] at this
    have := List.length_pos_of_mem hy
    simp only [List.length_cons]
    omega
theorem find_kvS (x : List UInt8) : ∀ (w : List (List UInt8)) (i : Nat), if w.contains x = true then ∃ j, mfind (.str x) (kvS w) i = some (some (j, .bool true)) else mfind (.str x) (kvS w) i = some none
  | [], i => rfl
  | y :: r, i => by
    simp only [kvS, List.map_cons, mfind, keyEq_str, List.contains_cons]
    cases h : x == y with
    | true => simp
    | false =>
      rw [Bool.false_or]
      exact find_kvS x r (i + 1)
noncomputable abbrev as27 : Code := (rfA (sub [1, 1, 1, 0, 1, 0] c727)).1
noncomputable abbrev bd27 : Code := (rfA (sub [1, 1, 1, 0, 1, 0] c727)).2
noncomputable abbrev lp27 : Lp := lpOf (M727 (hand T727) 0).E
def verO (O : Heap) (k : Key) : Nat := ((O k).map (·.1)).getD 0
theorem U27.of {N : List (List UInt8)} {v3 v4 vm : Nat} {w : List (List UInt8)} {b : Bool} {O : Heap} (h1 : O ⟨0, 3, 0⟩ = some (v3, .var [.ref ⟨0, 3, 1⟩ (verO O ⟨0, 3, 1⟩) 0 w.length])) (h2 : O ⟨0, 3, 1⟩ = some (verO O ⟨0, 3, 1⟩, .arr 1 (w.map .str)))
    (h3 : O ⟨0, 4, 0⟩ = some (v4, .var [.mref ⟨0, 4, 1⟩ vm])) (h4 : O ⟨0, 4, 1⟩ = some (vm, .map (kvS w))) (h5 : w.Nodup ∧ ∀ y ∈ w, y ∈ N) : U27 N v3 v4 vm w b O := ⟨⟨_, h1, .inr ⟨_, rfl, h2⟩⟩, h3, h4, h5⟩
def odel (O : Heap) (k : Key) : Heap := fun q => if q = k then none else O q
theorem odel_get {O : Heap} {k q : Key} : odel O k q = if q = k then none else O q := rfl
theorem del_lo {E : Env} {s : St} {l sl off : Nat} (h : l < E.lvl) : St.del E s ⟨l, sl, off⟩ = ⟨s.τ, s.L, odel s.O ⟨l, sl, off⟩, s.c⟩ := by
  unfold St.del
  rw [if_neg (by dsimp only; omega)]
  rfl
theorem y27 {N : List (List UInt8)} (hN : N.length ≤ 1000000) {v3 v4 vm ver : Nat} {τ : List (Nat × V)} (h3 : tget τ 3 = .ptr ⟨0, 3, 0⟩ v3 0 0) (h4 : tget τ 4 = .ptr ⟨0, 4, 0⟩ v4 0 0) :
    Yields (hand T727) 0 ⟨0, 29, 0⟩ ver (ok27 N) (InvL ⟨0, 29, 0⟩ ver lp27 τ [10] as27 bd27 (fun _ => .ret) (U27 N v3 v4 vm)) varS := by
  refine yields_of rfl ⟨rfl, by decide, by decide⟩ (fun x b O O' e ⟨⟨row, h1, h2⟩, h3, h4, h5⟩ => ⟨⟨row, (e 3 0 (by simp)).trans h1, ?_⟩, (e 4 0 (by simp)).trans h3, (e 4 1 (by simp)).trans h4, h5⟩) ?_
  · rcases h2 with h2 | ⟨vr, h2, h3⟩
    · exact .inl h2
    · exact .inr ⟨vr, h2, (e 3 1 (by simp)).trans h3⟩
  intro n lvl x t c O hn hlv hok ⟨⟨row, u1, u2⟩, u3, u4, u5⟩
  obtain ⟨k1, s1, c1⟩ := t
  obtain ⟨hok, hnm⟩ := hok
  simp only [txt1] at hok
  have hin : nameP k1 s1 ∈ N := hnm _ (by simp [nmT])
  have u5l := sub_len x N u5.1 u5.2
  have e := Ftm_eq (f := fun k s => .str (nameP k s)) k1 c1 hok.1
  have lv0 := eq_true (show 0 < lvl by omega)
  rw [tv_mk]
  have hA : ∃ s : St, R (mcRd (Cx (hand T727)) lp27 lvl n) as27 .top ⟨setPs τ [10] [.agg [I k1, .str s1, Ts c1]], [], O, c⟩ = some (.norm, s) ∧ s.O = O ∧ tget s.τ 3 = .ptr ⟨0, 3, 0⟩ v3 0 0 ∧ tget s.τ 4 = .ptr ⟨0, 4, 0⟩ v4 0 0 ∧ tget s.τ 5 = .ptr ⟨lvl, 5, 0⟩ c 0 0 ∧ lget s.L (5, 0) = some (c, .var [I k1, .str s1, Ts c1]) := by
    simp only [as27, rfA, sub, c727, Tryz.f30, gets]
    change ∃ s : St, R (B27 lvl n) _ _ _ = _ ∧ _
    simp only [vmr, vmw, vmp, vza, ↓reduceIte, Nat.reduceBEq, Nat.reduceLT, Nat.reduceAdd, Nat.reduceEqDiff, reduceCtorEq, vmt, vzb, vzc, vlen, vleaf, velems, oks, vst, vmd, ty, Nat.reduceLeDiff, Nat.reduceMul, Nat.reduceSub, b27, setPs, X_top]
    refine ⟨_, rfl, rfl, ?_, ?_, ?_, ?_⟩
    all_goals simp only [vmr, vmw, vmp, vza, ↓reduceIte, Nat.reduceBEq, Nat.reduceLT, Nat.reduceAdd, Nat.reduceEqDiff, reduceCtorEq, vmt, vzb, vzc, vlen, vleaf, velems, oks, vst, vmd, ty, Nat.reduceLeDiff, Nat.reduceMul, Nat.reduceSub, b27, h3, h4]
  obtain ⟨s, hr, hO, t3, t4, t5, l5⟩ := hA
  refine ⟨s, hr, hO, fun O2 ho hq => ?_⟩
  have g1 := (ho ⟨0, 3, 0⟩ (by simp)).trans u1
  have g2 := (ho ⟨0, 4, 0⟩ (by simp)).trans u3
  have g3 := (ho ⟨0, 4, 1⟩ (by simp)).trans u4
  have g4 := ho ⟨0, 3, 1⟩ (by simp)
  generalize Obj.loop lp27 τ [10] as27 bd27 .busy none = ob at hq ⊢
  simp only [bd27, rfA, sub, c727, Tryz.f30, gets]
  change BodyQ _ _ _ _ _ _ _ _ (R (B27 lvl n) _ _ _)
  simp only [varS]
  by_cases q1 : nameP k1 s1 = []
  · have q1' : (nameP k1 s1 == []) = true := by simp [q1]
    rw [if_pos (.inl q1)]
    simp only [vmr, vmw, vmp, vza, ↓reduceIte, Nat.reduceBEq, Nat.reduceLT, Nat.reduceAdd, Nat.reduceEqDiff, reduceCtorEq, vmt, vzb, vzc, vlen, vleaf, velems, oks, vst, vmd, ty, Nat.reduceLeDiff, Nat.reduceMul, Nat.reduceSub, b27, t3, t4, t5, l5, g1, g2, g3, obj_lo, put_lo, oput_get, key_eq, lv0, q1', e, X_top, strOp]
    refine ⟨_, _, rfl, rfl, ?_, ⟨⟨row, ?_, ?_⟩, ?_, ?_, u5⟩, fun l sl off h0 hl => ?_⟩
    case refine_3 =>
      rcases u2 with h | ⟨vr, h, h'⟩
      · exact .inl h
      · exact .inr ⟨vr, h, g4.trans h'⟩
    all_goals simp [oput_get, key_eq, hq, g1, g2, g3]
  · have q1' : (nameP k1 s1 == []) = false := by simpa using q1
    have kok : keyOk Tryz.prog 9 (.str (nameP k1 s1)) = true := by kernel_rfl
    have hf := find_kvS (nameP k1 s1) x 0
    by_cases q2 : x.contains (nameP k1 s1) = true
    · rw [if_pos (.inr q2)]
      rw [q2] at hf
      obtain ⟨j, hf⟩ := hf
      simp only [vmr, vmw, vmp, vza, ↓reduceIte, Nat.reduceBEq, Nat.reduceLT, Nat.reduceAdd, Nat.reduceEqDiff, reduceCtorEq, vmt, vzb, vzc, vlen, vleaf, velems, oks, vst, vmd, ty, Nat.reduceLeDiff, Nat.reduceMul, Nat.reduceSub, b27, t3, t4, t5, l5, g1, g2, g3, obj_lo, put_lo, oput_get, key_eq, lv0, q1', e, X_top, strOp, kok, mapGet, hf]
      refine ⟨_, _, rfl, rfl, ?_, ⟨⟨row, ?_, ?_⟩, ?_, ?_, u5⟩, fun l sl off h0 hl => ?_⟩
      case refine_3 =>
        rcases u2 with h | ⟨vr, h, h'⟩
        · exact .inl h
        · exact .inr ⟨vr, h, g4.trans h'⟩
      all_goals simp [oput_get, key_eq, hq, g1, g2, g3]
    · rw [if_neg (by simp only [q1, q2, or_self]; simp)]
      rw [if_neg q2] at hf
      have hp : mput (.str (nameP k1 s1)) (.bool true) (kvS x) = some (kvS (x ++ [nameP k1 s1])) := by
        unfold mput
        rw [hf, kvS, kvS, List.map_append]; rfl
      have r1 : ∀ m, m ≤ 2000000 → roomOk Tryz.prog 9 m = true := fun m h => by simp [roomOk, ty, cellsV, leafV]; omega
      have r2 := r1 1 (by omega)
      have r3 := r1 (x.length + 1) (by omega)
      have u6 : (x ++ [nameP k1 s1]).Nodup ∧ ∀ y ∈ x ++ [nameP k1 s1], y ∈ N := by
        refine ⟨List.nodup_append.2 ⟨u5.1, by simp, ?_⟩, fun y hy => ?_⟩
        · rintro y hy z hz rfl
          rw [List.mem_singleton] at hz
          exact q2 (by simpa [hz] using hy)
        · rcases List.mem_append.1 hy with hy | hy
          · exact u5.2 y hy
          · rw [List.mem_singleton] at hy; exact hy ▸ hin
      have f1 : ∀ s : List UInt8, fitsE Tryz.prog 9 (.str s) = true := fun s => by simp [fitsE, ty, leafV]
      rcases u2 with ⟨hx, hrow⟩ | ⟨vr, hrow, hO2⟩
      · subst hrow
        subst hx
        simp only [vmr, vmw, vmp, vza, ↓reduceIte, Nat.reduceBEq, Nat.reduceLT, Nat.reduceAdd, Nat.reduceEqDiff, reduceCtorEq, vmt, vzb, vzc, vlen, vleaf, velems, oks, vst, vmd, ty, Nat.reduceLeDiff, Nat.reduceMul, Nat.reduceSub, b27, t3, t4, t5, l5, g1, g2, g3, obj_lo, put_lo, oput_get, key_eq, lv0, q1', e, X_top, strOp, kok, mapGet, mapPut, hf, hp, r2, r3, f1, List.map_cons, List.map_nil]
        refine ⟨_, _, rfl, rfl, ?_, U27.of ?_ ?_ ?_ ?_ u6, fun l sl off h0 hl => ?_⟩
        all_goals simp [verO, oput_get, odel_get, key_eq, hq, g1, g2, g3]
        have hl0 : l ≠ 0 := by omega
        simp [hl0]
      · subst hrow
        have g5 := g4.trans hO2
        simp only [vmr, vmw, vmp, vza, ↓reduceIte, Nat.reduceBEq, Nat.reduceLT, Nat.reduceAdd, Nat.reduceEqDiff, reduceCtorEq, vmt, vzb, vzc, vlen, vleaf, velems, oks, vst, vmd, ty, Nat.reduceLeDiff, Nat.reduceMul, Nat.reduceSub, b27, t3, t4, t5, l5, g1, g2, g3, g5, obj_lo, put_lo, del_lo, odel_get, oput_get, key_eq, lv0, q1', e, X_top, strOp, kok, mapGet, mapPut, hf, hp, r2, r3, f1, List.map_cons, List.map_nil]
        refine ⟨_, _, rfl, rfl, ?_, U27.of ?_ ?_ ?_ ?_ u6, fun l sl off h0 hl => ?_⟩
        all_goals simp [verO, oput_get, odel_get, key_eq, hq, g1, g2, g3]
        have hl0 : l ≠ 0 := by omega
        simp [hl0]
end Go.Vi
set_option maxRecDepth 100000
set_option maxHeartbeats 1000000
namespace Go.Vi
open Go Go.Proofs
theorem keysOf_var : ∀ (L : Loc) (q : Nat × Nat) (v : Nat) (cs : List V), lget L q = some (v, .var cs) → ∀ j, j < cs.length → (q.1, q.2 + j + 1) ∈ keysOf L
  | [], q, v, cs, h, j, hj => by cases h
  | (p, (w, o)) :: r, q, v, cs, h, j, hj => by
    simp only [lget] at h
    by_cases e : q = p
    · subst e
      rw [if_pos rfl] at h
      injection h with h
      injection h with h1 h2
      subst h2
      simp only [keysOf, List.mem_cons, List.mem_append, List.mem_map, List.mem_range]
      exact .inl (.inr ⟨j, hj, rfl⟩)
    · rw [if_neg e] at h
      have := keysOf_var r q v cs h j hj
      cases o <;> simp [keysOf, this]
theorem range_all2 {σ : Type} {H : FuncId → Option (List V → Option V)} {M : Mc} {n n0 : Nat} {k : K} {s : St} {f : Operand} {ps : Array Nat} {ac bd : Code} {jf : σ → Code} {U : σ → Bool → Heap → Prop} {ok : Tm → Prop} {step : σ → Tm → Bool × σ} {P : Option (Ex × St) → Prop} {x : σ} {a : List Tm} (hM : M.call = evF (Cx H) (n + 2)) (hl : M.E.lvl = 0) (hk : M.E.ok.contains 88 = true) (hi : M.E.inr = false)
    (hf : evalO s f = .fn (.func 88) [] [.iptr [Ts a]]) (hY : Yields H n0 (loopKey M.E) s.c ok (InvL (loopKey M.E) s.c (lpOf M.E) s.τ ps.toList ac bd jf U) step)
    (hU : ∀ x b O O', (∀ sl off, (⟨0, sl, off⟩ : Key) ≠ loopKey M.E → O' ⟨0, sl, off⟩ = O ⟨0, sl, off⟩) → U x b O → U x b O') (hok : ∀ k s c, ok (.mk k s c) → ∀ u ∈ c, ok u) (hb : szs a ≤ 1000000) (hao : ∀ t ∈ a, ok t) (hn : n0 + szs a < n)
    (h0 : ∀ O, (∀ sl off, O ⟨0, sl, off⟩ = lget s.L (sl, off)) → U x true O) (hj : ∀ x, ∃ e, jumpEx (some (jf x)) = some e)
    (h : ∀ s' e O', s'.τ = s.τ → U (visL step x a).2 (visL step x a).1 O' → (∀ sl off y, sl ≠ M.E.n + 1 → ((lget s.L (sl, off)).isSome = true ∨ ∃ v cs j, lget s.L (sl, 0) = some (v, .var cs) ∧ off = j + 1 ∧ j < cs.length) → O' ⟨0, sl, off⟩ = some y → lget s'.L (sl, off) = some y) → jumpEx (if (visL step x a).1 then none else some (jf (visL step x a).2)) = some e → P (X M e k s')) :
    P (R M (.rangeFunc f ps ac bd) k s) := by
  have hkey : loopKey M.E = ⟨0, M.E.n + 1, 0⟩ := by unfold loopKey; rw [hl]
  have hI : ∀ x b O O', (∀ sl off, O' ⟨0, sl, off⟩ = O ⟨0, sl, off⟩) → InvL (loopKey M.E) s.c (lpOf M.E) s.τ ps.toList ac bd jf U x b O → InvL (loopKey M.E) s.c (lpOf M.E) s.τ ps.toList ac bd jf U x b O' := fun x b O O' e ⟨h1, h2⟩ =>
    ⟨by rw [hkey] at h1 ⊢; rw [e]; exact h1, hU _ _ O _ (fun sl off _ => e sl off) h2⟩
  have hin : InvL (loopKey M.E) s.c (lpOf M.E) s.τ ps.toList ac bd jf U x true (heapOf 0 (lput s.L (M.E.n + 1, 0) (s.c, .loop (lpOf M.E) s.τ ps.toList ac bd .ready none)) s.O) := by
    refine ⟨?_, hU _ _ (heapOf 0 s.L s.O) _ (fun sl off hk => ?_) (h0 _ fun sl off => by rw [heapOf_get, if_pos rfl])⟩
    · rw [hkey, heapOf_get, if_pos rfl, lget_lput, if_pos rfl]; rfl
    · rw [heapOf_get, if_pos rfl, lget_lput, if_neg (fun e => hk (by rw [hkey]; injection e with e1 e2; rw [e1, e2])), heapOf_get, if_pos rfl]
  obtain ⟨c', O', hcall, hO1, hO2⟩ := w82 hY hI hok hb hao (n := n) (c := s.c + 1) hn (by rw [hkey]) hin
  obtain ⟨e, he⟩ : ∃ e, jumpEx (if (visL step x a).1 then none else some (jf (visL step x a).2)) = some e := by
    cases (visL step x a).1 with
    | true => exact ⟨_, rfl⟩
    | false => exact hj _
  rw [R_range (g := 88) (first := []) (c' := c') (O' := O') hf hk hi (by rw [hM, hl]; exact hcall) hO1 (by cases (visL step x a).1 <;> simp) he]
  refine h _ _ O' (by rw [hkey, del_s hl.symm]; rfl) hO2 (fun sl off y hs hx hy => ?_) he
  have hb : lget (back M.E ⟨s.τ, lput s.L (M.E.n + 1, 0) (s.c, .loop (lpOf M.E) s.τ ps.toList ac bd .ready none), s.O, s.c + 1⟩ c' O').L (sl, off) = some y := by
    refine mergeL_get _ _ _ _ (.inl ?_) (by rw [hl]; exact hy)
    rcases hx with hx | ⟨v, cs, j, hx, rfl, hj⟩
    · obtain ⟨z, hx⟩ := Option.isSome_iff_exists.1 hx
      exact keysOf_mem _ _ z (by show lget (lput s.L (M.E.n + 1, 0) _) (sl, off) = some z; rw [lget_lput, if_neg (by simp [hs]), hx])
    · have := keysOf_var (lput s.L (M.E.n + 1, 0) (s.c, .loop (lpOf M.E) s.τ ps.toList ac bd .ready none)) (sl, 0) v cs (by rw [lget_lput, if_neg (by simp [hs]), hx]) j hj
      rwa [Nat.zero_add] at this
  rw [hkey, del_s hl.symm]
  show lget (ldel _ (M.E.n + 1, 0)) (sl, off) = some y
  rw [lget_ldel, if_neg (by simp [hs])]
  exact hb
def varL (a : List Tm) : List (List UInt8) := (visL varS [] a).2
mutual
theorem var_T : ∀ (t : Tm) (w : List (List UInt8)), (visT varS w t).1 = true
  | .mk k s c, w => by
    simp only [visT, varS]
    exact var_L c _
theorem var_L : ∀ (l : List Tm) (w : List (List UInt8)), (visL varS w l).1 = true
  | [], w => rfl
  | t :: r, w => by
    simp only [visL]
    have := var_T t w
    revert this
    generalize visT varS w t = q
    obtain ⟨b, x⟩ := q
    intro h
    dsimp only at h
    subst h
    exact var_L r x
end
abbrev Ss (w : List (List UInt8)) : V := .lst (w.map .str)
theorem pureSs : ∀ w : List (List UInt8), pureRL (w.map .str) = true
  | [] => rfl
  | x :: r => by simp only [List.map_cons, pureRL, pureR, pureSs r, Bool.and_self]
theorem can_Ss : ∀ w : List (List UInt8), can (Ss w) = Ss w := fun w => by
  have : ∀ w : List (List UInt8), cans (w.map .str) = w.map .str := fun w => by
    induction w with
    | nil => rfl
    | cons x r ih => simp only [List.map_cons, cans, ih, canStr]
  show V.lst (cans (w.map .str)) = _
  rw [this]
def Fi27 (n : Nat) (v : V) (r : Option (Ex × St)) : Prop := Fin (M727 (hand T727) n) [.tmp 2] r = some (.ret v)
theorem h727 : SoundHand Tryz.prog (hand T727) := sound_cons F52_sound (sound_cons F53_sound sound_nil)
theorem w27 (a : List Tm) (hb : szs a ≤ 1000000) (ho : txs a) : SoundPure Tryz.prog 30 [Ts a] (.ret (Ss (varL a))) := by
  let Po : Option (Ex × St) → Prop := fun r => ∃ v, pureR v = true ∧ can (imm v) = Ss (varL a) ∧ Fi27 (szs a + 4) v r
  have key : Po (R (M727 (hand T727) (szs a + 4)) c727 .top ⟨params 0 [Ts a], [], fun _ => none, 0⟩) := by
    have e1 := F53_eq a
    have r1 := fun k s => @range_all2 (List (List UInt8)) (hand T727) (M727 (hand T727) (szs a + 4)) (szs a + 2) 0 k s (.tmp 9) #[10] as27 bd27 (fun _ => .ret)
    simp only [as27, bd27, rfA, sub, c727, Tryz.f30, gets] at r1
    simp only [c727, Tryz.f30, gets]
    simp only [vmr, vmw, vmp, vza, ↓reduceIte, Nat.reduceBEq, Nat.reduceLT, Nat.reduceAdd, Nat.reduceEqDiff, reduceCtorEq, vmt, vzb, vzc, vlen, vleaf, velems, oks, vst, vmd, ty, Nat.reduceLeDiff, Nat.reduceMul, Nat.reduceSub, m727, e1, newMap]
    have hN : (nmL a).length ≤ 1000000 := by rw [nmL_len]; exact hb
    have hU : ∀ x b O O', (∀ sl off, (⟨0, sl, off⟩ : Key) ≠ ⟨0, 29, 0⟩ → O' ⟨0, sl, off⟩ = O ⟨0, sl, off⟩) → U27 (nmL a) 0 2 3 x b O → U27 (nmL a) 0 2 3 x b O' := fun x b O O' e ⟨⟨row, h1, h2⟩, h3, h4, h5⟩ => ⟨⟨row, (e 3 0 (by simp)).trans h1, by
      rcases h2 with h2 | ⟨vr, h2, h3⟩
      · exact .inl h2
      · exact .inr ⟨vr, h2, (e 3 1 (by simp)).trans h3⟩⟩, (e 4 0 (by simp)).trans h3, (e 4 1 (by simp)).trans h4, h5⟩
    refine r1 _ _ (U := U27 (nmL a) 0 2 3) (ok := ok27 (nmL a)) (step := varS) (x := []) (a := a) (P := Po) rfl rfl (show okL.contains 88 = true by decide) rfl ?_ (y27 hN ?_ ?_) hU (ok27_kids (nmL a)) hb (fun t ht => ⟨txs_mem ho ht, fun x hx => nm_mem ht hx⟩) (by omega) (fun O h => ⟨⟨.nilS, (h 3 0).trans ?_, .inl ⟨rfl, rfl⟩⟩, (h 4 0).trans ?_, (h 4 1).trans ?_, List.nodup_nil, fun y hy => by cases hy⟩) (fun _ => ⟨_, rfl⟩) ?_
    case refine_7 =>
      intro s' e O' hτ hu hL hj
      rw [var_L] at hj
      injection hj with hj
      subst hj
      obtain ⟨⟨row, u1, u2⟩, _, _, u5, u6⟩ := hu
      have g3 := hL 3 0 _ (by show 3 ≠ 29; omega) (.inl (by simp only [vmr, vmw, vmp, vza, ↓reduceIte, Nat.reduceBEq, Nat.reduceLT, Nat.reduceAdd, Nat.reduceEqDiff, reduceCtorEq, vmt, vzb, vzc, vlen, vleaf, velems, oks, vst, vmd, ty, Nat.reduceLeDiff, Nat.reduceMul, Nat.reduceSub, m727])) u1
      have t3 : tget s'.τ 3 = .ptr ⟨0, 3, 0⟩ 0 0 0 := by rw [hτ]; simp only [vmr, vmw, vmp, vza, ↓reduceIte, Nat.reduceBEq, Nat.reduceLT, Nat.reduceAdd, Nat.reduceEqDiff, reduceCtorEq, vmt, vzb, vzc, vlen, vleaf, velems, oks, vst, vmd, ty, Nat.reduceLeDiff, Nat.reduceMul, Nat.reduceSub, m727]
      change rowS O' (varL a) row at u2
      rcases u2 with ⟨hw, hr⟩ | ⟨vr, hr, hO⟩
      · subst hr
        clear hτ hL u1
        refine ⟨.nilS, rfl, by rw [hw]; rfl, ?_⟩
        simp only [vmr, vmw, vmp, vza, ↓reduceIte, Nat.reduceBEq, Nat.reduceLT, Nat.reduceAdd, Nat.reduceEqDiff, reduceCtorEq, vmt, vzb, vzc, vlen, vleaf, velems, oks, vst, vmd, ty, Nat.reduceLeDiff, Nat.reduceMul, Nat.reduceSub, m727, X_blk, t3, g3]
        unfold Fi27
        simp only [vmr, vmw, vmp, vza, ↓reduceIte, Nat.reduceBEq, Nat.reduceLT, Nat.reduceAdd, Nat.reduceEqDiff, reduceCtorEq, vmt, vzb, vzc, vlen, vleaf, velems, oks, vst, vmd, ty, Nat.reduceLeDiff, Nat.reduceMul, Nat.reduceSub, vzr, m727]
      · subst hr
        have g4 := hL 3 1 _ (by show 3 ≠ 29; omega) (.inr ⟨0, [.nilS], 0, by simp only [vmr, vmw, vmp, vza, ↓reduceIte, Nat.reduceBEq, Nat.reduceLT, Nat.reduceAdd, Nat.reduceEqDiff, reduceCtorEq, vmt, vzb, vzc, vlen, vleaf, velems, oks, vst, vmd, ty, Nat.reduceLeDiff, Nat.reduceMul, Nat.reduceSub, m727], rfl, by simp⟩) hO
        clear hτ hL u1
        refine ⟨.own 1 ((varL a).map .str), ?_, ?_, ?_⟩
        · simp only [pureR, pureSs]
        · show can (imm (.own 1 ((varL a).map .str))) = _
          rw [show imm (V.own 1 ((varL a).map .str)) = .lst ((varL a).map .str) by simp only [imm, imms_map (e := V.str) (fun _ => rfl)]]
          exact can_Ss _
        · simp only [vmr, vmw, vmp, vza, ↓reduceIte, Nat.reduceBEq, Nat.reduceLT, Nat.reduceAdd, Nat.reduceEqDiff, reduceCtorEq, vmt, vzb, vzc, vlen, vleaf, velems, oks, vst, vmd, ty, Nat.reduceLeDiff, Nat.reduceMul, Nat.reduceSub, m727, X_blk, t3, g3, g4]
          unfold Fi27
          simp only [vmr, vmw, vmp, vza, ↓reduceIte, Nat.reduceBEq, Nat.reduceLT, Nat.reduceAdd, Nat.reduceEqDiff, reduceCtorEq, vmt, vzb, vzc, vlen, vleaf, velems, oks, vst, vmd, ty, Nat.reduceLeDiff, Nat.reduceMul, Nat.reduceSub, vzr, m727, g4, take_len]
    all_goals simp only [vmr, vmw, vmp, vza, ↓reduceIte, Nat.reduceBEq, Nat.reduceLT, Nat.reduceAdd, Nat.reduceEqDiff, reduceCtorEq, vmt, vzb, vzc, vlen, vleaf, velems, oks, vst, vmd, ty, Nat.reduceLeDiff, Nat.reduceMul, Nat.reduceSub, m727]
    all_goals rfl
  obtain ⟨v, hp, hc, hk⟩ := key
  have := sound_imm (s727 h727 (szs a + 4) (by simp) hp hk) hp
  rw [hc] at this
  exact this
noncomputable def F27 : List V → Option V := hF (α := List Tm) (fun p => [Ts p]) (fun p => szs p ≤ 1000000 ∧ txs p) (fun p => Ss (varL p))
theorem F27_eq {a : List Tm} (h : szs a ≤ 1000000) (ho : txs a) : F27 [Ts a] = some (Ss (varL a)) := hF_eq (a := a) (one_inj' fun _ _ => Ts_inj) (by simp only [cans, can_Ts]) ⟨h, ho⟩
theorem F27_sound : ∀ args v, F27 args = some v → SoundPure Tryz.prog 30 args (.ret v) := hF_sound fun p hp => w27 p hp.1 hp.2
end Go.Vi
set_option maxRecDepth 100000
set_option maxHeartbeats 1000000
namespace Go.Vi
open Go Go.Proofs
noncomputable def F42 : List V → Option V := hF (α := Int) (fun n => [I n]) (fun n => 0 ≤ n ∧ n ≤ 2000000000) (fun n => .str (Lib.itoa n))
theorem F42_eq {n : Int} (h0 : 0 ≤ n) (h1 : n ≤ 2000000000) : F42 [I n] = some (.str (Lib.itoa n)) := hF_eq (a := n) (one_inj' fun _ _ => I_inj) rfl ⟨h0, h1⟩
def frB (x : List UInt8) (n : Int) : Bn := ⟨x, [.mk (((varB x).map (·.1)).getD 0) (Lib.itoa n) []]⟩
def frL : List (List UInt8) → Int → List Bn
  | [], _ => []
  | x :: r, n => frB x n :: frL r (n + 1)
def frV (x : List UInt8) (n : Int) : V := .agg [.str x, .lst [.agg [I (((varB x).map (·.1)).getD 0), .str (Lib.itoa n), .lst []]]]
theorem frV_v (x : List UInt8) (n : Int) : (frB x n).v = frV x n := by
  rw [frB, Bn.v, Ts, List.map_cons, List.map_nil, tv_mk]
  rfl
def frVL (l : List (List UInt8)) (n : Int) : List V := (frL l n).map Bn.v
noncomputable def F34c : List V → Option V := hF (α := List UInt8) (fun a => [.str a]) (fun a => a.length ≤ 1000000000000000) (fun a => can (varR (varB a)))
theorem F34c_eq {a : List UInt8} (h : a.length ≤ 1000000000000000) : F34c [.str a] = some (can (varR (varB a))) := hF_eq (a := a) (one_inj' fun _ _ => Str_inj) rfl h
theorem F34c_sound : ∀ args v, F34c args = some v → SoundPure Tryz.prog 50 args (.ret v) := hF_sound fun p hp => by
  have h : ∀ o, pureR (varR o) = true ∧ imm (varR o) = varR o := fun o => by cases o <;> exact ⟨rfl, rfl⟩
  have := sound_imm (w34 p hp) (h _).1
  rw [(h _).2] at this
  exact this
noncomputable abbrev T719 : List (FuncId × (List V → Option V)) := [(29, Fres), (30, F27), (50, F34c), (51, F42), (52, Fun)]
def A19 (s : St) (d : List V) : Prop := ∃ v8 sz, ((sz = 2 ∨ sz = 0) ∧ (d ≠ [] → sz = 2)) ∧ tget s.τ 8 = .ref ⟨0, 8, 0⟩ v8 0 d.length ∧ lget s.L (8, 0) = some (v8, .arr sz d)
theorem A19.of {s d} (h : tget s.τ 8 = .ref ⟨0, 8, 0⟩ (ver s (8, 0)) 0 d.length) (h' : lget s.L (8, 0) = some (ver s (8, 0), .arr 2 d)) : A19 s d := ⟨_, 2, ⟨.inl rfl, fun _ => rfl⟩, h, h'⟩
theorem l719 {n k} {P : Option (Ex × St) → Prop} {from_ : Nat} (hfr : from_ ≤ 1000000000) {e : List Tm} (a : List (List UInt8)) (ha : a.length ≤ 1000000) (hv : ∀ x ∈ a, x.length ≤ 1000000000000000 ∧ (varB x).isSome = true) : ∀ r (i : Nat) d n' s, a.drop i = r → r.length < n' → d.length + r.length ≤ 1000000 → A19 s d → tget s.τ 0 = Ts e → tget s.τ 1 = I from_ → tget s.τ 25 = Ss a → tget s.τ 26 = I a.length → tget s.τ 27 = I (i : Nat) →
    (∀ s', A19 s' (d ++ frVL r (from_ + i : Nat)) → tget s'.τ 0 = Ts e → P (X (M719 (hand T719) n) (.exit 0) k s')) →
    P (L (M719 (hand T719) n) (sub [1, 1, 1, 1, 0, 1, 0, 0] c719) n' k s)
  | [], i, d, n' + 1, s, hi, hn, hl, ⟨v8, sz, hz, h8, h8'⟩, h0, h1, h25, h26, h27, hq => by
    have hc := inlt (drop_nil' hi)
    rw [L_succ]
    simp only [vmr, vmw, vmp, vza, ↓reduceIte, Nat.reduceBEq, Nat.reduceLT, Nat.reduceAdd, Nat.reduceEqDiff, reduceCtorEq, vmt, vzb, vzc, vlen, vleaf, velems, oks, vst, vmd, ty, Nat.reduceLeDiff, Nat.reduceMul, Nat.reduceSub, c719, Tryz.f21, m719, h25, h26, h27, hc]
    refine hq _ ⟨v8, sz, ⟨hz.1, by simpa [frVL, frL] using hz.2⟩, ?_, ?_⟩ ?_
    all_goals simp only [vmr, vmw, vmp, vza, ↓reduceIte, Nat.reduceBEq, Nat.reduceLT, Nat.reduceAdd, Nat.reduceEqDiff, reduceCtorEq, vmt, vzb, vzc, vlen, vleaf, velems, oks, vst, vmd, ty, Nat.reduceLeDiff, Nat.reduceMul, Nat.reduceSub, m719, h0, h8, h8', frVL, frL, List.map_nil, List.append_nil]
  | x :: r, i, d, n' + 1, s, hi, hn, hl, ⟨v8, sz, hz, h8, h8'⟩, h0, h1, h25, h26, h27, hq => by
    obtain ⟨g1, g2, g3⟩ := drop_cons hi
    have hcl := ilt g3
    have ga : (a.map V.str)[i]? = some (.str x) := by rw [List.getElem?_map, g1, Option.map_some]
    have hz' := eq_true hz.1
    have w4 := wsuc g3 (by omega)
    obtain ⟨hx, hs⟩ := hv x (List.mem_of_getElem? g1)
    obtain ⟨⟨kd, nm⟩, hvb⟩ := Option.isSome_iff_exists.1 hs
    have e1 : F34c [.str x] = some (.tup [.agg [I kd, .str nm, .lst []], .bool true]) := by
      have := F34c_eq hx
      rw [hvb] at this
      exact this
    have w5 : IntKind.i64.wrap ((from_ : Int) + (i : Int)) = ((from_ + i : Nat) : Int) := by rw [wrap_id] <;> omega
    have e2 := F42_eq (n := ((from_ + i : Nat) : Int)) (by omega) (by omega)
    have ih := fun d s => l719 (n := n) (k := k) (P := P) hfr (e := e) a ha hv r (i + 1) d n' s g2 (by simp at hn; omega)
    simp only [sub, c719, Tryz.f21, gets] at ih
    have hb : frV x ((from_ + i : Nat) : Int) = .agg [.str x, .lst [.agg [I kd, .str (Lib.itoa ((from_ + i : Nat) : Int)), .lst []]]] := by simp [frV, hvb]
    rw [frVL, frL, List.map_cons, frV_v, List.append_cons, hb] at hq
    rw [show (frL r ((from_ + i : Nat) + 1 : Int)).map Bn.v = frVL r ((from_ + i : Nat) + 1 : Int) from rfl] at hq
    have r0 := @room35 1 (by omega)
    have r1 := @room59 1 (by omega)
    have r2 := @room59 (d.length + 1) (by simp at hl; omega)
    have f2 : ∀ (k : Int) (s : List UInt8), fitsE Tryz.prog 52 (.agg [I k, .str s, .lst []]) = true := fun k s => by simp [fitsE, ty, leafV]
    have f1 : ∀ (s : List UInt8) (e : List V), fitsE Tryz.prog 57 (.agg [.str s, .lst e]) = true := fun s e => by simp [fitsE, ty, leafV]
    rw [L_succ]
    simp only [vmr, vmw, vmp, vza, ↓reduceIte, Nat.reduceBEq, Nat.reduceLT, Nat.reduceAdd, Nat.reduceEqDiff, reduceCtorEq, vmt, vzb, vzc, vlen, vleaf, velems, oks, vst, vmd, ty, Nat.reduceLeDiff, Nat.reduceMul, Nat.reduceSub, callV_s2, c719, Tryz.f21, m719, h0, h1, h25, h26, h27, h8, h8', hcl, ga, w4, w5, e1, e2, r0, r1, r2, f1, f2, hz', List.map_cons, List.map_nil]
    refine ih (d ++ [.agg [.str x, .lst [.agg [I kd, .str (Lib.itoa ((from_ + i : Nat) : Int)), .lst []]]]]) _ (by simp at hl ⊢; omega) (A19.of ?_ ?_) ?_ ?_ ?_ ?_ ?_ (by rw [show ((from_ + (i + 1) : Nat) : Int) = ((from_ + i : Nat) : Int) + 1 by omega]; exact hq)
    all_goals simp only [vmr, vmw, vmp, vza, ↓reduceIte, Nat.reduceBEq, Nat.reduceLT, Nat.reduceAdd, Nat.reduceEqDiff, reduceCtorEq, vmt, vzb, vzc, vlen, vleaf, velems, oks, vst, vmd, ty, Nat.reduceLeDiff, Nat.reduceMul, Nat.reduceSub, m719, ver, h0, h1, h25, h26, List.length_append]
end Go.Vi
set_option maxRecDepth 100000
namespace Go.Vi
open Go Go.Proofs
theorem global1 : Tryz.prog.globalNamed "internal/strconv.uint64pow10" = some 3 := by kernel_rfl
theorem tab_of {w : World} {A : Nat → Prop} (h : JA w A) : Lib.TabIs Tryz.prog w "internal/strconv.uint64pow10" .u64 Lib.pow10Tab := by
  obtain ⟨_, cs, t, f, hc, hp⟩ := h (3, _) (List.mem_cons_self ..)
  dsimp only at hc hp
  show w.var? _ _ = _
  unfold World.var?
  rw [global1]
  simp only [Option.bind_some, hc, hp]
  rfl
theorem tr_grown {w w' : World} {A : Nat → Prop} (hA : ∀ b, A b → b < w.heap.size) (h1 : w.heap.size ≤ w'.heap.size) (h2 : w'.os = w.os) (h3 : w'.tape = w.tape) (h4 : w'.output = w.output) (h5 : ∀ b, b < w.heap.size → w'.heap[b]? = w.heap[b]?) : Tr w A noB 0 noH w' A noB 0 noH ∧ ∀ b, A b → b < w'.heap.size :=
  ⟨⟨h1, h2, h3, h4, fun b hb _ => h5 b hb, fun _ _ _ => rfl, Nat.le_refl _, fun _ h => h, fun _ h => .inl h, fun _ h => .inl h⟩, fun b hb => Nat.lt_of_lt_of_le (hA b hb) h1⟩
theorem w42 (n : Int) (hn : 0 ≤ n ∧ n ≤ 2000000000) : SoundPure Tryz.prog 51 [I n] (.ret (.str (Lib.itoa n))) := by
  intro w A cs hJ hA hp
  simp only [PCs, PC] at hp
  obtain ⟨c, d, e, rfl, rfl⟩ := hp
  obtain rfl : cs = #[.int .i64 n] := by cases cs; simp_all
  refine (Tryz.strconv_Itoa n (by omega) (by omega) w (tab_of hJ)).mono ?_
  rintro e w' ⟨rfl, k, os, rfl⟩
  have t := tr_grown (w := w) (w' := Go.Sort.grow (w.drewN k) os) hA (by simp [Go.Sort.grow, World.drewN]) rfl rfl rfl (fun b hb => by simp [Go.Sort.grow, World.drewN, Array.getElem?_append, hb])
  refine ⟨A, t.1, t.2, _, [], rfl, ?_, fun i hi => (by cases hi), List.Pairwise.nil⟩
  simp only [RC, IC, PC]
  exact ⟨trivial, trivial⟩
theorem F42_sound : ∀ args v, F42 args = some v → SoundPure Tryz.prog 51 args (.ret v) := hF_sound fun p hp => w42 p hp
end Go.Vi
namespace Go.Vi
open Go Go.Proofs
theorem dec_inj (u : Nat) : ∀ v, Lib.decDigits u = Lib.decDigits v → u = v := by
  induction u using Nat.strongRecOn with
  | ind u ih =>
    intro v h
    have hl : ∀ w, 1 ≤ (Lib.decDigits w).length := fun w => by rw [Lib.decDigits_length]; exact Lib.nDigits_pos w
    have h8 : ∀ a b, a < 10 → b < 10 → UInt8.ofNat (48 + a) = UInt8.ofNat (48 + b) → a = b := fun a b ha hb h => by
      have h2 : ∀ c, c < 10 → (UInt8.ofNat (48 + c)).toNat = 48 + c := fun c hc => by simp only [UInt8.toNat_ofNat']; omega
      have := congrArg UInt8.toNat h
      rw [h2 a ha, h2 b hb] at this
      omega
    by_cases hu : u < 10
    · by_cases hv : v < 10
      · rw [Lib.decDigits_one hu, Lib.decDigits_one hv] at h
        injection h with h
        exact h8 _ _ hu hv h
      · rw [Lib.decDigits_one hu, Lib.decDigits, dif_neg hv] at h
        have h1 := congrArg List.length h
        have := hl (v / 10)
        simp only [List.length_append, List.length_cons, List.length_nil] at h1
        omega
    · by_cases hv : v < 10
      · rw [Lib.decDigits_one hv, Lib.decDigits, dif_neg hu] at h
        have h1 := congrArg List.length h
        have := hl (u / 10)
        simp only [List.length_append, List.length_cons, List.length_nil] at h1
        omega
      · have e : ∀ w, ¬ w < 10 → Lib.decDigits w = Lib.decDigits (w / 10) ++ [UInt8.ofNat (48 + w % 10)] := fun w hw => by rw [Lib.decDigits, dif_neg hw]
        rw [e u hu, e v hv] at h
        obtain ⟨h1, h2⟩ := List.append_inj' h rfl
        have h3 := ih _ (by omega) _ h1
        injection h2 with h2
        have := h8 _ _ (Nat.mod_lt _ (by omega)) (Nat.mod_lt _ (by omega)) h2
        omega
theorem itoa_inj {u v : Nat} (h : Lib.itoa (u : Int) = Lib.itoa (v : Int)) : u = v := by
  unfold Lib.itoa at h
  rw [if_neg (by omega), if_neg (by omega)] at h
  exact dec_inj _ _ h
theorem dec_lod (u : Nat) : (Lib.decDigits u).all lodU = true := by
  induction u using Nat.strongRecOn with
  | ind u ih =>
    have h1 : ∀ c, c < 10 → lodU (UInt8.ofNat (48 + c)) = true := fun c hc => by
      have h2 : (UInt8.ofNat (48 + c)).toNat = 48 + c := by simp only [UInt8.toNat_ofNat']; omega
      have : digN (48 + c) = true := by simp [digN]; omega
      unfold lodU; rw [h2, this, Bool.or_true]
    by_cases hu : u < 10
    · rw [Lib.decDigits_one hu, List.all_cons, h1 u hu]; rfl
    · rw [Lib.decDigits, dif_neg hu, List.all_append, ih _ (by omega), List.all_cons, h1 _ (Nat.mod_lt u (show 10 > 0 by omega))]; rfl
theorem nd_le : ∀ (k u : Nat), u < 10 ^ (k + 1) → Lib.nDigits u ≤ k + 1
  | k, u, h => by
    by_cases hu : u < 10
    · rw [Lib.nDigits_small hu]; omega
    · rw [Lib.nDigits_big hu]
      match k, h with
      | 0, h => omega
      | k + 1, h =>
        have := nd_le k (u / 10) (by rw [Nat.pow_succ] at h; omega)
        omega
theorem isV_iff {k : Int} : isV k = true ↔ k = 5 ∨ k = 6 ∨ k = 7 := by simp [isV]; omega
theorem right_itoa {k : Int} (hk : isV k = true) (n : Nat) (hn : n ≤ 2000000000) : rightB k (Lib.itoa (n : Int)) [] = true := by
  have h1 : Lib.itoa (n : Int) = Lib.decDigits n := by unfold Lib.itoa; rw [if_neg (by omega)]; rfl
  have h2 : (Lib.decDigits n).length ≤ 10 := by rw [Lib.decDigits_length]; exact nd_le 9 n (by omega)
  have h3 : Lib.decDigits n ≠ [] := fun h => by have := Lib.decDigits_length n; have := Lib.nDigits_pos n; rw [h] at *; simp at *; omega
  rw [h1]
  have h4 := dec_lod n
  unfold rightB
  rcases isV_iff.1 hk with rfl | rfl | rfl <;> simp [h3, h4] <;> omega
theorem nameV_inj {k k' : Int} {s s' : List UInt8} (h : nameV k s = nameV k' s') : s = s' := by
  unfold nameV at h
  have hl : ∀ k : Int, (if k = 5 then [115, 46] else if k = 6 then [116, 46] else [101, 46] : List UInt8).length = 2 := fun k => by split <;> (try split) <;> rfl
  exact (List.append_inj h ((hl k).trans (hl k').symm)).2
theorem nameV_kind {k k' : Int} (hk : isV k = true) (hk' : isV k' = true) {s s' : List UInt8} (h : nameV k s = nameV k' s') : k = k' := by
  unfold nameV at h
  rcases isV_iff.1 hk with rfl | rfl | rfl <;> rcases isV_iff.1 hk' with rfl | rfl | rfl <;> simp at h <;> rfl
theorem nameV_ne (k : Int) (s : List UInt8) : nameV k s ≠ [] := by unfold nameV; split <;> (try split) <;> simp
theorem nameP_V {k : Int} (h : isV k = true) (s : List UInt8) : nameP k s = nameV k s := by unfold nameP; rw [if_pos h]
theorem nameP_no {k : Int} (h : isV k = false) (s : List UInt8) : nameP k s = [] := by unfold nameP; rw [if_neg (by simp [h])]
theorem varB_of {k : Int} {s : List UInt8} (hk : isV k = true) (hr : rightB k s [] = true) : varB (nameV k s) = some (k, s) := by
  unfold nameV
  rcases isV_iff.1 hk with rfl | rfl | rfl
  · show varB (115 :: 46 :: s) = _
    show (if (46 : UInt8) = 46 ∧ 0 ≤ idx3 115 ∧ rightB (5 + idx3 115) s [] = true then some (5 + idx3 115, s) else none) = _
    rw [show idx3 115 = 0 from rfl, if_pos ⟨rfl, by omega, hr⟩]; rfl
  · show varB (116 :: 46 :: s) = _
    show (if (46 : UInt8) = 46 ∧ 0 ≤ idx3 116 ∧ rightB (5 + idx3 116) s [] = true then some (5 + idx3 116, s) else none) = _
    rw [show idx3 116 = 1 from rfl, if_pos ⟨rfl, by omega, hr⟩]; rfl
  · show varB (101 :: 46 :: s) = _
    show (if (46 : UInt8) = 46 ∧ 0 ≤ idx3 101 ∧ rightB (5 + idx3 101) s [] = true then some (5 + idx3 101, s) else none) = _
    rw [show idx3 101 = 2 from rfl, if_pos ⟨rfl, by omega, hr⟩]; rfl
def ixW (x : List UInt8) : List (List UInt8) → Nat
  | [] => 0
  | y :: r => if y = x then 0 else ixW x r + 1
theorem ix_le (x : List UInt8) : ∀ w, ixW x w ≤ w.length
  | [] => Nat.le_refl _
  | y :: r => by have := ix_le x r; simp only [ixW, List.length_cons]; split <;> omega
theorem ix_mem {x : List UInt8} : ∀ {w}, x ∈ w → ixW x w < w.length ∧ w[ixW x w]? = some x
  | y :: r, h => by
    simp only [ixW]
    by_cases q : y = x
    · rw [if_pos q]; subst q; simp
    · rw [if_neg q]
      have := ix_mem (w := r) ((List.mem_cons.1 h).resolve_left (fun e => q e.symm))
      exact ⟨by simp; omega, by simpa using this.2⟩
theorem ix_not {x : List UInt8} : ∀ {w}, x ∉ w → ixW x w = w.length
  | [], h => rfl
  | y :: r, h => by
    simp only [List.mem_cons, not_or] at h
    simp only [ixW, List.length_cons]
    rw [if_neg (fun e => h.1 e.symm), ix_not h.2]
theorem ix_app {x : List UInt8} (r : List (List UInt8)) : ∀ {w}, x ∈ w → ixW x (w ++ r) = ixW x w
  | y :: t, h => by
    simp only [List.cons_append, ixW]
    by_cases q : y = x
    · rw [if_pos q, if_pos q]
    · rw [if_neg q, if_neg q, ix_app r ((List.mem_cons.1 h).resolve_left (fun e => q e.symm))]
theorem ix_new {x : List UInt8} : ∀ {w}, x ∉ w → ixW x (w ++ [x]) = w.length
  | [], h => by simp [ixW]
  | y :: r, h => by
    simp only [List.mem_cons, not_or] at h
    simp only [List.cons_append, ixW, List.length_cons]
    rw [if_neg (fun e => h.1 e.symm), ix_new h.2]
theorem ix_of {x : List UInt8} : ∀ {w : List (List UInt8)} {i : Nat}, w.Nodup → w[i]? = some x → ixW x w = i
  | y :: r, 0, hd, h => by
    have : y = x := by simpa using h
    simp [ixW, this]
  | y :: r, i + 1, hd, h => by
    rw [List.nodup_cons] at hd
    have h' : r[i]? = some x := by simpa using h
    have hm := List.mem_of_getElem? h'
    simp only [ixW]
    rw [if_neg (fun e : y = x => hd.1 (by rw [e]; exact hm)), ix_of hd.2 h']
def addN (w : List (List UInt8)) (x : List UInt8) : List (List UInt8) := if x ∈ w then w else w ++ [x]
theorem addN_ix (w : List (List UInt8)) (x : List UInt8) : x ∈ addN w x ∧ ixW x (addN w x) = ixW x w ∧ ∃ r, addN w x = w ++ r := by
  unfold addN
  by_cases h : x ∈ w
  · rw [if_pos h]; exact ⟨h, rfl, [], by simp⟩
  · rw [if_neg h]; exact ⟨by simp, by rw [ix_new h, ix_not h], _, rfl⟩
theorem addN_nd {w : List (List UInt8)} (x : List UInt8) (h : w.Nodup) : (addN w x).Nodup := by
  unfold addN
  split
  · exact h
  · rename_i q
    refine List.nodup_append.2 ⟨h, by simp, ?_⟩
    rintro a ha b hb rfl
    rw [List.mem_singleton] at hb
    exact q (hb ▸ ha)
theorem addN_len (w : List (List UInt8)) (x : List UInt8) : (addN w x).length ≤ w.length + 1 := by
  unfold addN; split <;> simp
mutual
def cnT (n : Nat) (w : List (List UInt8)) : Tm → Tm × List (List UInt8)
  | .mk k s c => if isV k = true then (.mk k (Lib.itoa ((n + ixW (nameV k s) w : Nat) : Int)) [], addN w (nameV k s)) else (.mk k s (cnL n w c).1, (cnL n w c).2)
def cnL (n : Nat) (w : List (List UInt8)) : List Tm → List Tm × List (List UInt8)
  | [] => ([], w)
  | t :: r => ((cnT n w t).1 :: (cnL n (cnT n w t).2 r).1, (cnL n (cnT n w t).2 r).2)
end
def nmOk (x : List UInt8) : Prop := ∃ k s, isV k = true ∧ rightB k s [] = true ∧ x = nameV k s
theorem fmt_var {k : Int} {s c} (hk : isV k = true) (h : fmt 8 (.mk k s c) = true) : rightB k s [] = true ∧ c = [] := by
  simp only [fmt, Bool.and_eq_true] at h
  have hc : c = [] := by
    rcases right_kids h.1.1 with h | h | h
    · rcases isV_iff.1 hk with h' | h' | h' <;> omega
    · rcases isV_iff.1 hk with h' | h' | h' <;> omega
    · exact h
  subst hc
  exact ⟨h.1.1, rfl⟩
theorem fmt_no {k : Int} {s c} (h : fmt 8 (.mk k s c) = true) : fms 8 c = true := by
  simp only [fmt, Bool.and_eq_true] at h
  exact h.2
mutual
theorem cnT_len (n : Nat) (w) : ∀ t, (cnT n w t).2.length ≤ w.length + szt t
  | .mk k s c => by
    rw [cnT, szt]
    split
    · have := addN_len w (nameV k s); dsimp only; omega
    · have := cnL_len n w c; dsimp only; omega
theorem cnL_len (n : Nat) (w) : ∀ l, (cnL n w l).2.length ≤ w.length + szs l
  | [] => Nat.le_refl _
  | t :: r => by
    have h1 := cnT_len n w t
    have h2 := cnL_len n (cnT n w t).2 r
    simp only [cnL, szs]
    omega
end
mutual
theorem cnT_app (n : Nat) (w) : ∀ t, ∃ r, (cnT n w t).2 = w ++ r
  | .mk k s c => by
    rw [cnT]
    split
    · exact (addN_ix w _).2.2
    · exact cnL_app n w c
theorem cnL_app (n : Nat) (w) : ∀ l, ∃ r, (cnL n w l).2 = w ++ r
  | [] => ⟨[], by simp [cnL]⟩
  | t :: r => by
    obtain ⟨p, h1⟩ := cnT_app n w t
    obtain ⟨q, h2⟩ := cnL_app n (cnT n w t).2 r
    exact ⟨p ++ q, by rw [cnL, h2, h1, List.append_assoc]⟩
end
mutual
theorem cnT_nd (n : Nat) (w) (h : w.Nodup) : ∀ t, (cnT n w t).2.Nodup
  | .mk k s c => by
    rw [cnT]
    split
    · exact addN_nd _ h
    · exact cnL_nd n w h c
theorem cnL_nd (n : Nat) (w) (h : w.Nodup) : ∀ l, (cnL n w l).2.Nodup
  | [] => h
  | t :: r => by rw [cnL]; exact cnL_nd n _ (cnT_nd n w h t) r
end
mutual
theorem cnT_ok (n : Nat) (w) (h : ∀ x ∈ w, nmOk x) : ∀ t, fmt 8 t = true → ∀ x ∈ (cnT n w t).2, nmOk x
  | .mk k s c, hf, x, hx => by
    rw [cnT] at hx
    split at hx
    · rename_i hk
      unfold addN at hx
      dsimp only at hx
      split at hx
      · exact h x hx
      · rcases List.mem_append.1 hx with hx | hx
        · exact h x hx
        · rw [List.mem_singleton] at hx
          exact ⟨k, s, hk, (fmt_var hk hf).1, hx⟩
    · exact cnL_ok n w h c (fmt_no hf) x hx
theorem cnL_ok (n : Nat) (w) (h : ∀ x ∈ w, nmOk x) : ∀ l, fms 8 l = true → ∀ x ∈ (cnL n w l).2, nmOk x
  | [], hf, x, hx => h x hx
  | t :: r, hf, x, hx => by
    simp only [fms, Bool.and_eq_true] at hf
    rw [cnL] at hx
    exact cnL_ok n _ (cnT_ok n w h t hf.1) r hf.2 x hx
end
mutual
theorem cnT_var (n : Nat) (w) : ∀ t, fmt 8 t = true → (visT varS w t).2 = (cnT n w t).2
  | .mk k s c, hf => by
    cases hk : isV k with
    | true =>
      obtain ⟨_, rfl⟩ := fmt_var hk hf
      simp only [visT, visL, varS, cnT, hk, if_true, nameP_V hk, nameV_ne, false_or, addN, List.contains_eq_mem, decide_eq_true_eq]
    | false =>
      have := cnL_var n w c (fmt_no hf)
      simp only [visT, varS, cnT, hk, nameP_no hk, true_or, if_true]
      rw [if_neg (by simp)]
      exact this
theorem cnL_var (n : Nat) (w) : ∀ l, fms 8 l = true → (visL varS w l).2 = (cnL n w l).2
  | [], hf => rfl
  | t :: r, hf => by
    simp only [fms, Bool.and_eq_true] at hf
    have h1 := cnT_var n w t hf.1
    have h2 := var_T t w
    simp only [visL, cnL]
    rw [← h1]
    revert h2
    generalize visT varS w t = q
    obtain ⟨b, x⟩ := q
    intro h2
    dsimp only at h2 ⊢
    subst h2
    exact cnL_var n x r hf.2
end
theorem varL_cn (n : Nat) {a : List Tm} (hf : fms 8 a = true) : varL a = (cnL n [] a).2 := cnL_var n [] a hf
theorem findB_fr {x : List UInt8} : ∀ {W : List (List UInt8)} {n : Nat}, x ∈ W → findB x (frL W (n : Int)) = some [.mk (((varB x).map (·.1)).getD 0) (Lib.itoa ((n + ixW x W : Nat) : Int)) []]
  | y :: r, n, h => by
    simp only [frL, findB, frB, ixW]
    by_cases q : y = x
    · subst q; simp
    · have h' := (List.mem_cons.1 h).resolve_left (fun e => q e.symm)
      have := findB_fr (n := n + 1) h'
      rw [if_neg (by simpa using q), if_neg q, show ((n : Int) + 1) = ((n + 1 : Nat) : Int) by omega, this, show n + 1 + ixW x r = n + (ixW x r + 1) by omega]
theorem valB_no {l : List Bn} {k : Int} (hk : isV k = false) (s : List UInt8) : valB l k s = none := by unfold valB; rw [if_neg (by simp [hk])]
theorem valB_V {l : List Bn} {k : Int} (hk : isV k = true) (s : List UInt8) : valB l k s = findB (nameV k s) l := by unfold valB; rw [if_pos hk]
mutual
theorem cnT_un (n : Nat) (W : List (List UInt8)) (w) : ∀ t, fmt 8 t = true → (∃ r, W = (cnT n w t).2 ++ r) → unT (frL W n) t = [(cnT n w t).1]
  | .mk k s c, hf, ⟨r, hW⟩ => by
    rw [unT]
    cases hk : isV k with
    | true =>
      obtain ⟨hr, rfl⟩ := fmt_var hk hf
      rw [cnT, if_pos hk] at hW ⊢
      dsimp only at hW ⊢
      obtain ⟨h1, h2, _⟩ := addN_ix w (nameV k s)
      have hm : nameV k s ∈ W := by rw [hW]; exact List.mem_append_left _ h1
      rw [valB_V hk, findB_fr hm, varB_of hk hr, hW, ix_app r h1, h2]
      rfl
    | false =>
      rw [cnT, if_neg (by simp [hk])] at hW ⊢
      rw [valB_no hk]
      dsimp only at hW ⊢
      rw [cnL_un n W w c (fmt_no hf) ⟨r, hW⟩]
theorem cnL_un (n : Nat) (W : List (List UInt8)) (w) : ∀ l, fms 8 l = true → (∃ r, W = (cnL n w l).2 ++ r) → unL (frL W n) l = (cnL n w l).1
  | [], hf, _ => rfl
  | t :: r, hf, ⟨q, hW⟩ => by
    simp only [fms, Bool.and_eq_true] at hf
    rw [cnL] at hW ⊢
    dsimp only at hW ⊢
    obtain ⟨p, h1⟩ := cnL_app n (cnT n w t).2 r
    rw [unL, cnT_un n W w t hf.1 ⟨p ++ q, by rw [hW, h1, List.append_assoc]⟩, cnL_un n W _ r hf.2 ⟨q, hW⟩]
    rfl
end
def frE (e : List Tm) (n : Nat) : List Tm := unL (frL (varL e) n) e
theorem frE_cn (n : Nat) {e : List Tm} (hf : fms 8 e = true) : frE e n = (cnL n [] e).1 := by
  unfold frE
  rw [varL_cn n hf]
  exact cnL_un n _ [] e hf ⟨[], by simp⟩
mutual
theorem cnT_right (n : Nat) (w) : ∀ t, n + w.length + szt t ≤ 2000000000 → fmt 8 t = true → fmt 8 (cnT n w t).1 = true ∧ szt (cnT n w t).1 = szt t ∧ dpt (cnT n w t).1 = dpt t
  | .mk k s c, hn, hf => by
    cases hk : isV k with
    | true =>
      obtain ⟨hr, rfl⟩ := fmt_var hk hf
      have := ix_le (nameV k s) w
      rw [cnT, if_pos hk]
      refine ⟨?_, rfl, ?_⟩
      · simp only [fmt, fms, Bool.and_eq_true, decide_eq_true_eq] at hf ⊢
        exact ⟨⟨right_itoa hk _ (by simp only [szt] at hn; omega), hf.1.2⟩, trivial⟩
      · simp [dpt]
    | false =>
      rw [cnT, if_neg (by simp [hk])]
      obtain ⟨h1, h2, h3, h4⟩ := cnL_right n w c (by simp only [szt] at hn; omega) (fmt_no hf)
      refine ⟨?_, by simp only [szt, h2], ?_⟩
      · simp only [fmt, Bool.and_eq_true] at hf ⊢
        exact ⟨⟨right_c (fun h => by subst h; rfl) hf.1.1, hf.1.2⟩, h1⟩
      · simp only [dpt, h3]
        by_cases hc : c = []
        · subst hc; rfl
        · have : (cnL n w c).1 ≠ [] := fun h => hc (h4 h)
          simp only [ne_eq, hc, this]
theorem cnL_right (n : Nat) (w) : ∀ l, n + w.length + szs l ≤ 2000000000 → fms 8 l = true → fms 8 (cnL n w l).1 = true ∧ szs (cnL n w l).1 = szs l ∧ dps (cnL n w l).1 = dps l ∧ ((cnL n w l).1 = [] → l = [])
  | [], hn, hf => ⟨rfl, rfl, rfl, fun _ => rfl⟩
  | t :: r, hn, hf => by
    simp only [fms, Bool.and_eq_true] at hf
    simp only [szs] at hn
    have hl := cnT_len n w t
    obtain ⟨h1, h2, h3⟩ := cnT_right n w t (by omega) hf.1
    obtain ⟨g1, g2, g3, _⟩ := cnL_right n (cnT n w t).2 r (by omega) hf.2
    simp only [cnL, fms, szs, dps, h1, h2, h3, g1, g2, g3]
    exact ⟨rfl, trivial, trivial, fun h => by cases h⟩
end
theorem frE_right {n : Nat} {e : List Tm} (hn : n ≤ 1000000000) (h : errB 8 e = 0) : errB 8 (frE e n) = 0 ∧ szs (frE e n) = szs e := by
  obtain ⟨h1, h2, h3⟩ := errB_iff.1 h
  rw [frE_cn n h3]
  obtain ⟨g1, g2, g3, _⟩ := cnL_right n [] e (by simp; omega) h3
  exact ⟨errB_iff.2 ⟨by omega, by omega, g1⟩, g2⟩
end Go.Vi
