/-
  The law ApplyTo.
-/
import Derived.Test.YtpibnnopnhmijaaGreatDoorRE
import Derived.Test.YtpibnnopnhmijaaGreatDoorRB
import Derived.Test.YtpibnnopnhmijaaGreatDoorRC
import Derived.Test.YtpibnnopnhmijaaGreatDoorRD
import Derived.Test.YtpibnnopnhmijaaGreatDoorRA
set_option linter.unusedSimpArgs false
set_option linter.unusedVariables false
set_option maxRecDepth 100000
set_option maxHeartbeats 1000000
namespace Go.Vi
open Go Go.Proofs

mutual
theorem lmT_sz : ∀ (t : Tm) (most n : Int), 0 ≤ n → n + 1 ≤ most → lmT most n t ≤ most → lmT most n t = n + szt t
  | .mk k s c, most, n, h0, h1, h => by
    simp only [lmT] at h ⊢
    have := lmL_sz c (most - (n + 1)) 0 (by omega) (by omega) (by omega)
    rw [this]
    simp only [szt]
    omega
theorem lmL_sz : ∀ (l : List Tm) (most n : Int), 0 ≤ most → 0 ≤ n → lmL most n l ≤ most → lmL most n l = n + szs l
  | [], most, n, h0, h1, h => by simp only [lmL, szs]; omega
  | t :: r, most, n, h0, h1, h => by
    simp only [lmL] at h ⊢
    by_cases q : n + 1 > most
    · rw [if_pos q] at h; omega
    · rw [if_neg q] at h ⊢
      obtain ⟨b1, b2⟩ := szT_le t most n h1 (by omega)
      obtain ⟨b3, b4⟩ := szL_le r most (lmT most n t) h0 (by omega)
      rw [lmL_sz r most _ h0 (by omega) h, lmT_sz t most n h1 (by omega) (by omega)]
      simp only [szs]
      omega
end
end Go.Vi
set_option maxRecDepth 100000
set_option maxHeartbeats 1000000
namespace Go.Vi
open Go Go.Proofs

/-! ### match.Find -/
end Go.Vi
set_option maxRecDepth 100000
set_option maxHeartbeats 1000000
namespace Go.Vi
open Go Go.Proofs

def A21 (s : St) (d : List Bn) : Prop := ∃ v8 sz, (sz = 2 ∨ sz = 0) ∧ tget s.τ 8 = .ref ⟨0, 8, 0⟩ v8 0 d.length ∧ lget s.L (8, 0) = some (v8, .arr sz (d.map Bn.v))
theorem A21.of {s d} (h : tget s.τ 8 = .ref ⟨0, 8, 0⟩ (ver s (8, 0)) 0 d.length) (h' : lget s.L (8, 0) = some (ver s (8, 0), .arr 2 (d.map Bn.v))) : A21 s d := ⟨_, 2, .inl rfl, h, h'⟩
end Go.Vi
set_option maxRecDepth 100000
set_option maxHeartbeats 1000000
namespace Go.Vi
open Go Go.Proofs

end Go.Vi
set_option maxRecDepth 100000
set_option maxHeartbeats 1000000
namespace Go.Vi
open Go Go.Proofs

end Go.Vi
namespace Go.Vi
open Go Go.Proofs

/-! ### composition -/
/-! ### check, in words -/
/-! ### form -/
theorem right_kids {k : Int} {s : List UInt8} {c : List Tm} (hr : rightB k s c = true) : k = 4 ∨ k = 8 ∨ c = [] := by
  by_cases k4 : k = 4
  · exact .inl k4
  · by_cases k8 : k = 8
    · exact .inr (.inl k8)
    · refine .inr (.inr ?_)
      unfold rightB at hr
      rw [if_neg k4, if_neg k8] at hr
      by_cases hc : c = []
      · exact hc
      · rw [if_pos hc] at hr; cases hr
end Go.Vi
namespace Go.Vi
open Go Go.Proofs

/-! ### Compose -/
end Go.Vi
set_option maxRecDepth 100000
set_option maxHeartbeats 1000000
namespace Go.Vi
open Go Go.Proofs

end Go.Vi
set_option maxRecDepth 100000
set_option maxHeartbeats 1000000
namespace Go.Vi
open Go Go.Proofs

def varS (w : List (List UInt8)) : Tm → Bool × List (List UInt8)
  | .mk k s _ => (true, if nameP k s = [] ∨ w.contains (nameP k s) = true then w else w ++ [nameP k s])
noncomputable abbrev T727 : List (FuncId × (List V → Option V)) := [(37, FnameP), (62, F53)]
noncomputable abbrev B27 (lvl n : Nat) : Mc := mcRd (Cx (hand T727)) (lpOf (M727 (hand T727) 0).E) lvl n
theorem b27 (lvl n) : (B27 lvl n).E.keep = [0, 2, 3, 4, 5, 6, 9, 10, 20] ∧ (B27 lvl n).E.cnd = [20] ∧ (B27 lvl n).E.frz = [6] ∧ (B27 lvl n).E.pro = [] ∧ (B27 lvl n).E.imp = [] ∧ (B27 lvl n).E.n = 28 ∧ (B27 lvl n).E.lvl = lvl ∧ (B27 lvl n).E.P = Tryz.prog ∧ (B27 lvl n).fuel = n ∧ (B27 lvl n).C = hand T727 ∧ (B27 lvl n).E.ok = okL := ⟨rfl, rfl, rfl, rfl, rfl, rfl, rfl, rfl, rfl, rfl, rfl⟩
def kvS (w : List (List UInt8)) : List (V × V) := w.map fun x => (.str x, .bool true)
def rowS (O : Heap) (w : List (List UInt8)) (row : V) : Prop := (w = [] ∧ row = .nilS) ∨ ∃ vr, row = .ref ⟨0, 3, 1⟩ vr 0 w.length ∧ O ⟨0, 3, 1⟩ = some (vr, .arr 1 (w.map .str))
def U27 (N : List (List UInt8)) (v3 v4 vm : Nat) (w : List (List UInt8)) (b : Bool) (O : Heap) : Prop :=
  (∃ row, O ⟨0, 3, 0⟩ = some (v3, .var [row]) ∧ rowS O w row) ∧ O ⟨0, 4, 0⟩ = some (v4, .var [.mref ⟨0, 4, 1⟩ vm]) ∧ O ⟨0, 4, 1⟩ = some (vm, .map (kvS w)) ∧ w.Nodup ∧ ∀ y ∈ w, y ∈ N
mutual
def nmT : Tm → List (List UInt8)
  | .mk k s c => nameP k s :: nmL c
def nmL : List Tm → List (List UInt8)
  | [] => []
  | t :: r => nmT t ++ nmL r
end
mutual
theorem nmT_len : ∀ t, (nmT t).length = szt t
  | .mk k s c => by rw [nmT, List.length_cons, nmL_len c, szt]
theorem nmL_len : ∀ l, (nmL l).length = szs l
  | [] => rfl
  | t :: r => by rw [nmL, List.length_append, nmT_len t, nmL_len r, szs]
end
theorem nm_mem {x : List UInt8} : ∀ {l : List Tm} {t}, t ∈ l → x ∈ nmT t → x ∈ nmL l
  | u :: r, t, h, hx => by
    rw [nmL, List.mem_append]
    rcases List.mem_cons.1 h with rfl | h
    · exact .inl hx
    · exact .inr (nm_mem h hx)
def ok27 (N : List (List UInt8)) (t : Tm) : Prop := txt1 t ∧ ∀ x ∈ nmT t, x ∈ N
theorem ok27_kids (N : List (List UInt8)) (k : Int) (s : List UInt8) (c : List Tm) (h : ok27 N (.mk k s c)) : ∀ u ∈ c, ok27 N u := fun u hu =>
  ⟨txt_kids k s c h.1 u hu, fun x hx => h.2 x (by rw [nmT]; exact List.mem_cons_of_mem _ (nm_mem hu hx))⟩
theorem sub_len : ∀ (w N : List (List UInt8)), w.Nodup → (∀ y ∈ w, y ∈ N) → w.length ≤ N.length
  | [], N, _, _ => Nat.zero_le _
  | y :: r, N, hd, h => by
    rw [List.nodup_cons] at hd
    have hy := h y (by simp)
    have := sub_len r (N.erase y) hd.2 (fun z hz => (List.mem_erase_of_ne (fun e => hd.1 (by rw [← e]; exact hz))).2 (h z (by simp [hz])))
    rw [List.length_erase_of_mem hy] at this
    have := List.length_pos_of_mem hy
    simp only [List.length_cons]
    omega
theorem find_kvS (x : List UInt8) : ∀ (w : List (List UInt8)) (i : Nat), if w.contains x = true then ∃ j, mfind (.str x) (kvS w) i = some (some (j, .bool true)) else mfind (.str x) (kvS w) i = some none
  | [], i => rfl
  | y :: r, i => by
    simp only [kvS, List.map_cons, mfind, keyEq_str, List.contains_cons]
    cases h : x == y with
    | true => simp
    | false =>
      rw [Bool.false_or]
      exact find_kvS x r (i + 1)
noncomputable abbrev as27 : Code := (rfA (sub [1, 1, 1, 0, 1, 0] c727)).1
noncomputable abbrev bd27 : Code := (rfA (sub [1, 1, 1, 0, 1, 0] c727)).2
noncomputable abbrev lp27 : Lp := lpOf (M727 (hand T727) 0).E
def verO (O : Heap) (k : Key) : Nat := ((O k).map (·.1)).getD 0
theorem U27.of {N : List (List UInt8)} {v3 v4 vm : Nat} {w : List (List UInt8)} {b : Bool} {O : Heap} (h1 : O ⟨0, 3, 0⟩ = some (v3, .var [.ref ⟨0, 3, 1⟩ (verO O ⟨0, 3, 1⟩) 0 w.length])) (h2 : O ⟨0, 3, 1⟩ = some (verO O ⟨0, 3, 1⟩, .arr 1 (w.map .str)))
    (h3 : O ⟨0, 4, 0⟩ = some (v4, .var [.mref ⟨0, 4, 1⟩ vm])) (h4 : O ⟨0, 4, 1⟩ = some (vm, .map (kvS w))) (h5 : w.Nodup ∧ ∀ y ∈ w, y ∈ N) : U27 N v3 v4 vm w b O := ⟨⟨_, h1, .inr ⟨_, rfl, h2⟩⟩, h3, h4, h5⟩
def odel (O : Heap) (k : Key) : Heap := fun q => if q = k then none else O q
theorem odel_get {O : Heap} {k q : Key} : odel O k q = if q = k then none else O q := rfl
theorem del_lo {E : Env} {s : St} {l sl off : Nat} (h : l < E.lvl) : St.del E s ⟨l, sl, off⟩ = ⟨s.τ, s.L, odel s.O ⟨l, sl, off⟩, s.c⟩ := by
  unfold St.del
  rw [if_neg (by dsimp only; omega)]
  rfl
theorem y27 {N : List (List UInt8)} (hN : N.length ≤ 1000000) {v3 v4 vm ver : Nat} {τ : List (Nat × V)} (h3 : tget τ 3 = .ptr ⟨0, 3, 0⟩ v3 0 0) (h4 : tget τ 4 = .ptr ⟨0, 4, 0⟩ v4 0 0) :
    Yields (hand T727) 0 ⟨0, 29, 0⟩ ver (ok27 N) (InvL ⟨0, 29, 0⟩ ver lp27 τ [10] as27 bd27 (fun _ => .ret) (U27 N v3 v4 vm)) varS := by
  refine yields_of rfl ⟨rfl, by decide, by decide⟩ (fun x b O O' e ⟨⟨row, h1, h2⟩, h3, h4, h5⟩ => ⟨⟨row, (e 3 0 (by simp)).trans h1, ?_⟩, (e 4 0 (by simp)).trans h3, (e 4 1 (by simp)).trans h4, h5⟩) ?_
  · rcases h2 with h2 | ⟨vr, h2, h3⟩
    · exact .inl h2
    · exact .inr ⟨vr, h2, (e 3 1 (by simp)).trans h3⟩
  intro n lvl x t c O hn hlv hok ⟨⟨row, u1, u2⟩, u3, u4, u5⟩
  obtain ⟨k1, s1, c1⟩ := t
  obtain ⟨hok, hnm⟩ := hok
  simp only [txt1] at hok
  have hin : nameP k1 s1 ∈ N := hnm _ (by simp [nmT])
  have u5l := sub_len x N u5.1 u5.2
  have e := Ftm_eq (f := fun k s => .str (nameP k s)) k1 c1 hok.1
  have lv0 := eq_true (show 0 < lvl by omega)
  rw [tv_mk]
  have hA : ∃ s : St, R (mcRd (Cx (hand T727)) lp27 lvl n) as27 .top ⟨setPs τ [10] [.agg [I k1, .str s1, Ts c1]], [], O, c⟩ = some (.norm, s) ∧ s.O = O ∧ tget s.τ 3 = .ptr ⟨0, 3, 0⟩ v3 0 0 ∧ tget s.τ 4 = .ptr ⟨0, 4, 0⟩ v4 0 0 ∧ tget s.τ 5 = .ptr ⟨lvl, 5, 0⟩ c 0 0 ∧ lget s.L (5, 0) = some (c, .var [I k1, .str s1, Ts c1]) := by
    simp only [as27, rfA, sub, c727, Tryz.f30, gets]
    change ∃ s : St, R (B27 lvl n) _ _ _ = _ ∧ _
    simp only [vmr, vmw, vmp, vza, ↓reduceIte, Nat.reduceBEq, Nat.reduceLT, Nat.reduceAdd, Nat.reduceEqDiff, reduceCtorEq, vmt, vzb, vzc, vlen, vleaf, velems, oks, vst, vmd, ty, Nat.reduceLeDiff, Nat.reduceMul, Nat.reduceSub, b27, setPs, X_top]
    refine ⟨_, rfl, rfl, ?_, ?_, ?_, ?_⟩
    all_goals simp only [vmr, vmw, vmp, vza, ↓reduceIte, Nat.reduceBEq, Nat.reduceLT, Nat.reduceAdd, Nat.reduceEqDiff, reduceCtorEq, vmt, vzb, vzc, vlen, vleaf, velems, oks, vst, vmd, ty, Nat.reduceLeDiff, Nat.reduceMul, Nat.reduceSub, b27, h3, h4]
  obtain ⟨s, hr, hO, t3, t4, t5, l5⟩ := hA
  refine ⟨s, hr, hO, fun O2 ho hq => ?_⟩
  have g1 := (ho ⟨0, 3, 0⟩ (by simp)).trans u1
  have g2 := (ho ⟨0, 4, 0⟩ (by simp)).trans u3
  have g3 := (ho ⟨0, 4, 1⟩ (by simp)).trans u4
  have g4 := ho ⟨0, 3, 1⟩ (by simp)
  generalize Obj.loop lp27 τ [10] as27 bd27 .busy none = ob at hq ⊢
  simp only [bd27, rfA, sub, c727, Tryz.f30, gets]
  change BodyQ _ _ _ _ _ _ _ _ (R (B27 lvl n) _ _ _)
  simp only [varS]
  by_cases q1 : nameP k1 s1 = []
  · have q1' : (nameP k1 s1 == []) = true := by simp [q1]
    rw [if_pos (.inl q1)]
    simp only [vmr, vmw, vmp, vza, ↓reduceIte, Nat.reduceBEq, Nat.reduceLT, Nat.reduceAdd, Nat.reduceEqDiff, reduceCtorEq, vmt, vzb, vzc, vlen, vleaf, velems, oks, vst, vmd, ty, Nat.reduceLeDiff, Nat.reduceMul, Nat.reduceSub, b27, t3, t4, t5, l5, g1, g2, g3, obj_lo, put_lo, oput_get, key_eq, lv0, q1', e, X_top, strOp]
    refine ⟨_, _, rfl, rfl, ?_, ⟨⟨row, ?_, ?_⟩, ?_, ?_, u5⟩, fun l sl off h0 hl => ?_⟩
    case refine_3 =>
      rcases u2 with h | ⟨vr, h, h'⟩
      · exact .inl h
      · exact .inr ⟨vr, h, g4.trans h'⟩
    all_goals simp [oput_get, key_eq, hq, g1, g2, g3]
  · have q1' : (nameP k1 s1 == []) = false := by simpa using q1
    have kok : keyOk Tryz.prog 9 (.str (nameP k1 s1)) = true := by kernel_rfl
    have hf := find_kvS (nameP k1 s1) x 0
    by_cases q2 : x.contains (nameP k1 s1) = true
    · rw [if_pos (.inr q2)]
      rw [q2] at hf
      obtain ⟨j, hf⟩ := hf
      simp only [vmr, vmw, vmp, vza, ↓reduceIte, Nat.reduceBEq, Nat.reduceLT, Nat.reduceAdd, Nat.reduceEqDiff, reduceCtorEq, vmt, vzb, vzc, vlen, vleaf, velems, oks, vst, vmd, ty, Nat.reduceLeDiff, Nat.reduceMul, Nat.reduceSub, b27, t3, t4, t5, l5, g1, g2, g3, obj_lo, put_lo, oput_get, key_eq, lv0, q1', e, X_top, strOp, kok, mapGet, hf]
      refine ⟨_, _, rfl, rfl, ?_, ⟨⟨row, ?_, ?_⟩, ?_, ?_, u5⟩, fun l sl off h0 hl => ?_⟩
      case refine_3 =>
        rcases u2 with h | ⟨vr, h, h'⟩
        · exact .inl h
        · exact .inr ⟨vr, h, g4.trans h'⟩
      all_goals simp [oput_get, key_eq, hq, g1, g2, g3]
    · rw [if_neg (by simp only [q1, q2, or_self]; simp)]
      rw [if_neg q2] at hf
      have hp : mput (.str (nameP k1 s1)) (.bool true) (kvS x) = some (kvS (x ++ [nameP k1 s1])) := by
        unfold mput
        rw [hf, kvS, kvS, List.map_append]; rfl
      have r1 : ∀ m, m ≤ 2000000 → roomOk Tryz.prog 9 m = true := fun m h => by simp [roomOk, ty, cellsV, leafV]; omega
      have r2 := r1 1 (by omega)
      have r3 := r1 (x.length + 1) (by omega)
      have u6 : (x ++ [nameP k1 s1]).Nodup ∧ ∀ y ∈ x ++ [nameP k1 s1], y ∈ N := by
        refine ⟨List.nodup_append.2 ⟨u5.1, by simp, ?_⟩, fun y hy => ?_⟩
        · rintro y hy z hz rfl
          rw [List.mem_singleton] at hz
          exact q2 (by simpa [hz] using hy)
        · rcases List.mem_append.1 hy with hy | hy
          · exact u5.2 y hy
          · rw [List.mem_singleton] at hy; exact hy ▸ hin
      have f1 : ∀ s : List UInt8, fitsE Tryz.prog 9 (.str s) = true := fun s => by simp [fitsE, ty, leafV]
      rcases u2 with ⟨hx, hrow⟩ | ⟨vr, hrow, hO2⟩
      · subst hrow
        subst hx
        simp only [vmr, vmw, vmp, vza, ↓reduceIte, Nat.reduceBEq, Nat.reduceLT, Nat.reduceAdd, Nat.reduceEqDiff, reduceCtorEq, vmt, vzb, vzc, vlen, vleaf, velems, oks, vst, vmd, ty, Nat.reduceLeDiff, Nat.reduceMul, Nat.reduceSub, b27, t3, t4, t5, l5, g1, g2, g3, obj_lo, put_lo, oput_get, key_eq, lv0, q1', e, X_top, strOp, kok, mapGet, mapPut, hf, hp, r2, r3, f1, List.map_cons, List.map_nil]
        refine ⟨_, _, rfl, rfl, ?_, U27.of ?_ ?_ ?_ ?_ u6, fun l sl off h0 hl => ?_⟩
        all_goals simp [verO, oput_get, odel_get, key_eq, hq, g1, g2, g3]
        have hl0 : l ≠ 0 := by omega
        simp [hl0]
      · subst hrow
        have g5 := g4.trans hO2
        simp only [vmr, vmw, vmp, vza, ↓reduceIte, Nat.reduceBEq, Nat.reduceLT, Nat.reduceAdd, Nat.reduceEqDiff, reduceCtorEq, vmt, vzb, vzc, vlen, vleaf, velems, oks, vst, vmd, ty, Nat.reduceLeDiff, Nat.reduceMul, Nat.reduceSub, b27, t3, t4, t5, l5, g1, g2, g3, g5, obj_lo, put_lo, del_lo, odel_get, oput_get, key_eq, lv0, q1', e, X_top, strOp, kok, mapGet, mapPut, hf, hp, r2, r3, f1, List.map_cons, List.map_nil]
        refine ⟨_, _, rfl, rfl, ?_, U27.of ?_ ?_ ?_ ?_ u6, fun l sl off h0 hl => ?_⟩
        all_goals simp [verO, oput_get, odel_get, key_eq, hq, g1, g2, g3]
        have hl0 : l ≠ 0 := by omega
        simp [hl0]
end Go.Vi
set_option maxRecDepth 100000
set_option maxHeartbeats 1000000
namespace Go.Vi
open Go Go.Proofs

theorem keysOf_var : ∀ (L : Loc) (q : Nat × Nat) (v : Nat) (cs : List V), lget L q = some (v, .var cs) → ∀ j, j < cs.length → (q.1, q.2 + j + 1) ∈ keysOf L
  | [], q, v, cs, h, j, hj => by cases h
  | (p, (w, o)) :: r, q, v, cs, h, j, hj => by
    simp only [lget] at h
    by_cases e : q = p
    · subst e
      rw [if_pos rfl] at h
      injection h with h
      injection h with h1 h2
      subst h2
      simp only [keysOf, List.mem_cons, List.mem_append, List.mem_map, List.mem_range]
      exact .inl (.inr ⟨j, hj, rfl⟩) 
    · rw [if_neg e] at h
      have := keysOf_var r q v cs h j hj
      cases o <;> simp [keysOf, this]
theorem range_all2 {σ : Type} {H : FuncId → Option (List V → Option V)} {M : Mc} {n n0 : Nat} {k : K} {s : St} {f : Operand} {ps : Array Nat} {ac bd : Code} {jf : σ → Code} {U : σ → Bool → Heap → Prop} {ok : Tm → Prop} {step : σ → Tm → Bool × σ} {P : Option (Ex × St) → Prop} {x : σ} {a : List Tm} (hM : M.call = evF (Cx H) (n + 2)) (hl : M.E.lvl = 0) (hk : M.E.ok.contains 88 = true) (hi : M.E.inr = false)
    (hf : evalO s f = .fn (.func 88) [] [.iptr [Ts a]]) (hY : Yields H n0 (loopKey M.E) s.c ok (InvL (loopKey M.E) s.c (lpOf M.E) s.τ ps.toList ac bd jf U) step)
    (hU : ∀ x b O O', (∀ sl off, (⟨0, sl, off⟩ : Key) ≠ loopKey M.E → O' ⟨0, sl, off⟩ = O ⟨0, sl, off⟩) → U x b O → U x b O') (hok : ∀ k s c, ok (.mk k s c) → ∀ u ∈ c, ok u) (hb : szs a ≤ 1000000) (hao : ∀ t ∈ a, ok t) (hn : n0 + szs a < n)
    (h0 : ∀ O, (∀ sl off, O ⟨0, sl, off⟩ = lget s.L (sl, off)) → U x true O) (hj : ∀ x, ∃ e, jumpEx (some (jf x)) = some e)
    (h : ∀ s' e O', s'.τ = s.τ → U (visL step x a).2 (visL step x a).1 O' → (∀ sl off y, sl ≠ M.E.n + 1 → ((lget s.L (sl, off)).isSome = true ∨ ∃ v cs j, lget s.L (sl, 0) = some (v, .var cs) ∧ off = j + 1 ∧ j < cs.length) → O' ⟨0, sl, off⟩ = some y → lget s'.L (sl, off) = some y) → jumpEx (if (visL step x a).1 then none else some (jf (visL step x a).2)) = some e → P (X M e k s')) :
    P (R M (.rangeFunc f ps ac bd) k s) := by
  have hkey : loopKey M.E = ⟨0, M.E.n + 1, 0⟩ := by unfold loopKey; rw [hl]
  have hI : ∀ x b O O', (∀ sl off, O' ⟨0, sl, off⟩ = O ⟨0, sl, off⟩) → InvL (loopKey M.E) s.c (lpOf M.E) s.τ ps.toList ac bd jf U x b O → InvL (loopKey M.E) s.c (lpOf M.E) s.τ ps.toList ac bd jf U x b O' := fun x b O O' e ⟨h1, h2⟩ =>
    ⟨by rw [hkey] at h1 ⊢; rw [e]; exact h1, hU _ _ O _ (fun sl off _ => e sl off) h2⟩
  have hin : InvL (loopKey M.E) s.c (lpOf M.E) s.τ ps.toList ac bd jf U x true (heapOf 0 (lput s.L (M.E.n + 1, 0) (s.c, .loop (lpOf M.E) s.τ ps.toList ac bd .ready none)) s.O) := by
    refine ⟨?_, hU _ _ (heapOf 0 s.L s.O) _ (fun sl off hk => ?_) (h0 _ fun sl off => by rw [heapOf_get, if_pos rfl])⟩
    · rw [hkey, heapOf_get, if_pos rfl, lget_lput, if_pos rfl]; rfl
    · rw [heapOf_get, if_pos rfl, lget_lput, if_neg (fun e => hk (by rw [hkey]; injection e with e1 e2; rw [e1, e2])), heapOf_get, if_pos rfl]
  obtain ⟨c', O', hcall, hO1, hO2⟩ := w82 hY hI hok hb hao (n := n) (c := s.c + 1) hn (by rw [hkey]) hin
  obtain ⟨e, he⟩ : ∃ e, jumpEx (if (visL step x a).1 then none else some (jf (visL step x a).2)) = some e := by
    cases (visL step x a).1 with
    | true => exact ⟨_, rfl⟩
    | false => exact hj _
  rw [R_range (g := 88) (first := []) (c' := c') (O' := O') hf hk hi (by rw [hM, hl]; exact hcall) hO1 (by cases (visL step x a).1 <;> simp) he]
  refine h _ _ O' (by rw [hkey, del_s hl.symm]; rfl) hO2 (fun sl off y hs hx hy => ?_) he
  have hb : lget (back M.E ⟨s.τ, lput s.L (M.E.n + 1, 0) (s.c, .loop (lpOf M.E) s.τ ps.toList ac bd .ready none), s.O, s.c + 1⟩ c' O').L (sl, off) = some y := by
    refine mergeL_get _ _ _ _ (.inl ?_) (by rw [hl]; exact hy)
    rcases hx with hx | ⟨v, cs, j, hx, rfl, hj⟩
    · obtain ⟨z, hx⟩ := Option.isSome_iff_exists.1 hx
      exact keysOf_mem _ _ z (by show lget (lput s.L (M.E.n + 1, 0) _) (sl, off) = some z; rw [lget_lput, if_neg (by simp [hs]), hx])
    · have := keysOf_var (lput s.L (M.E.n + 1, 0) (s.c, .loop (lpOf M.E) s.τ ps.toList ac bd .ready none)) (sl, 0) v cs (by rw [lget_lput, if_neg (by simp [hs]), hx]) j hj
      rwa [Nat.zero_add] at this
  rw [hkey, del_s hl.symm]
  show lget (ldel _ (M.E.n + 1, 0)) (sl, off) = some y
  rw [lget_ldel, if_neg (by simp [hs])]
  exact hb

/-- The names of an expression, each once. -/
def varL (a : List Tm) : List (List UInt8) := (visL varS [] a).2
mutual
theorem var_T : ∀ (t : Tm) (w : List (List UInt8)), (visT varS w t).1 = true
  | .mk k s c, w => by
    simp only [visT, varS]
    exact var_L c _
theorem var_L : ∀ (l : List Tm) (w : List (List UInt8)), (visL varS w l).1 = true
  | [], w => rfl
  | t :: r, w => by
    simp only [visL]
    have := var_T t w
    revert this
    generalize visT varS w t = q
    obtain ⟨b, x⟩ := q
    intro h
    dsimp only at h
    subst h
    exact var_L r x
end
abbrev Ss (w : List (List UInt8)) : V := .lst (w.map .str)
theorem pureSs : ∀ w : List (List UInt8), pureRL (w.map .str) = true
  | [] => rfl
  | x :: r => by simp only [List.map_cons, pureRL, pureR, pureSs r, Bool.and_self]
theorem can_Ss : ∀ w : List (List UInt8), can (Ss w) = Ss w := fun w => by
  have : ∀ w : List (List UInt8), cans (w.map .str) = w.map .str := fun w => by
    induction w with
    | nil => rfl
    | cons x r ih => simp only [List.map_cons, cans, ih, canStr]
  show V.lst (cans (w.map .str)) = _
  rw [this]
def Fi27 (n : Nat) (v : V) (r : Option (Ex × St)) : Prop := Fin (M727 (hand T727) n) [.tmp 2] r = some (.ret v)
theorem h727 : SoundHand Tryz.prog (hand T727) := sound_cons F52_sound (sound_cons F53_sound sound_nil)
theorem w27 (a : List Tm) (hb : szs a ≤ 1000000) (ho : txs a) : SoundPure Tryz.prog 30 [Ts a] (.ret (Ss (varL a))) := by
  let Po : Option (Ex × St) → Prop := fun r => ∃ v, pureR v = true ∧ can (imm v) = Ss (varL a) ∧ Fi27 (szs a + 4) v r
  have key : Po (R (M727 (hand T727) (szs a + 4)) c727 .top ⟨params 0 [Ts a], [], fun _ => none, 0⟩) := by
    have e1 := F53_eq a
    have r1 := fun k s => @range_all2 (List (List UInt8)) (hand T727) (M727 (hand T727) (szs a + 4)) (szs a + 2) 0 k s (.tmp 9) #[10] as27 bd27 (fun _ => .ret)
    simp only [as27, bd27, rfA, sub, c727, Tryz.f30, gets] at r1
    simp only [c727, Tryz.f30, gets]
    simp only [vmr, vmw, vmp, vza, ↓reduceIte, Nat.reduceBEq, Nat.reduceLT, Nat.reduceAdd, Nat.reduceEqDiff, reduceCtorEq, vmt, vzb, vzc, vlen, vleaf, velems, oks, vst, vmd, ty, Nat.reduceLeDiff, Nat.reduceMul, Nat.reduceSub, m727, e1, newMap]
    have hN : (nmL a).length ≤ 1000000 := by rw [nmL_len]; exact hb
    have hU : ∀ x b O O', (∀ sl off, (⟨0, sl, off⟩ : Key) ≠ ⟨0, 29, 0⟩ → O' ⟨0, sl, off⟩ = O ⟨0, sl, off⟩) → U27 (nmL a) 0 2 3 x b O → U27 (nmL a) 0 2 3 x b O' := fun x b O O' e ⟨⟨row, h1, h2⟩, h3, h4, h5⟩ => ⟨⟨row, (e 3 0 (by simp)).trans h1, by
      rcases h2 with h2 | ⟨vr, h2, h3⟩
      · exact .inl h2
      · exact .inr ⟨vr, h2, (e 3 1 (by simp)).trans h3⟩⟩, (e 4 0 (by simp)).trans h3, (e 4 1 (by simp)).trans h4, h5⟩
    refine r1 _ _ (U := U27 (nmL a) 0 2 3) (ok := ok27 (nmL a)) (step := varS) (x := []) (a := a) (P := Po) rfl rfl (show okL.contains 88 = true by decide) rfl ?_ (y27 hN ?_ ?_) hU (ok27_kids (nmL a)) hb (fun t ht => ⟨txs_mem ho ht, fun x hx => nm_mem ht hx⟩) (by omega) (fun O h => ⟨⟨.nilS, (h 3 0).trans ?_, .inl ⟨rfl, rfl⟩⟩, (h 4 0).trans ?_, (h 4 1).trans ?_, List.nodup_nil, fun y hy => by cases hy⟩) (fun _ => ⟨_, rfl⟩) ?_
    case refine_7 =>
      intro s' e O' hτ hu hL hj
      rw [var_L] at hj
      injection hj with hj
      subst hj
      obtain ⟨⟨row, u1, u2⟩, _, _, u5, u6⟩ := hu
      have g3 := hL 3 0 _ (by show 3 ≠ 29; omega) (.inl (by simp only [vmr, vmw, vmp, vza, ↓reduceIte, Nat.reduceBEq, Nat.reduceLT, Nat.reduceAdd, Nat.reduceEqDiff, reduceCtorEq, vmt, vzb, vzc, vlen, vleaf, velems, oks, vst, vmd, ty, Nat.reduceLeDiff, Nat.reduceMul, Nat.reduceSub, m727])) u1
      have t3 : tget s'.τ 3 = .ptr ⟨0, 3, 0⟩ 0 0 0 := by rw [hτ]; simp only [vmr, vmw, vmp, vza, ↓reduceIte, Nat.reduceBEq, Nat.reduceLT, Nat.reduceAdd, Nat.reduceEqDiff, reduceCtorEq, vmt, vzb, vzc, vlen, vleaf, velems, oks, vst, vmd, ty, Nat.reduceLeDiff, Nat.reduceMul, Nat.reduceSub, m727]
      change rowS O' (varL a) row at u2
      rcases u2 with ⟨hw, hr⟩ | ⟨vr, hr, hO⟩
      · subst hr
        clear hτ hL u1
        refine ⟨.nilS, rfl, by rw [hw]; rfl, ?_⟩
        simp only [vmr, vmw, vmp, vza, ↓reduceIte, Nat.reduceBEq, Nat.reduceLT, Nat.reduceAdd, Nat.reduceEqDiff, reduceCtorEq, vmt, vzb, vzc, vlen, vleaf, velems, oks, vst, vmd, ty, Nat.reduceLeDiff, Nat.reduceMul, Nat.reduceSub, m727, X_blk, t3, g3]
        unfold Fi27
        simp only [vmr, vmw, vmp, vza, ↓reduceIte, Nat.reduceBEq, Nat.reduceLT, Nat.reduceAdd, Nat.reduceEqDiff, reduceCtorEq, vmt, vzb, vzc, vlen, vleaf, velems, oks, vst, vmd, ty, Nat.reduceLeDiff, Nat.reduceMul, Nat.reduceSub, vzr, m727]
      · subst hr
        have g4 := hL 3 1 _ (by show 3 ≠ 29; omega) (.inr ⟨0, [.nilS], 0, by simp only [vmr, vmw, vmp, vza, ↓reduceIte, Nat.reduceBEq, Nat.reduceLT, Nat.reduceAdd, Nat.reduceEqDiff, reduceCtorEq, vmt, vzb, vzc, vlen, vleaf, velems, oks, vst, vmd, ty, Nat.reduceLeDiff, Nat.reduceMul, Nat.reduceSub, m727], rfl, by simp⟩) hO
        clear hτ hL u1
        refine ⟨.own 1 ((varL a).map .str), ?_, ?_, ?_⟩
        · simp only [pureR, pureSs]
        · show can (imm (.own 1 ((varL a).map .str))) = _
          rw [show imm (V.own 1 ((varL a).map .str)) = .lst ((varL a).map .str) by simp only [imm, imms_map (e := V.str) (fun _ => rfl)]]
          exact can_Ss _
        · simp only [vmr, vmw, vmp, vza, ↓reduceIte, Nat.reduceBEq, Nat.reduceLT, Nat.reduceAdd, Nat.reduceEqDiff, reduceCtorEq, vmt, vzb, vzc, vlen, vleaf, velems, oks, vst, vmd, ty, Nat.reduceLeDiff, Nat.reduceMul, Nat.reduceSub, m727, X_blk, t3, g3, g4]
          unfold Fi27
          simp only [vmr, vmw, vmp, vza, ↓reduceIte, Nat.reduceBEq, Nat.reduceLT, Nat.reduceAdd, Nat.reduceEqDiff, reduceCtorEq, vmt, vzb, vzc, vlen, vleaf, velems, oks, vst, vmd, ty, Nat.reduceLeDiff, Nat.reduceMul, Nat.reduceSub, vzr, m727, g4, take_len]
    all_goals simp only [vmr, vmw, vmp, vza, ↓reduceIte, Nat.reduceBEq, Nat.reduceLT, Nat.reduceAdd, Nat.reduceEqDiff, reduceCtorEq, vmt, vzb, vzc, vlen, vleaf, velems, oks, vst, vmd, ty, Nat.reduceLeDiff, Nat.reduceMul, Nat.reduceSub, m727]
    all_goals rfl
  obtain ⟨v, hp, hc, hk⟩ := key
  have := sound_imm (s727 h727 (szs a + 4) (by simp) hp hk) hp
  rw [hc] at this
  exact this
noncomputable def F27 : List V → Option V := hF (α := List Tm) (fun p => [Ts p]) (fun p => szs p ≤ 1000000 ∧ txs p) (fun p => Ss (varL p))
theorem F27_eq {a : List Tm} (h : szs a ≤ 1000000) (ho : txs a) : F27 [Ts a] = some (Ss (varL a)) := hF_eq (a := a) (one_inj' fun _ _ => Ts_inj) (by simp only [cans, can_Ts]) ⟨h, ho⟩
theorem F27_sound : ∀ args v, F27 args = some v → SoundPure Tryz.prog 30 args (.ret v) := hF_sound fun p hp => w27 p hp.1 hp.2
end Go.Vi
set_option maxRecDepth 100000
set_option maxHeartbeats 1000000
namespace Go.Vi
open Go Go.Proofs

def A19 (s : St) (d : List V) : Prop := ∃ v8 sz, ((sz = 2 ∨ sz = 0) ∧ (d ≠ [] → sz = 2)) ∧ tget s.τ 8 = .ref ⟨0, 8, 0⟩ v8 0 d.length ∧ lget s.L (8, 0) = some (v8, .arr sz d)
theorem A19.of {s d} (h : tget s.τ 8 = .ref ⟨0, 8, 0⟩ (ver s (8, 0)) 0 d.length) (h' : lget s.L (8, 0) = some (ver s (8, 0), .arr 2 d)) : A19 s d := ⟨_, 2, ⟨.inl rfl, fun _ => rfl⟩, h, h'⟩
end Go.Vi
set_option maxRecDepth 100000
namespace Go.Vi
open Go Go.Proofs

theorem global1 : Tryz.prog.globalNamed "internal/strconv.uint64pow10" = some 3 := by kernel_rfl
end Go.Vi
namespace Go.Vi
open Go Go.Proofs

/-! ### numerals -/
theorem isV_iff {k : Int} : isV k = true ↔ k = 5 ∨ k = 6 ∨ k = 7 := by simp [isV]; omega
/-! ### names -/
theorem nameV_ne (k : Int) (s : List UInt8) : nameV k s ≠ [] := by unfold nameV; split <;> (try split) <;> simp
theorem nameP_V {k : Int} (h : isV k = true) (s : List UInt8) : nameP k s = nameV k s := by unfold nameP; rw [if_pos h]
theorem nameP_no {k : Int} (h : isV k = false) (s : List UInt8) : nameP k s = [] := by unfold nameP; rw [if_neg (by simp [h])]
/-! ### where a name stands -/
def ixW (x : List UInt8) : List (List UInt8) → Nat
  | [] => 0
  | y :: r => if y = x then 0 else ixW x r + 1
theorem ix_mem {x : List UInt8} : ∀ {w}, x ∈ w → ixW x w < w.length ∧ w[ixW x w]? = some x
  | y :: r, h => by
    simp only [ixW]
    by_cases q : y = x
    · rw [if_pos q]; subst q; simp
    · rw [if_neg q]
      have := ix_mem (w := r) ((List.mem_cons.1 h).resolve_left (fun e => q e.symm))
      exact ⟨by simp; omega, by simpa using this.2⟩
def addN (w : List (List UInt8)) (x : List UInt8) : List (List UInt8) := if x ∈ w then w else w ++ [x]
theorem addN_nd {w : List (List UInt8)} (x : List UInt8) (h : w.Nodup) : (addN w x).Nodup := by
  unfold addN
  split
  · exact h
  · rename_i q
    refine List.nodup_append.2 ⟨h, by simp, ?_⟩
    rintro a ha b hb rfl
    rw [List.mem_singleton] at hb
    exact q (hb ▸ ha)
theorem addN_len (w : List (List UInt8)) (x : List UInt8) : (addN w x).length ≤ w.length + 1 := by
  unfold addN; split <;> simp

/-! ### canonical names -/
mutual
/-- A term with the numbers of its variables for names. -/
def cnT (n : Nat) (w : List (List UInt8)) : Tm → Tm × List (List UInt8)
  | .mk k s c => if isV k = true then (.mk k (Lib.itoa ((n + ixW (nameV k s) w : Nat) : Int)) [], addN w (nameV k s)) else (.mk k s (cnL n w c).1, (cnL n w c).2)
def cnL (n : Nat) (w : List (List UInt8)) : List Tm → List Tm × List (List UInt8)
  | [] => ([], w)
  | t :: r => ((cnT n w t).1 :: (cnL n (cnT n w t).2 r).1, (cnL n (cnT n w t).2 r).2)
end
theorem fmt_var {k : Int} {s c} (hk : isV k = true) (h : fmt 8 (.mk k s c) = true) : rightB k s [] = true ∧ c = [] := by
  simp only [fmt, Bool.and_eq_true] at h
  have hc : c = [] := by
    rcases right_kids h.1.1 with h | h | h
    · rcases isV_iff.1 hk with h' | h' | h' <;> omega
    · rcases isV_iff.1 hk with h' | h' | h' <;> omega
    · exact h
  subst hc
  exact ⟨h.1.1, rfl⟩
theorem fmt_no {k : Int} {s c} (h : fmt 8 (.mk k s c) = true) : fms 8 c = true := by
  simp only [fmt, Bool.and_eq_true] at h
  exact h.2
mutual
theorem cnT_len (n : Nat) (w) : ∀ t, (cnT n w t).2.length ≤ w.length + szt t
  | .mk k s c => by
    rw [cnT, szt]
    split
    · have := addN_len w (nameV k s); dsimp only; omega
    · have := cnL_len n w c; dsimp only; omega
theorem cnL_len (n : Nat) (w) : ∀ l, (cnL n w l).2.length ≤ w.length + szs l
  | [] => Nat.le_refl _
  | t :: r => by
    have h1 := cnT_len n w t
    have h2 := cnL_len n (cnT n w t).2 r
    simp only [cnL, szs]
    omega
end
mutual
theorem cnT_var (n : Nat) (w) : ∀ t, fmt 8 t = true → (visT varS w t).2 = (cnT n w t).2
  | .mk k s c, hf => by
    cases hk : isV k with
    | true =>
      obtain ⟨_, rfl⟩ := fmt_var hk hf
      simp only [visT, visL, varS, cnT, hk, if_true, nameP_V hk, nameV_ne, false_or, addN, List.contains_eq_mem, decide_eq_true_eq]
    | false =>
      have := cnL_var n w c (fmt_no hf)
      simp only [visT, varS, cnT, hk, nameP_no hk, true_or, if_true]
      rw [if_neg (by simp)]
      exact this
theorem cnL_var (n : Nat) (w) : ∀ l, fms 8 l = true → (visL varS w l).2 = (cnL n w l).2
  | [], hf => rfl
  | t :: r, hf => by
    simp only [fms, Bool.and_eq_true] at hf
    have h1 := cnT_var n w t hf.1
    have h2 := var_T t w
    simp only [visL, cnL]
    rw [← h1]
    revert h2
    generalize visT varS w t = q
    obtain ⟨b, x⟩ := q
    intro h2
    dsimp only at h2 ⊢
    subst h2
    exact cnL_var n x r hf.2
end
theorem varL_cn (n : Nat) {a : List Tm} (hf : fms 8 a = true) : varL a = (cnL n [] a).2 := cnL_var n [] a hf
/-! ### Fresh is canonical -/
end Go.Vi
