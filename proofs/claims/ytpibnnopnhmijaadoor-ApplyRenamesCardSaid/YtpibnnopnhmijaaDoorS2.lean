/-
  Walk of Variables.
-/
import Derived.Test.YtpibnnopnhmijaaDoorRB
import Derived.Test.YtpibnnopnhmijaaDoorRC
import Derived.Test.YtpibnnopnhmijaaDoorRD
import Derived.Test.YtpibnnopnhmijaaDoorS1
import Derived.Test.YtpibnnopnhmijaaDoorRA
import Derived.Test.YtpibnnopnhmijaaDoorVD
import Derived.WalkKit
import Derived.ProofKit
import Derived.Test.YtpibnnopnhmijaaDoorCards
import Derived.Test.YtpibnnopnhmijaaDoorTie
import Derived.OpenShut
import Derived.Deep.DeepHandedRow
import Derived.Lib.LaidTab
set_option linter.unusedSimpArgs false
set_option linter.unusedVariables false
set_option maxRecDepth 100000
set_option maxHeartbeats 1000000
namespace Go.Vi
open Go Go.Proofs

def varS (w : List (List UInt8)) : Tm → Bool × List (List UInt8)
  | .mk k s _ => (true, if nameP k s = [] ∨ w.contains (nameP k s) = true then w else w ++ [nameP k s])
noncomputable abbrev T727 : List (FuncId × (List V → Option V)) := [(52, FnameP), (53, F53)]
noncomputable abbrev B27 (lvl n : Nat) : Mc := mcRd (Cx (hand T727)) (lpOf (M727 (hand T727) 0).E) lvl n
theorem b27 (lvl n) : (B27 lvl n).E.keep = [0, 2, 3, 4, 5, 6, 9, 10, 20] ∧ (B27 lvl n).E.cnd = [20] ∧ (B27 lvl n).E.frz = [6] ∧ (B27 lvl n).E.pro = [] ∧ (B27 lvl n).E.imp = [] ∧ (B27 lvl n).E.n = 28 ∧ (B27 lvl n).E.lvl = lvl ∧ (B27 lvl n).E.P = Tryd.prog ∧ (B27 lvl n).fuel = n ∧ (B27 lvl n).C = hand T727 ∧ (B27 lvl n).E.ok = okL := ⟨rfl, rfl, rfl, rfl, rfl, rfl, rfl, rfl, rfl, rfl, rfl⟩
def kvS (w : List (List UInt8)) : List (V × V) := w.map fun x => (.str x, .bool true)
def rowS (O : Heap) (w : List (List UInt8)) (row : V) : Prop := (w = [] ∧ row = .nilS) ∨ ∃ vr, row = .ref ⟨0, 3, 1⟩ vr 0 w.length ∧ O ⟨0, 3, 1⟩ = some (vr, .arr 1 (w.map .str))
def U27 (N : List (List UInt8)) (v3 v4 vm : Nat) (w : List (List UInt8)) (b : Bool) (O : Heap) : Prop :=
  (∃ row, O ⟨0, 3, 0⟩ = some (v3, .var [row]) ∧ rowS O w row) ∧ O ⟨0, 4, 0⟩ = some (v4, .var [.mref ⟨0, 4, 1⟩ vm]) ∧ O ⟨0, 4, 1⟩ = some (vm, .map (kvS w)) ∧ w.Nodup ∧ ∀ y ∈ w, y ∈ N
mutual
def nmT : Tm → List (List UInt8)
  | .mk k s c => nameP k s :: nmL c
def nmL : List Tm → List (List UInt8)
  | [] => []
  | t :: r => nmT t ++ nmL r
end
mutual
theorem nmT_len : ∀ t, (nmT t).length = szt t
  | .mk k s c => by rw [nmT, List.length_cons, nmL_len c, szt]
theorem nmL_len : ∀ l, (nmL l).length = szs l
  | [] => rfl
  | t :: r => by rw [nmL, List.length_append, nmT_len t, nmL_len r, szs]
end
theorem nm_mem {x : List UInt8} : ∀ {l : List Tm} {t}, t ∈ l → x ∈ nmT t → x ∈ nmL l
  | u :: r, t, h, hx => by
    rw [nmL, List.mem_append]
    rcases List.mem_cons.1 h with rfl | h
    · exact .inl hx
    · exact .inr (nm_mem h hx)
def ok27 (N : List (List UInt8)) (t : Tm) : Prop := txt1 t ∧ ∀ x ∈ nmT t, x ∈ N
theorem ok27_kids (N : List (List UInt8)) (k : Int) (s : List UInt8) (c : List Tm) (h : ok27 N (.mk k s c)) : ∀ u ∈ c, ok27 N u := fun u hu =>
  ⟨txt_kids k s c h.1 u hu, fun x hx => h.2 x (by rw [nmT]; exact List.mem_cons_of_mem _ (nm_mem hu hx))⟩
theorem sub_len : ∀ (w N : List (List UInt8)), w.Nodup → (∀ y ∈ w, y ∈ N) → w.length ≤ N.length
  | [], N, _, _ => Nat.zero_le _
  | y :: r, N, hd, h => by
    rw [List.nodup_cons] at hd
    have hy := h y (by simp)
    have := sub_len r (N.erase y) hd.2 (fun z hz => (List.mem_erase_of_ne (fun e => hd.1 (by rw [← e]; exact hz))).2 (h z (by simp [hz])))
    rw [List.length_erase_of_mem hy] at this
    have := List.length_pos_of_mem hy
    simp only [List.length_cons]
    omega
theorem find_kvS (x : List UInt8) : ∀ (w : List (List UInt8)) (i : Nat), if w.contains x = true then ∃ j, mfind (.str x) (kvS w) i = some (some (j, .bool true)) else mfind (.str x) (kvS w) i = some none
  | [], i => rfl
  | y :: r, i => by
    simp only [kvS, List.map_cons, mfind, keyEq_str, List.contains_cons]
    cases h : x == y with
    | true => simp
    | false =>
      rw [Bool.false_or]
      exact find_kvS x r (i + 1)
noncomputable abbrev as27 : Code := (rfA (sub [1, 1, 1, 0, 1, 0] c727)).1
noncomputable abbrev bd27 : Code := (rfA (sub [1, 1, 1, 0, 1, 0] c727)).2
noncomputable abbrev lp27 : Lp := lpOf (M727 (hand T727) 0).E
def verO (O : Heap) (k : Key) : Nat := ((O k).map (·.1)).getD 0
theorem U27.of {N : List (List UInt8)} {v3 v4 vm : Nat} {w : List (List UInt8)} {b : Bool} {O : Heap} (h1 : O ⟨0, 3, 0⟩ = some (v3, .var [.ref ⟨0, 3, 1⟩ (verO O ⟨0, 3, 1⟩) 0 w.length])) (h2 : O ⟨0, 3, 1⟩ = some (verO O ⟨0, 3, 1⟩, .arr 1 (w.map .str)))
    (h3 : O ⟨0, 4, 0⟩ = some (v4, .var [.mref ⟨0, 4, 1⟩ vm])) (h4 : O ⟨0, 4, 1⟩ = some (vm, .map (kvS w))) (h5 : w.Nodup ∧ ∀ y ∈ w, y ∈ N) : U27 N v3 v4 vm w b O := ⟨⟨_, h1, .inr ⟨_, rfl, h2⟩⟩, h3, h4, h5⟩
def odel (O : Heap) (k : Key) : Heap := fun q => if q = k then none else O q
theorem odel_get {O : Heap} {k q : Key} : odel O k q = if q = k then none else O q := rfl
theorem del_lo {E : Env} {s : St} {l sl off : Nat} (h : l < E.lvl) : St.del E s ⟨l, sl, off⟩ = ⟨s.τ, s.L, odel s.O ⟨l, sl, off⟩, s.c⟩ := by
  unfold St.del
  rw [if_neg (by dsimp only; omega)]
  rfl
theorem y27 {N : List (List UInt8)} (hN : N.length ≤ 1000000) {v3 v4 vm ver : Nat} {τ : List (Nat × V)} (h3 : tget τ 3 = .ptr ⟨0, 3, 0⟩ v3 0 0) (h4 : tget τ 4 = .ptr ⟨0, 4, 0⟩ v4 0 0) :
    Yields (hand T727) 0 ⟨0, 29, 0⟩ ver (ok27 N) (InvL ⟨0, 29, 0⟩ ver lp27 τ [10] as27 bd27 (fun _ => .ret) (U27 N v3 v4 vm)) varS := by
  refine yields_of rfl ⟨rfl, by decide, by decide⟩ (fun x b O O' e ⟨⟨row, h1, h2⟩, h3, h4, h5⟩ => ⟨⟨row, (e 3 0 (by simp)).trans h1, ?_⟩, (e 4 0 (by simp)).trans h3, (e 4 1 (by simp)).trans h4, h5⟩) ?_
  · rcases h2 with h2 | ⟨vr, h2, h3⟩
    · exact .inl h2
    · exact .inr ⟨vr, h2, (e 3 1 (by simp)).trans h3⟩
  intro n lvl x t c O hn hlv hok ⟨⟨row, u1, u2⟩, u3, u4, u5⟩
  obtain ⟨k1, s1, c1⟩ := t
  obtain ⟨hok, hnm⟩ := hok
  simp only [txt1] at hok
  have hin : nameP k1 s1 ∈ N := hnm _ (by simp [nmT])
  have u5l := sub_len x N u5.1 u5.2
  have e := Ftm_eq (f := fun k s => .str (nameP k s)) k1 c1 hok.1
  have lv0 := eq_true (show 0 < lvl by omega)
  rw [tv_mk]
  have hA : ∃ s : St, R (mcRd (Cx (hand T727)) lp27 lvl n) as27 .top ⟨setPs τ [10] [.agg [I k1, .str s1, Ts c1]], [], O, c⟩ = some (.norm, s) ∧ s.O = O ∧ tget s.τ 3 = .ptr ⟨0, 3, 0⟩ v3 0 0 ∧ tget s.τ 4 = .ptr ⟨0, 4, 0⟩ v4 0 0 ∧ tget s.τ 5 = .ptr ⟨lvl, 5, 0⟩ c 0 0 ∧ lget s.L (5, 0) = some (c, .var [I k1, .str s1, Ts c1]) := by
    simp only [as27, rfA, sub, c727, Tryd.f27, gets]
    change ∃ s : St, R (B27 lvl n) _ _ _ = _ ∧ _
    simp only [vmr, vmw, vmp, vza, ↓reduceIte, Nat.reduceBEq, Nat.reduceLT, Nat.reduceAdd, Nat.reduceEqDiff, reduceCtorEq, vmt, vzb, vzc, vlen, vleaf, velems, oks, vst, vmd, ty, Nat.reduceLeDiff, Nat.reduceMul, Nat.reduceSub, b27, setPs, X_top]
    refine ⟨_, rfl, rfl, ?_, ?_, ?_, ?_⟩
    all_goals simp only [vmr, vmw, vmp, vza, ↓reduceIte, Nat.reduceBEq, Nat.reduceLT, Nat.reduceAdd, Nat.reduceEqDiff, reduceCtorEq, vmt, vzb, vzc, vlen, vleaf, velems, oks, vst, vmd, ty, Nat.reduceLeDiff, Nat.reduceMul, Nat.reduceSub, b27, h3, h4]
  obtain ⟨s, hr, hO, t3, t4, t5, l5⟩ := hA
  refine ⟨s, hr, hO, fun O2 ho hq => ?_⟩
  have g1 := (ho ⟨0, 3, 0⟩ (by simp)).trans u1
  have g2 := (ho ⟨0, 4, 0⟩ (by simp)).trans u3
  have g3 := (ho ⟨0, 4, 1⟩ (by simp)).trans u4
  have g4 := ho ⟨0, 3, 1⟩ (by simp)
  generalize Obj.loop lp27 τ [10] as27 bd27 .busy none = ob at hq ⊢
  simp only [bd27, rfA, sub, c727, Tryd.f27, gets]
  change BodyQ _ _ _ _ _ _ _ _ (R (B27 lvl n) _ _ _)
  simp only [varS]
  by_cases q1 : nameP k1 s1 = []
  · have q1' : (nameP k1 s1 == []) = true := by simp [q1]
    rw [if_pos (.inl q1)]
    simp only [vmr, vmw, vmp, vza, ↓reduceIte, Nat.reduceBEq, Nat.reduceLT, Nat.reduceAdd, Nat.reduceEqDiff, reduceCtorEq, vmt, vzb, vzc, vlen, vleaf, velems, oks, vst, vmd, ty, Nat.reduceLeDiff, Nat.reduceMul, Nat.reduceSub, b27, t3, t4, t5, l5, g1, g2, g3, obj_lo, put_lo, oput_get, key_eq, lv0, q1', e, X_top, strOp]
    refine ⟨_, _, rfl, rfl, ?_, ⟨⟨row, ?_, ?_⟩, ?_, ?_, u5⟩, fun l sl off h0 hl => ?_⟩
    case refine_3 =>
      rcases u2 with h | ⟨vr, h, h'⟩
      · exact .inl h
      · exact .inr ⟨vr, h, g4.trans h'⟩
    all_goals simp [oput_get, key_eq, hq, g1, g2, g3]
  · have q1' : (nameP k1 s1 == []) = false := by simpa using q1
    have kok : keyOk Tryd.prog 9 (.str (nameP k1 s1)) = true := by kernel_rfl
    have hf := find_kvS (nameP k1 s1) x 0
    by_cases q2 : x.contains (nameP k1 s1) = true
    · rw [if_pos (.inr q2)]
      rw [q2] at hf
      obtain ⟨j, hf⟩ := hf
      simp only [vmr, vmw, vmp, vza, ↓reduceIte, Nat.reduceBEq, Nat.reduceLT, Nat.reduceAdd, Nat.reduceEqDiff, reduceCtorEq, vmt, vzb, vzc, vlen, vleaf, velems, oks, vst, vmd, ty, Nat.reduceLeDiff, Nat.reduceMul, Nat.reduceSub, b27, t3, t4, t5, l5, g1, g2, g3, obj_lo, put_lo, oput_get, key_eq, lv0, q1', e, X_top, strOp, kok, mapGet, hf]
      refine ⟨_, _, rfl, rfl, ?_, ⟨⟨row, ?_, ?_⟩, ?_, ?_, u5⟩, fun l sl off h0 hl => ?_⟩
      case refine_3 =>
        rcases u2 with h | ⟨vr, h, h'⟩
        · exact .inl h
        · exact .inr ⟨vr, h, g4.trans h'⟩
      all_goals simp [oput_get, key_eq, hq, g1, g2, g3]
    · rw [if_neg (by simp only [q1, q2, or_self]; simp)]
      rw [if_neg q2] at hf
      have hp : mput (.str (nameP k1 s1)) (.bool true) (kvS x) = some (kvS (x ++ [nameP k1 s1])) := by
        unfold mput
        rw [hf, kvS, kvS, List.map_append]; rfl
      have r1 : ∀ m, m ≤ 2000000 → roomOk Tryd.prog 9 m = true := fun m h => by simp [roomOk, ty, cellsV, leafV]; omega
      have r2 := r1 1 (by omega)
      have r3 := r1 (x.length + 1) (by omega)
      have u6 : (x ++ [nameP k1 s1]).Nodup ∧ ∀ y ∈ x ++ [nameP k1 s1], y ∈ N := by
        refine ⟨List.nodup_append.2 ⟨u5.1, by simp, ?_⟩, fun y hy => ?_⟩
        · rintro y hy z hz rfl
          rw [List.mem_singleton] at hz
          exact q2 (by simpa [hz] using hy)
        · rcases List.mem_append.1 hy with hy | hy
          · exact u5.2 y hy
          · rw [List.mem_singleton] at hy; exact hy ▸ hin
      have f1 : ∀ s : List UInt8, fitsE Tryd.prog 9 (.str s) = true := fun s => by simp [fitsE, ty, leafV]
      rcases u2 with ⟨hx, hrow⟩ | ⟨vr, hrow, hO2⟩
      · subst hrow
        subst hx
        simp only [vmr, vmw, vmp, vza, ↓reduceIte, Nat.reduceBEq, Nat.reduceLT, Nat.reduceAdd, Nat.reduceEqDiff, reduceCtorEq, vmt, vzb, vzc, vlen, vleaf, velems, oks, vst, vmd, ty, Nat.reduceLeDiff, Nat.reduceMul, Nat.reduceSub, b27, t3, t4, t5, l5, g1, g2, g3, obj_lo, put_lo, oput_get, key_eq, lv0, q1', e, X_top, strOp, kok, mapGet, mapPut, hf, hp, r2, r3, f1, List.map_cons, List.map_nil]
        refine ⟨_, _, rfl, rfl, ?_, U27.of ?_ ?_ ?_ ?_ u6, fun l sl off h0 hl => ?_⟩
        all_goals simp [verO, oput_get, odel_get, key_eq, hq, g1, g2, g3]
        have hl0 : l ≠ 0 := by omega
        simp [hl0]
      · subst hrow
        have g5 := g4.trans hO2
        simp only [vmr, vmw, vmp, vza, ↓reduceIte, Nat.reduceBEq, Nat.reduceLT, Nat.reduceAdd, Nat.reduceEqDiff, reduceCtorEq, vmt, vzb, vzc, vlen, vleaf, velems, oks, vst, vmd, ty, Nat.reduceLeDiff, Nat.reduceMul, Nat.reduceSub, b27, t3, t4, t5, l5, g1, g2, g3, g5, obj_lo, put_lo, del_lo, odel_get, oput_get, key_eq, lv0, q1', e, X_top, strOp, kok, mapGet, mapPut, hf, hp, r2, r3, f1, List.map_cons, List.map_nil]
        refine ⟨_, _, rfl, rfl, ?_, U27.of ?_ ?_ ?_ ?_ u6, fun l sl off h0 hl => ?_⟩
        all_goals simp [verO, oput_get, odel_get, key_eq, hq, g1, g2, g3]
        have hl0 : l ≠ 0 := by omega
        simp [hl0]
end Go.Vi
set_option maxRecDepth 100000
set_option maxHeartbeats 1000000
namespace Go.Vi
open Go Go.Proofs

theorem keysOf_var : ∀ (L : Loc) (q : Nat × Nat) (v : Nat) (cs : List V), lget L q = some (v, .var cs) → ∀ j, j < cs.length → (q.1, q.2 + j + 1) ∈ keysOf L
  | [], q, v, cs, h, j, hj => by cases h
  | (p, (w, o)) :: r, q, v, cs, h, j, hj => by
    simp only [lget] at h
    by_cases e : q = p
    · subst e
      rw [if_pos rfl] at h
      injection h with h
      injection h with h1 h2
      subst h2
      simp only [keysOf, List.mem_cons, List.mem_append, List.mem_map, List.mem_range]
      exact .inl (.inr ⟨j, hj, rfl⟩) 
    · rw [if_neg e] at h
      have := keysOf_var r q v cs h j hj
      cases o <;> simp [keysOf, this]
theorem range_all2 {σ : Type} {H : FuncId → Option (List V → Option V)} {M : Mc} {n n0 : Nat} {k : K} {s : St} {f : Operand} {ps : Array Nat} {ac bd : Code} {jf : σ → Code} {U : σ → Bool → Heap → Prop} {ok : Tm → Prop} {step : σ → Tm → Bool × σ} {P : Option (Ex × St) → Prop} {x : σ} {a : List Tm} (hM : M.call = evF (Cx H) (n + 2)) (hl : M.E.lvl = 0) (hk : M.E.ok.contains 82 = true) (hi : M.E.inr = false)
    (hf : evalO s f = .fn (.func 82) [] [.iptr [Ts a]]) (hY : Yields H n0 (loopKey M.E) s.c ok (InvL (loopKey M.E) s.c (lpOf M.E) s.τ ps.toList ac bd jf U) step)
    (hU : ∀ x b O O', (∀ sl off, (⟨0, sl, off⟩ : Key) ≠ loopKey M.E → O' ⟨0, sl, off⟩ = O ⟨0, sl, off⟩) → U x b O → U x b O') (hok : ∀ k s c, ok (.mk k s c) → ∀ u ∈ c, ok u) (hb : szs a ≤ 1000000) (hao : ∀ t ∈ a, ok t) (hn : n0 + szs a < n)
    (h0 : ∀ O, (∀ sl off, O ⟨0, sl, off⟩ = lget s.L (sl, off)) → U x true O) (hj : ∀ x, ∃ e, jumpEx (some (jf x)) = some e)
    (h : ∀ s' e O', s'.τ = s.τ → U (visL step x a).2 (visL step x a).1 O' → (∀ sl off y, sl ≠ M.E.n + 1 → ((lget s.L (sl, off)).isSome = true ∨ ∃ v cs j, lget s.L (sl, 0) = some (v, .var cs) ∧ off = j + 1 ∧ j < cs.length) → O' ⟨0, sl, off⟩ = some y → lget s'.L (sl, off) = some y) → jumpEx (if (visL step x a).1 then none else some (jf (visL step x a).2)) = some e → P (X M e k s')) :
    P (R M (.rangeFunc f ps ac bd) k s) := by
  have hkey : loopKey M.E = ⟨0, M.E.n + 1, 0⟩ := by unfold loopKey; rw [hl]
  have hI : ∀ x b O O', (∀ sl off, O' ⟨0, sl, off⟩ = O ⟨0, sl, off⟩) → InvL (loopKey M.E) s.c (lpOf M.E) s.τ ps.toList ac bd jf U x b O → InvL (loopKey M.E) s.c (lpOf M.E) s.τ ps.toList ac bd jf U x b O' := fun x b O O' e ⟨h1, h2⟩ =>
    ⟨by rw [hkey] at h1 ⊢; rw [e]; exact h1, hU _ _ O _ (fun sl off _ => e sl off) h2⟩
  have hin : InvL (loopKey M.E) s.c (lpOf M.E) s.τ ps.toList ac bd jf U x true (heapOf 0 (lput s.L (M.E.n + 1, 0) (s.c, .loop (lpOf M.E) s.τ ps.toList ac bd .ready none)) s.O) := by
    refine ⟨?_, hU _ _ (heapOf 0 s.L s.O) _ (fun sl off hk => ?_) (h0 _ fun sl off => by rw [heapOf_get, if_pos rfl])⟩
    · rw [hkey, heapOf_get, if_pos rfl, lget_lput, if_pos rfl]; rfl
    · rw [heapOf_get, if_pos rfl, lget_lput, if_neg (fun e => hk (by rw [hkey]; injection e with e1 e2; rw [e1, e2])), heapOf_get, if_pos rfl]
  obtain ⟨c', O', hcall, hO1, hO2⟩ := w82 hY hI hok hb hao (n := n) (c := s.c + 1) hn (by rw [hkey]) hin
  obtain ⟨e, he⟩ : ∃ e, jumpEx (if (visL step x a).1 then none else some (jf (visL step x a).2)) = some e := by
    cases (visL step x a).1 with
    | true => exact ⟨_, rfl⟩
    | false => exact hj _
  rw [R_range (g := 82) (first := []) (c' := c') (O' := O') hf hk hi (by rw [hM, hl]; exact hcall) hO1 (by cases (visL step x a).1 <;> simp) he]
  refine h _ _ O' (by rw [hkey, del_s hl.symm]; rfl) hO2 (fun sl off y hs hx hy => ?_) he
  have hb : lget (back M.E ⟨s.τ, lput s.L (M.E.n + 1, 0) (s.c, .loop (lpOf M.E) s.τ ps.toList ac bd .ready none), s.O, s.c + 1⟩ c' O').L (sl, off) = some y := by
    refine mergeL_get _ _ _ _ (.inl ?_) (by rw [hl]; exact hy)
    rcases hx with hx | ⟨v, cs, j, hx, rfl, hj⟩
    · obtain ⟨z, hx⟩ := Option.isSome_iff_exists.1 hx
      exact keysOf_mem _ _ z (by show lget (lput s.L (M.E.n + 1, 0) _) (sl, off) = some z; rw [lget_lput, if_neg (by simp [hs]), hx])
    · have := keysOf_var (lput s.L (M.E.n + 1, 0) (s.c, .loop (lpOf M.E) s.τ ps.toList ac bd .ready none)) (sl, 0) v cs (by rw [lget_lput, if_neg (by simp [hs]), hx]) j hj
      rwa [Nat.zero_add] at this
  rw [hkey, del_s hl.symm]
  show lget (ldel _ (M.E.n + 1, 0)) (sl, off) = some y
  rw [lget_ldel, if_neg (by simp [hs])]
  exact hb

/-- The names of an expression, each once. -/
def varL (a : List Tm) : List (List UInt8) := (visL varS [] a).2
mutual
theorem var_T : ∀ (t : Tm) (w : List (List UInt8)), (visT varS w t).1 = true
  | .mk k s c, w => by
    simp only [visT, varS]
    exact var_L c _
theorem var_L : ∀ (l : List Tm) (w : List (List UInt8)), (visL varS w l).1 = true
  | [], w => rfl
  | t :: r, w => by
    simp only [visL]
    have := var_T t w
    revert this
    generalize visT varS w t = q
    obtain ⟨b, x⟩ := q
    intro h
    dsimp only at h
    subst h
    exact var_L r x
end
abbrev Ss (w : List (List UInt8)) : V := .lst (w.map .str)
theorem pureSs : ∀ w : List (List UInt8), pureRL (w.map .str) = true
  | [] => rfl
  | x :: r => by simp only [List.map_cons, pureRL, pureR, pureSs r, Bool.and_self]
theorem can_Ss : ∀ w : List (List UInt8), can (Ss w) = Ss w := fun w => by
  have : ∀ w : List (List UInt8), cans (w.map .str) = w.map .str := fun w => by
    induction w with
    | nil => rfl
    | cons x r ih => simp only [List.map_cons, cans, ih, canStr]
  show V.lst (cans (w.map .str)) = _
  rw [this]
def Fi27 (n : Nat) (v : V) (r : Option (Ex × St)) : Prop := Fin (M727 (hand T727) n) [.tmp 2] r = some (.ret v)
theorem h727 : SoundHand Tryd.prog (hand T727) := sound_cons F52_sound (sound_cons F53_sound sound_nil)
theorem w27 (a : List Tm) (hb : szs a ≤ 1000000) (ho : txs a) : SoundPure Tryd.prog 27 [Ts a] (.ret (Ss (varL a))) := by
  let Po : Option (Ex × St) → Prop := fun r => ∃ v, pureR v = true ∧ can (imm v) = Ss (varL a) ∧ Fi27 (szs a + 4) v r
  have key : Po (R (M727 (hand T727) (szs a + 4)) c727 .top ⟨params 0 [Ts a], [], fun _ => none, 0⟩) := by
    have e1 := F53_eq a
    have r1 := fun k s => @range_all2 (List (List UInt8)) (hand T727) (M727 (hand T727) (szs a + 4)) (szs a + 2) 0 k s (.tmp 9) #[10] as27 bd27 (fun _ => .ret)
    simp only [as27, bd27, rfA, sub, c727, Tryd.f27, gets] at r1
    simp only [c727, Tryd.f27, gets]
    simp only [vmr, vmw, vmp, vza, ↓reduceIte, Nat.reduceBEq, Nat.reduceLT, Nat.reduceAdd, Nat.reduceEqDiff, reduceCtorEq, vmt, vzb, vzc, vlen, vleaf, velems, oks, vst, vmd, ty, Nat.reduceLeDiff, Nat.reduceMul, Nat.reduceSub, m727, e1, newMap]
    have hN : (nmL a).length ≤ 1000000 := by rw [nmL_len]; exact hb
    have hU : ∀ x b O O', (∀ sl off, (⟨0, sl, off⟩ : Key) ≠ ⟨0, 29, 0⟩ → O' ⟨0, sl, off⟩ = O ⟨0, sl, off⟩) → U27 (nmL a) 0 2 3 x b O → U27 (nmL a) 0 2 3 x b O' := fun x b O O' e ⟨⟨row, h1, h2⟩, h3, h4, h5⟩ => ⟨⟨row, (e 3 0 (by simp)).trans h1, by
      rcases h2 with h2 | ⟨vr, h2, h3⟩
      · exact .inl h2
      · exact .inr ⟨vr, h2, (e 3 1 (by simp)).trans h3⟩⟩, (e 4 0 (by simp)).trans h3, (e 4 1 (by simp)).trans h4, h5⟩
    refine r1 _ _ (U := U27 (nmL a) 0 2 3) (ok := ok27 (nmL a)) (step := varS) (x := []) (a := a) (P := Po) rfl rfl (show okL.contains 82 = true by decide) rfl ?_ (y27 hN ?_ ?_) hU (ok27_kids (nmL a)) hb (fun t ht => ⟨txs_mem ho ht, fun x hx => nm_mem ht hx⟩) (by omega) (fun O h => ⟨⟨.nilS, (h 3 0).trans ?_, .inl ⟨rfl, rfl⟩⟩, (h 4 0).trans ?_, (h 4 1).trans ?_, List.nodup_nil, fun y hy => by cases hy⟩) (fun _ => ⟨_, rfl⟩) ?_
    case refine_7 =>
      intro s' e O' hτ hu hL hj
      rw [var_L] at hj
      injection hj with hj
      subst hj
      obtain ⟨⟨row, u1, u2⟩, _, _, u5, u6⟩ := hu
      have g3 := hL 3 0 _ (by show 3 ≠ 29; omega) (.inl (by simp only [vmr, vmw, vmp, vza, ↓reduceIte, Nat.reduceBEq, Nat.reduceLT, Nat.reduceAdd, Nat.reduceEqDiff, reduceCtorEq, vmt, vzb, vzc, vlen, vleaf, velems, oks, vst, vmd, ty, Nat.reduceLeDiff, Nat.reduceMul, Nat.reduceSub, m727])) u1
      have t3 : tget s'.τ 3 = .ptr ⟨0, 3, 0⟩ 0 0 0 := by rw [hτ]; simp only [vmr, vmw, vmp, vza, ↓reduceIte, Nat.reduceBEq, Nat.reduceLT, Nat.reduceAdd, Nat.reduceEqDiff, reduceCtorEq, vmt, vzb, vzc, vlen, vleaf, velems, oks, vst, vmd, ty, Nat.reduceLeDiff, Nat.reduceMul, Nat.reduceSub, m727]
      change rowS O' (varL a) row at u2
      rcases u2 with ⟨hw, hr⟩ | ⟨vr, hr, hO⟩
      · subst hr
        clear hτ hL u1
        refine ⟨.nilS, rfl, by rw [hw]; rfl, ?_⟩
        simp only [vmr, vmw, vmp, vza, ↓reduceIte, Nat.reduceBEq, Nat.reduceLT, Nat.reduceAdd, Nat.reduceEqDiff, reduceCtorEq, vmt, vzb, vzc, vlen, vleaf, velems, oks, vst, vmd, ty, Nat.reduceLeDiff, Nat.reduceMul, Nat.reduceSub, m727, X_blk, t3, g3]
        unfold Fi27
        simp only [vmr, vmw, vmp, vza, ↓reduceIte, Nat.reduceBEq, Nat.reduceLT, Nat.reduceAdd, Nat.reduceEqDiff, reduceCtorEq, vmt, vzb, vzc, vlen, vleaf, velems, oks, vst, vmd, ty, Nat.reduceLeDiff, Nat.reduceMul, Nat.reduceSub, vzr, m727]
      · subst hr
        have g4 := hL 3 1 _ (by show 3 ≠ 29; omega) (.inr ⟨0, [.nilS], 0, by simp only [vmr, vmw, vmp, vza, ↓reduceIte, Nat.reduceBEq, Nat.reduceLT, Nat.reduceAdd, Nat.reduceEqDiff, reduceCtorEq, vmt, vzb, vzc, vlen, vleaf, velems, oks, vst, vmd, ty, Nat.reduceLeDiff, Nat.reduceMul, Nat.reduceSub, m727], rfl, by simp⟩) hO
        clear hτ hL u1
        refine ⟨.own 1 ((varL a).map .str), ?_, ?_, ?_⟩
        · simp only [pureR, pureSs]
        · show can (imm (.own 1 ((varL a).map .str))) = _
          rw [show imm (V.own 1 ((varL a).map .str)) = .lst ((varL a).map .str) by simp only [imm, imms_map (e := V.str) (fun _ => rfl)]]
          exact can_Ss _
        · simp only [vmr, vmw, vmp, vza, ↓reduceIte, Nat.reduceBEq, Nat.reduceLT, Nat.reduceAdd, Nat.reduceEqDiff, reduceCtorEq, vmt, vzb, vzc, vlen, vleaf, velems, oks, vst, vmd, ty, Nat.reduceLeDiff, Nat.reduceMul, Nat.reduceSub, m727, X_blk, t3, g3, g4]
          unfold Fi27
          simp only [vmr, vmw, vmp, vza, ↓reduceIte, Nat.reduceBEq, Nat.reduceLT, Nat.reduceAdd, Nat.reduceEqDiff, reduceCtorEq, vmt, vzb, vzc, vlen, vleaf, velems, oks, vst, vmd, ty, Nat.reduceLeDiff, Nat.reduceMul, Nat.reduceSub, vzr, m727, g4, take_len]
    all_goals simp only [vmr, vmw, vmp, vza, ↓reduceIte, Nat.reduceBEq, Nat.reduceLT, Nat.reduceAdd, Nat.reduceEqDiff, reduceCtorEq, vmt, vzb, vzc, vlen, vleaf, velems, oks, vst, vmd, ty, Nat.reduceLeDiff, Nat.reduceMul, Nat.reduceSub, m727]
    all_goals rfl
  obtain ⟨v, hp, hc, hk⟩ := key
  have := sound_imm (s727 h727 (szs a + 4) (by simp) hp hk) hp
  rw [hc] at this
  exact this
noncomputable def F27 : List V → Option V := hF (α := List Tm) (fun p => [Ts p]) (fun p => szs p ≤ 1000000 ∧ txs p) (fun p => Ss (varL p))
theorem F27_eq {a : List Tm} (h : szs a ≤ 1000000) (ho : txs a) : F27 [Ts a] = some (Ss (varL a)) := hF_eq (a := a) (one_inj' fun _ _ => Ts_inj) (by simp only [cans, can_Ts]) ⟨h, ho⟩
theorem F27_sound : ∀ args v, F27 args = some v → SoundPure Tryd.prog 27 args (.ret v) := hF_sound fun p hp => w27 p hp.1 hp.2
end Go.Vi
set_option maxRecDepth 100000
set_option maxHeartbeats 1000000
namespace Go.Vi
open Go Go.Proofs

noncomputable def F42 : List V → Option V := hF (α := Int) (fun n => [I n]) (fun n => 0 ≤ n ∧ n ≤ 2000000000) (fun n => .str (Lib.itoa n))
theorem F42_eq {n : Int} (h0 : 0 ≤ n) (h1 : n ≤ 2000000000) : F42 [I n] = some (.str (Lib.itoa n)) := hF_eq (a := n) (one_inj' fun _ _ => I_inj) rfl ⟨h0, h1⟩
/-- The bindings of Fresh: each name to a variable of its kind with the next number. -/
def frB (x : List UInt8) (n : Int) : Bn := ⟨x, [.mk (((varB x).map (·.1)).getD 0) (Lib.itoa n) []]⟩
def frL : List (List UInt8) → Int → List Bn
  | [], _ => []
  | x :: r, n => frB x n :: frL r (n + 1)
def frV (x : List UInt8) (n : Int) : V := .agg [.str x, .lst [.agg [I (((varB x).map (·.1)).getD 0), .str (Lib.itoa n), .lst []]]]
theorem frV_v (x : List UInt8) (n : Int) : (frB x n).v = frV x n := by
  rw [frB, Bn.v, Ts, List.map_cons, List.map_nil, tv_mk]
  rfl
def frVL (l : List (List UInt8)) (n : Int) : List V := (frL l n).map Bn.v
/-- term.Variable, its row of children taken as an empty one. -/
noncomputable def F34c : List V → Option V := hF (α := List UInt8) (fun a => [.str a]) (fun a => a.length ≤ 1000000000000000) (fun a => can (varR (varB a)))
theorem F34c_eq {a : List UInt8} (h : a.length ≤ 1000000000000000) : F34c [.str a] = some (can (varR (varB a))) := hF_eq (a := a) (one_inj' fun _ _ => Str_inj) rfl h
theorem F34c_sound : ∀ args v, F34c args = some v → SoundPure Tryd.prog 34 args (.ret v) := hF_sound fun p hp => by
  have h : ∀ o, pureR (varR o) = true ∧ imm (varR o) = varR o := fun o => by cases o <;> exact ⟨rfl, rfl⟩
  have := sound_imm (w34 p hp) (h _).1
  rw [(h _).2] at this
  exact this
noncomputable abbrev T719 : List (FuncId × (List V → Option V)) := [(17, Fres), (27, F27), (34, F34c), (42, F42), (43, Fun)]
def A19 (s : St) (d : List V) : Prop := ∃ v8 sz, ((sz = 2 ∨ sz = 0) ∧ (d ≠ [] → sz = 2)) ∧ tget s.τ 8 = .ref ⟨0, 8, 0⟩ v8 0 d.length ∧ lget s.L (8, 0) = some (v8, .arr sz d)
theorem A19.of {s d} (h : tget s.τ 8 = .ref ⟨0, 8, 0⟩ (ver s (8, 0)) 0 d.length) (h' : lget s.L (8, 0) = some (ver s (8, 0), .arr 2 d)) : A19 s d := ⟨_, 2, ⟨.inl rfl, fun _ => rfl⟩, h, h'⟩
theorem l719 {n k} {P : Option (Ex × St) → Prop} {from_ : Nat} (hfr : from_ ≤ 1000000000) {e : List Tm} (a : List (List UInt8)) (ha : a.length ≤ 1000000) (hv : ∀ x ∈ a, x.length ≤ 1000000000000000 ∧ (varB x).isSome = true) : ∀ r (i : Nat) d n' s, a.drop i = r → r.length < n' → d.length + r.length ≤ 1000000 → A19 s d → tget s.τ 0 = Ts e → tget s.τ 1 = I from_ → tget s.τ 25 = Ss a → tget s.τ 26 = I a.length → tget s.τ 27 = I (i : Nat) →
    (∀ s', A19 s' (d ++ frVL r (from_ + i : Nat)) → tget s'.τ 0 = Ts e → P (X (M719 (hand T719) n) (.exit 0) k s')) →
    P (L (M719 (hand T719) n) (sub [1, 1, 1, 1, 0, 1, 0, 0] c719) n' k s)
  | [], i, d, n' + 1, s, hi, hn, hl, ⟨v8, sz, hz, h8, h8'⟩, h0, h1, h25, h26, h27, hq => by
    have hc := inlt (drop_nil' hi)
    rw [L_succ]
    simp only [vmr, vmw, vmp, vza, ↓reduceIte, Nat.reduceBEq, Nat.reduceLT, Nat.reduceAdd, Nat.reduceEqDiff, reduceCtorEq, vmt, vzb, vzc, vlen, vleaf, velems, oks, vst, vmd, ty, Nat.reduceLeDiff, Nat.reduceMul, Nat.reduceSub, c719, Tryd.f19, m719, h25, h26, h27, hc]
    refine hq _ ⟨v8, sz, ⟨hz.1, by simpa [frVL, frL] using hz.2⟩, ?_, ?_⟩ ?_
    all_goals simp only [vmr, vmw, vmp, vza, ↓reduceIte, Nat.reduceBEq, Nat.reduceLT, Nat.reduceAdd, Nat.reduceEqDiff, reduceCtorEq, vmt, vzb, vzc, vlen, vleaf, velems, oks, vst, vmd, ty, Nat.reduceLeDiff, Nat.reduceMul, Nat.reduceSub, m719, h0, h8, h8', frVL, frL, List.map_nil, List.append_nil]
  | x :: r, i, d, n' + 1, s, hi, hn, hl, ⟨v8, sz, hz, h8, h8'⟩, h0, h1, h25, h26, h27, hq => by
    obtain ⟨g1, g2, g3⟩ := drop_cons hi
    have hcl := ilt g3
    have ga : (a.map V.str)[i]? = some (.str x) := by rw [List.getElem?_map, g1, Option.map_some]
    have hz' := eq_true hz.1
    have w4 := wsuc g3 (by omega)
    obtain ⟨hx, hs⟩ := hv x (List.mem_of_getElem? g1)
    obtain ⟨⟨kd, nm⟩, hvb⟩ := Option.isSome_iff_exists.1 hs
    have e1 : F34c [.str x] = some (.tup [.agg [I kd, .str nm, .lst []], .bool true]) := by
      have := F34c_eq hx
      rw [hvb] at this
      exact this
    have w5 : IntKind.i64.wrap ((from_ : Int) + (i : Int)) = ((from_ + i : Nat) : Int) := by rw [wrap_id] <;> omega
    have e2 := F42_eq (n := ((from_ + i : Nat) : Int)) (by omega) (by omega)
    have ih := fun d s => l719 (n := n) (k := k) (P := P) hfr (e := e) a ha hv r (i + 1) d n' s g2 (by simp at hn; omega)
    simp only [sub, c719, Tryd.f19, gets] at ih
    have hb : frV x ((from_ + i : Nat) : Int) = .agg [.str x, .lst [.agg [I kd, .str (Lib.itoa ((from_ + i : Nat) : Int)), .lst []]]] := by simp [frV, hvb]
    rw [frVL, frL, List.map_cons, frV_v, List.append_cons, hb] at hq
    rw [show (frL r ((from_ + i : Nat) + 1 : Int)).map Bn.v = frVL r ((from_ + i : Nat) + 1 : Int) from rfl] at hq
    have r0 := @room35 1 (by omega)
    have r1 := @room59 1 (by omega)
    have r2 := @room59 (d.length + 1) (by simp at hl; omega)
    have f2 : ∀ (k : Int) (s : List UInt8), fitsE Tryd.prog 35 (.agg [I k, .str s, .lst []]) = true := fun k s => by simp [fitsE, ty, leafV]
    have f1 : ∀ (s : List UInt8) (e : List V), fitsE Tryd.prog 59 (.agg [.str s, .lst e]) = true := fun s e => by simp [fitsE, ty, leafV]
    rw [L_succ]
    simp only [vmr, vmw, vmp, vza, ↓reduceIte, Nat.reduceBEq, Nat.reduceLT, Nat.reduceAdd, Nat.reduceEqDiff, reduceCtorEq, vmt, vzb, vzc, vlen, vleaf, velems, oks, vst, vmd, ty, Nat.reduceLeDiff, Nat.reduceMul, Nat.reduceSub, callV_s2, c719, Tryd.f19, m719, h0, h1, h25, h26, h27, h8, h8', hcl, ga, w4, w5, e1, e2, r0, r1, r2, f1, f2, hz', List.map_cons, List.map_nil]
    refine ih (d ++ [.agg [.str x, .lst [.agg [I kd, .str (Lib.itoa ((from_ + i : Nat) : Int)), .lst []]]]]) _ (by simp at hl ⊢; omega) (A19.of ?_ ?_) ?_ ?_ ?_ ?_ ?_ (by rw [show ((from_ + (i + 1) : Nat) : Int) = ((from_ + i : Nat) : Int) + 1 by omega]; exact hq)
    all_goals simp only [vmr, vmw, vmp, vza, ↓reduceIte, Nat.reduceBEq, Nat.reduceLT, Nat.reduceAdd, Nat.reduceEqDiff, reduceCtorEq, vmt, vzb, vzc, vlen, vleaf, velems, oks, vst, vmd, ty, Nat.reduceLeDiff, Nat.reduceMul, Nat.reduceSub, m719, ver, h0, h1, h25, h26, List.length_append]
end Go.Vi
set_option maxRecDepth 100000
namespace Go.Vi
open Go Go.Proofs

theorem global1 : Tryd.prog.globalNamed "internal/strconv.uint64pow10" = some 1 := by kernel_rfl
theorem tab_of {w : World} {A : Nat → Prop} (h : JA w A) : Lib.TabIs Tryd.prog w "internal/strconv.uint64pow10" .u64 Lib.pow10Tab := by
  obtain ⟨_, cs, t, f, hc, hp⟩ := h (1, _) (List.mem_cons_self ..)
  dsimp only at hc hp
  show w.var? _ _ = _
  unfold World.var?
  rw [global1]
  simp only [Option.bind_some, hc, hp]
  rfl
theorem tr_grown {w w' : World} {A : Nat → Prop} (hA : ∀ b, A b → b < w.heap.size) (h1 : w.heap.size ≤ w'.heap.size) (h2 : w'.os = w.os) (h3 : w'.tape = w.tape) (h4 : w'.output = w.output) (h5 : ∀ b, b < w.heap.size → w'.heap[b]? = w.heap[b]?) : Tr w A noB 0 noH w' A noB 0 noH ∧ ∀ b, A b → b < w'.heap.size :=
  ⟨⟨h1, h2, h3, h4, fun b hb _ => h5 b hb, fun _ _ _ => rfl, Nat.le_refl _, fun _ h => h, fun _ h => .inl h, fun _ h => .inl h⟩, fun b hb => Nat.lt_of_lt_of_le (hA b hb) h1⟩
theorem w42 (n : Int) (hn : 0 ≤ n ∧ n ≤ 2000000000) : SoundPure Tryd.prog 42 [I n] (.ret (.str (Lib.itoa n))) := by
  intro w A cs hJ hA hp
  simp only [PCs, PC] at hp
  obtain ⟨c, d, e, rfl, rfl⟩ := hp
  obtain rfl : cs = #[.int .i64 n] := by cases cs; simp_all
  refine (Tryd.strconv_Itoa n (by omega) (by omega) w (tab_of hJ)).mono ?_
  rintro e w' ⟨rfl, k, os, rfl⟩
  have t := tr_grown (w := w) (w' := Go.Sort.grow (w.drewN k) os) hA (by simp [Go.Sort.grow, World.drewN]) rfl rfl rfl (fun b hb => by simp [Go.Sort.grow, World.drewN, Array.getElem?_append, hb])
  refine ⟨A, t.1, t.2, _, [], rfl, ?_, fun i hi => (by cases hi), List.Pairwise.nil⟩
  simp only [RC, IC, PC]
  exact ⟨trivial, trivial⟩
theorem F42_sound : ∀ args v, F42 args = some v → SoundPure Tryd.prog 42 args (.ret v) := hF_sound fun p hp => w42 p hp
end Go.Vi
namespace Go.Vi
open Go Go.Proofs

/-! ### numerals -/
theorem dec_inj (u : Nat) : ∀ v, Lib.decDigits u = Lib.decDigits v → u = v := by
  induction u using Nat.strongRecOn with
  | ind u ih =>
    intro v h
    have hl : ∀ w, 1 ≤ (Lib.decDigits w).length := fun w => by rw [Lib.decDigits_length]; exact Lib.nDigits_pos w
    have h8 : ∀ a b, a < 10 → b < 10 → UInt8.ofNat (48 + a) = UInt8.ofNat (48 + b) → a = b := fun a b ha hb h => by
      have h2 : ∀ c, c < 10 → (UInt8.ofNat (48 + c)).toNat = 48 + c := fun c hc => by simp only [UInt8.toNat_ofNat']; omega
      have := congrArg UInt8.toNat h
      rw [h2 a ha, h2 b hb] at this
      omega
    by_cases hu : u < 10
    · by_cases hv : v < 10
      · rw [Lib.decDigits_one hu, Lib.decDigits_one hv] at h
        injection h with h
        exact h8 _ _ hu hv h
      · rw [Lib.decDigits_one hu, Lib.decDigits, dif_neg hv] at h
        have h1 := congrArg List.length h
        have := hl (v / 10)
        simp only [List.length_append, List.length_cons, List.length_nil] at h1
        omega
    · by_cases hv : v < 10
      · rw [Lib.decDigits_one hv, Lib.decDigits, dif_neg hu] at h
        have h1 := congrArg List.length h
        have := hl (u / 10)
        simp only [List.length_append, List.length_cons, List.length_nil] at h1
        omega
      · have e : ∀ w, ¬ w < 10 → Lib.decDigits w = Lib.decDigits (w / 10) ++ [UInt8.ofNat (48 + w % 10)] := fun w hw => by rw [Lib.decDigits, dif_neg hw]
        rw [e u hu, e v hv] at h
        obtain ⟨h1, h2⟩ := List.append_inj' h rfl
        have h3 := ih _ (by omega) _ h1
        injection h2 with h2
        have := h8 _ _ (Nat.mod_lt _ (by omega)) (Nat.mod_lt _ (by omega)) h2
        omega
theorem itoa_inj {u v : Nat} (h : Lib.itoa (u : Int) = Lib.itoa (v : Int)) : u = v := by
  unfold Lib.itoa at h
  rw [if_neg (by omega), if_neg (by omega)] at h
  exact dec_inj _ _ h
theorem dec_lod (u : Nat) : (Lib.decDigits u).all lodU = true := by
  induction u using Nat.strongRecOn with
  | ind u ih =>
    have h1 : ∀ c, c < 10 → lodU (UInt8.ofNat (48 + c)) = true := fun c hc => by
      have h2 : (UInt8.ofNat (48 + c)).toNat = 48 + c := by simp only [UInt8.toNat_ofNat']; omega
      have : digN (48 + c) = true := by simp [digN]; omega
      unfold lodU; rw [h2, this, Bool.or_true]
    by_cases hu : u < 10
    · rw [Lib.decDigits_one hu, List.all_cons, h1 u hu]; rfl
    · rw [Lib.decDigits, dif_neg hu, List.all_append, ih _ (by omega), List.all_cons, h1 _ (Nat.mod_lt u (show 10 > 0 by omega))]; rfl
theorem nd_le : ∀ (k u : Nat), u < 10 ^ (k + 1) → Lib.nDigits u ≤ k + 1
  | k, u, h => by
    by_cases hu : u < 10
    · rw [Lib.nDigits_small hu]; omega
    · rw [Lib.nDigits_big hu]
      match k, h with
      | 0, h => omega
      | k + 1, h =>
        have := nd_le k (u / 10) (by rw [Nat.pow_succ] at h; omega)
        omega
theorem isV_iff {k : Int} : isV k = true ↔ k = 5 ∨ k = 6 ∨ k = 7 := by simp [isV]; omega
theorem right_itoa {k : Int} (hk : isV k = true) (n : Nat) (hn : n ≤ 2000000000) : rightB k (Lib.itoa (n : Int)) [] = true := by
  have h1 : Lib.itoa (n : Int) = Lib.decDigits n := by unfold Lib.itoa; rw [if_neg (by omega)]; rfl
  have h2 : (Lib.decDigits n).length ≤ 10 := by rw [Lib.decDigits_length]; exact nd_le 9 n (by omega)
  have h3 : Lib.decDigits n ≠ [] := fun h => by have := Lib.decDigits_length n; have := Lib.nDigits_pos n; rw [h] at *; simp at *; omega
  rw [h1]
  have h4 := dec_lod n
  unfold rightB
  rcases isV_iff.1 hk with rfl | rfl | rfl <;> simp [h3, h4] <;> omega

/-! ### names -/
theorem nameV_inj {k k' : Int} {s s' : List UInt8} (h : nameV k s = nameV k' s') : s = s' := by
  unfold nameV at h
  have hl : ∀ k : Int, (if k = 5 then [115, 46] else if k = 6 then [116, 46] else [101, 46] : List UInt8).length = 2 := fun k => by split <;> (try split) <;> rfl
  exact (List.append_inj h ((hl k).trans (hl k').symm)).2
theorem nameV_kind {k k' : Int} (hk : isV k = true) (hk' : isV k' = true) {s s' : List UInt8} (h : nameV k s = nameV k' s') : k = k' := by
  unfold nameV at h
  rcases isV_iff.1 hk with rfl | rfl | rfl <;> rcases isV_iff.1 hk' with rfl | rfl | rfl <;> simp at h <;> rfl
theorem nameV_ne (k : Int) (s : List UInt8) : nameV k s ≠ [] := by unfold nameV; split <;> (try split) <;> simp
theorem nameP_V {k : Int} (h : isV k = true) (s : List UInt8) : nameP k s = nameV k s := by unfold nameP; rw [if_pos h]
theorem nameP_no {k : Int} (h : isV k = false) (s : List UInt8) : nameP k s = [] := by unfold nameP; rw [if_neg (by simp [h])]
theorem varB_of {k : Int} {s : List UInt8} (hk : isV k = true) (hr : rightB k s [] = true) : varB (nameV k s) = some (k, s) := by
  unfold nameV
  rcases isV_iff.1 hk with rfl | rfl | rfl
  · show varB (115 :: 46 :: s) = _
    show (if (46 : UInt8) = 46 ∧ 0 ≤ idx3 115 ∧ rightB (5 + idx3 115) s [] = true then some (5 + idx3 115, s) else none) = _
    rw [show idx3 115 = 0 from rfl, if_pos ⟨rfl, by omega, hr⟩]; rfl
  · show varB (116 :: 46 :: s) = _
    show (if (46 : UInt8) = 46 ∧ 0 ≤ idx3 116 ∧ rightB (5 + idx3 116) s [] = true then some (5 + idx3 116, s) else none) = _
    rw [show idx3 116 = 1 from rfl, if_pos ⟨rfl, by omega, hr⟩]; rfl
  · show varB (101 :: 46 :: s) = _
    show (if (46 : UInt8) = 46 ∧ 0 ≤ idx3 101 ∧ rightB (5 + idx3 101) s [] = true then some (5 + idx3 101, s) else none) = _
    rw [show idx3 101 = 2 from rfl, if_pos ⟨rfl, by omega, hr⟩]; rfl

/-! ### where a name stands -/
def ixW (x : List UInt8) : List (List UInt8) → Nat
  | [] => 0
  | y :: r => if y = x then 0 else ixW x r + 1
theorem ix_le (x : List UInt8) : ∀ w, ixW x w ≤ w.length
  | [] => Nat.le_refl _
  | y :: r => by have := ix_le x r; simp only [ixW, List.length_cons]; split <;> omega
theorem ix_mem {x : List UInt8} : ∀ {w}, x ∈ w → ixW x w < w.length ∧ w[ixW x w]? = some x
  | y :: r, h => by
    simp only [ixW]
    by_cases q : y = x
    · rw [if_pos q]; subst q; simp
    · rw [if_neg q]
      have := ix_mem (w := r) ((List.mem_cons.1 h).resolve_left (fun e => q e.symm))
      exact ⟨by simp; omega, by simpa using this.2⟩
theorem ix_not {x : List UInt8} : ∀ {w}, x ∉ w → ixW x w = w.length
  | [], h => rfl
  | y :: r, h => by
    simp only [List.mem_cons, not_or] at h
    simp only [ixW, List.length_cons]
    rw [if_neg (fun e => h.1 e.symm), ix_not h.2]
theorem ix_app {x : List UInt8} (r : List (List UInt8)) : ∀ {w}, x ∈ w → ixW x (w ++ r) = ixW x w
  | y :: t, h => by
    simp only [List.cons_append, ixW]
    by_cases q : y = x
    · rw [if_pos q, if_pos q]
    · rw [if_neg q, if_neg q, ix_app r ((List.mem_cons.1 h).resolve_left (fun e => q e.symm))]
theorem ix_new {x : List UInt8} : ∀ {w}, x ∉ w → ixW x (w ++ [x]) = w.length
  | [], h => by simp [ixW]
  | y :: r, h => by
    simp only [List.mem_cons, not_or] at h
    simp only [List.cons_append, ixW, List.length_cons]
    rw [if_neg (fun e => h.1 e.symm), ix_new h.2]
theorem ix_of {x : List UInt8} : ∀ {w : List (List UInt8)} {i : Nat}, w.Nodup → w[i]? = some x → ixW x w = i
  | y :: r, 0, hd, h => by
    have : y = x := by simpa using h
    simp [ixW, this]
  | y :: r, i + 1, hd, h => by
    rw [List.nodup_cons] at hd
    have h' : r[i]? = some x := by simpa using h
    have hm := List.mem_of_getElem? h'
    simp only [ixW]
    rw [if_neg (fun e : y = x => hd.1 (by rw [e]; exact hm)), ix_of hd.2 h']
def addN (w : List (List UInt8)) (x : List UInt8) : List (List UInt8) := if x ∈ w then w else w ++ [x]
theorem addN_ix (w : List (List UInt8)) (x : List UInt8) : x ∈ addN w x ∧ ixW x (addN w x) = ixW x w ∧ ∃ r, addN w x = w ++ r := by
  unfold addN
  by_cases h : x ∈ w
  · rw [if_pos h]; exact ⟨h, rfl, [], by simp⟩
  · rw [if_neg h]; exact ⟨by simp, by rw [ix_new h, ix_not h], _, rfl⟩
theorem addN_nd {w : List (List UInt8)} (x : List UInt8) (h : w.Nodup) : (addN w x).Nodup := by
  unfold addN
  split
  · exact h
  · rename_i q
    refine List.nodup_append.2 ⟨h, by simp, ?_⟩
    rintro a ha b hb rfl
    rw [List.mem_singleton] at hb
    exact q (hb ▸ ha)
theorem addN_len (w : List (List UInt8)) (x : List UInt8) : (addN w x).length ≤ w.length + 1 := by
  unfold addN; split <;> simp

/-! ### canonical names -/
mutual
/-- A term with the numbers of its variables for names. -/
def cnT (n : Nat) (w : List (List UInt8)) : Tm → Tm × List (List UInt8)
  | .mk k s c => if isV k = true then (.mk k (Lib.itoa ((n + ixW (nameV k s) w : Nat) : Int)) [], addN w (nameV k s)) else (.mk k s (cnL n w c).1, (cnL n w c).2)
def cnL (n : Nat) (w : List (List UInt8)) : List Tm → List Tm × List (List UInt8)
  | [] => ([], w)
  | t :: r => ((cnT n w t).1 :: (cnL n (cnT n w t).2 r).1, (cnL n (cnT n w t).2 r).2)
end
def nmOk (x : List UInt8) : Prop := ∃ k s, isV k = true ∧ rightB k s [] = true ∧ x = nameV k s
theorem fmt_var {k : Int} {s c} (hk : isV k = true) (h : fmt 8 (.mk k s c) = true) : rightB k s [] = true ∧ c = [] := by
  simp only [fmt, Bool.and_eq_true] at h
  have hc : c = [] := by
    rcases right_kids h.1.1 with h | h | h
    · rcases isV_iff.1 hk with h' | h' | h' <;> omega
    · rcases isV_iff.1 hk with h' | h' | h' <;> omega
    · exact h
  subst hc
  exact ⟨h.1.1, rfl⟩
theorem fmt_no {k : Int} {s c} (h : fmt 8 (.mk k s c) = true) : fms 8 c = true := by
  simp only [fmt, Bool.and_eq_true] at h
  exact h.2
mutual
theorem cnT_len (n : Nat) (w) : ∀ t, (cnT n w t).2.length ≤ w.length + szt t
  | .mk k s c => by
    rw [cnT, szt]
    split
    · have := addN_len w (nameV k s); dsimp only; omega
    · have := cnL_len n w c; dsimp only; omega
theorem cnL_len (n : Nat) (w) : ∀ l, (cnL n w l).2.length ≤ w.length + szs l
  | [] => Nat.le_refl _
  | t :: r => by
    have h1 := cnT_len n w t
    have h2 := cnL_len n (cnT n w t).2 r
    simp only [cnL, szs]
    omega
end
mutual
theorem cnT_app (n : Nat) (w) : ∀ t, ∃ r, (cnT n w t).2 = w ++ r
  | .mk k s c => by
    rw [cnT]
    split
    · exact (addN_ix w _).2.2
    · exact cnL_app n w c
theorem cnL_app (n : Nat) (w) : ∀ l, ∃ r, (cnL n w l).2 = w ++ r
  | [] => ⟨[], by simp [cnL]⟩
  | t :: r => by
    obtain ⟨p, h1⟩ := cnT_app n w t
    obtain ⟨q, h2⟩ := cnL_app n (cnT n w t).2 r
    exact ⟨p ++ q, by rw [cnL, h2, h1, List.append_assoc]⟩
end
mutual
theorem cnT_nd (n : Nat) (w) (h : w.Nodup) : ∀ t, (cnT n w t).2.Nodup
  | .mk k s c => by
    rw [cnT]
    split
    · exact addN_nd _ h
    · exact cnL_nd n w h c
theorem cnL_nd (n : Nat) (w) (h : w.Nodup) : ∀ l, (cnL n w l).2.Nodup
  | [] => h
  | t :: r => by rw [cnL]; exact cnL_nd n _ (cnT_nd n w h t) r
end
mutual
theorem cnT_ok (n : Nat) (w) (h : ∀ x ∈ w, nmOk x) : ∀ t, fmt 8 t = true → ∀ x ∈ (cnT n w t).2, nmOk x
  | .mk k s c, hf, x, hx => by
    rw [cnT] at hx
    split at hx
    · rename_i hk
      unfold addN at hx
      dsimp only at hx
      split at hx
      · exact h x hx
      · rcases List.mem_append.1 hx with hx | hx
        · exact h x hx
        · rw [List.mem_singleton] at hx
          exact ⟨k, s, hk, (fmt_var hk hf).1, hx⟩
    · exact cnL_ok n w h c (fmt_no hf) x hx
theorem cnL_ok (n : Nat) (w) (h : ∀ x ∈ w, nmOk x) : ∀ l, fms 8 l = true → ∀ x ∈ (cnL n w l).2, nmOk x
  | [], hf, x, hx => h x hx
  | t :: r, hf, x, hx => by
    simp only [fms, Bool.and_eq_true] at hf
    rw [cnL] at hx
    exact cnL_ok n _ (cnT_ok n w h t hf.1) r hf.2 x hx
end
mutual
theorem cnT_var (n : Nat) (w) : ∀ t, fmt 8 t = true → (visT varS w t).2 = (cnT n w t).2
  | .mk k s c, hf => by
    cases hk : isV k with
    | true =>
      obtain ⟨_, rfl⟩ := fmt_var hk hf
      simp only [visT, visL, varS, cnT, hk, if_true, nameP_V hk, nameV_ne, false_or, addN, List.contains_eq_mem, decide_eq_true_eq]
    | false =>
      have := cnL_var n w c (fmt_no hf)
      simp only [visT, varS, cnT, hk, nameP_no hk, true_or, if_true]
      rw [if_neg (by simp)]
      exact this
theorem cnL_var (n : Nat) (w) : ∀ l, fms 8 l = true → (visL varS w l).2 = (cnL n w l).2
  | [], hf => rfl
  | t :: r, hf => by
    simp only [fms, Bool.and_eq_true] at hf
    have h1 := cnT_var n w t hf.1
    have h2 := var_T t w
    simp only [visL, cnL]
    rw [← h1]
    revert h2
    generalize visT varS w t = q
    obtain ⟨b, x⟩ := q
    intro h2
    dsimp only at h2 ⊢
    subst h2
    exact cnL_var n x r hf.2
end
theorem varL_cn (n : Nat) {a : List Tm} (hf : fms 8 a = true) : varL a = (cnL n [] a).2 := cnL_var n [] a hf
/-! ### Fresh is canonical -/
theorem findB_fr {x : List UInt8} : ∀ {W : List (List UInt8)} {n : Nat}, x ∈ W → findB x (frL W (n : Int)) = some [.mk (((varB x).map (·.1)).getD 0) (Lib.itoa ((n + ixW x W : Nat) : Int)) []]
  | y :: r, n, h => by
    simp only [frL, findB, frB, ixW]
    by_cases q : y = x
    · subst q; simp
    · have h' := (List.mem_cons.1 h).resolve_left (fun e => q e.symm)
      have := findB_fr (n := n + 1) h'
      rw [if_neg (by simpa using q), if_neg q, show ((n : Int) + 1) = ((n + 1 : Nat) : Int) by omega, this, show n + 1 + ixW x r = n + (ixW x r + 1) by omega]
theorem valB_no {l : List Bn} {k : Int} (hk : isV k = false) (s : List UInt8) : valB l k s = none := by unfold valB; rw [if_neg (by simp [hk])]
theorem valB_V {l : List Bn} {k : Int} (hk : isV k = true) (s : List UInt8) : valB l k s = findB (nameV k s) l := by unfold valB; rw [if_pos hk]
mutual
theorem cnT_un (n : Nat) (W : List (List UInt8)) (w) : ∀ t, fmt 8 t = true → (∃ r, W = (cnT n w t).2 ++ r) → unT (frL W n) t = [(cnT n w t).1]
  | .mk k s c, hf, ⟨r, hW⟩ => by
    rw [unT]
    cases hk : isV k with
    | true =>
      obtain ⟨hr, rfl⟩ := fmt_var hk hf
      rw [cnT, if_pos hk] at hW ⊢
      dsimp only at hW ⊢
      obtain ⟨h1, h2, _⟩ := addN_ix w (nameV k s)
      have hm : nameV k s ∈ W := by rw [hW]; exact List.mem_append_left _ h1
      rw [valB_V hk, findB_fr hm, varB_of hk hr, hW, ix_app r h1, h2]
      rfl
    | false =>
      rw [cnT, if_neg (by simp [hk])] at hW ⊢
      rw [valB_no hk]
      dsimp only at hW ⊢
      rw [cnL_un n W w c (fmt_no hf) ⟨r, hW⟩]
theorem cnL_un (n : Nat) (W : List (List UInt8)) (w) : ∀ l, fms 8 l = true → (∃ r, W = (cnL n w l).2 ++ r) → unL (frL W n) l = (cnL n w l).1
  | [], hf, _ => rfl
  | t :: r, hf, ⟨q, hW⟩ => by
    simp only [fms, Bool.and_eq_true] at hf
    rw [cnL] at hW ⊢
    dsimp only at hW ⊢
    obtain ⟨p, h1⟩ := cnL_app n (cnT n w t).2 r
    rw [unL, cnT_un n W w t hf.1 ⟨p ++ q, by rw [hW, h1, List.append_assoc]⟩, cnL_un n W _ r hf.2 ⟨q, hW⟩]
    rfl
end
/-- The expression of Fresh. -/
def frE (e : List Tm) (n : Nat) : List Tm := unL (frL (varL e) n) e
theorem frE_cn (n : Nat) {e : List Tm} (hf : fms 8 e = true) : frE e n = (cnL n [] e).1 := by
  unfold frE
  rw [varL_cn n hf]
  exact cnL_un n _ [] e hf ⟨[], by simp⟩
mutual
theorem cnT_right (n : Nat) (w) : ∀ t, n + w.length + szt t ≤ 2000000000 → fmt 8 t = true → fmt 8 (cnT n w t).1 = true ∧ szt (cnT n w t).1 = szt t ∧ dpt (cnT n w t).1 = dpt t
  | .mk k s c, hn, hf => by
    cases hk : isV k with
    | true =>
      obtain ⟨hr, rfl⟩ := fmt_var hk hf
      have := ix_le (nameV k s) w
      rw [cnT, if_pos hk]
      refine ⟨?_, rfl, ?_⟩
      · simp only [fmt, fms, Bool.and_eq_true, decide_eq_true_eq] at hf ⊢
        exact ⟨⟨right_itoa hk _ (by simp only [szt] at hn; omega), hf.1.2⟩, trivial⟩
      · simp [dpt]
    | false =>
      rw [cnT, if_neg (by simp [hk])]
      obtain ⟨h1, h2, h3, h4⟩ := cnL_right n w c (by simp only [szt] at hn; omega) (fmt_no hf)
      refine ⟨?_, by simp only [szt, h2], ?_⟩
      · simp only [fmt, Bool.and_eq_true] at hf ⊢
        exact ⟨⟨right_c (fun h => by subst h; rfl) hf.1.1, hf.1.2⟩, h1⟩
      · simp only [dpt, h3]
        by_cases hc : c = []
        · subst hc; rfl
        · have : (cnL n w c).1 ≠ [] := fun h => hc (h4 h)
          simp only [ne_eq, hc, this]
theorem cnL_right (n : Nat) (w) : ∀ l, n + w.length + szs l ≤ 2000000000 → fms 8 l = true → fms 8 (cnL n w l).1 = true ∧ szs (cnL n w l).1 = szs l ∧ dps (cnL n w l).1 = dps l ∧ ((cnL n w l).1 = [] → l = [])
  | [], hn, hf => ⟨rfl, rfl, rfl, fun _ => rfl⟩
  | t :: r, hn, hf => by
    simp only [fms, Bool.and_eq_true] at hf
    simp only [szs] at hn
    have hl := cnT_len n w t
    obtain ⟨h1, h2, h3⟩ := cnT_right n w t (by omega) hf.1
    obtain ⟨g1, g2, g3, _⟩ := cnL_right n (cnT n w t).2 r (by omega) hf.2
    simp only [cnL, fms, szs, dps, h1, h2, h3, g1, g2, g3]
    exact ⟨rfl, trivial, trivial, fun h => by cases h⟩
end
theorem frE_right {n : Nat} {e : List Tm} (hn : n ≤ 1000000000) (h : errB 8 e = 0) : errB 8 (frE e n) = 0 ∧ szs (frE e n) = szs e := by
  obtain ⟨h1, h2, h3⟩ := errB_iff.1 h
  rw [frE_cn n h3]
  obtain ⟨g1, g2, g3, _⟩ := cnL_right n [] e (by simp; omega) h3
  exact ⟨errB_iff.2 ⟨by omega, by omega, g1⟩, g2⟩
end Go.Vi
namespace Go.Vi
open Go Go.Proofs

/-- A pair of a renaming: the old name, and the new variable. -/
structure Rp where
  x : List UInt8
  k : Int
  s : List UInt8
abbrev Rp.nm (p : Rp) : List UInt8 := nameV p.k p.s
def Rp.b (p : Rp) : Bn := ⟨p.x, [.mk p.k p.s []]⟩
def lkT (w : List Rp) (x : List UInt8) : Option Rp := match w with
  | [] => none
  | p :: r => if p.x == x then some p else lkT r x
def lkF (w : List Rp) (x : List UInt8) : Option Rp := match w with
  | [] => none
  | p :: r => if p.nm == x then some p else lkF r x
/-- One more variable. -/
def reV (w : List Rp) (a : List UInt8) (k : Int) (s : List UInt8) : Option (List Rp) := match lkT w a, lkF w (nameV k s) with
  | none, none => some (w ++ [⟨a, k, s⟩])
  | some p, some q => if p.nm = nameV k s ∧ q.x = a then some w else none
  | _, _ => none
mutual
def reT (w : List Rp) : Tm → Tm → Option (List Rp)
  | .mk k s c, .mk k' s' c' => if k = k' then (if isV k = true then reV w (nameV k s) k s' else if s = s' then reL w c c' else none) else none
def reL (w : List Rp) : List Tm → List Tm → Option (List Rp)
  | [], [] => some w
  | t :: r, t' :: r' => match reT w t t' with
    | some w' => reL w' r r'
    | none => none
  | _, _ => none
end
theorem lkT_ix : ∀ (w : List Rp) (x), lkT w x = w[ixW x (w.map (·.x))]?
  | [], x => rfl
  | p :: r, x => by
    simp only [lkT, List.map_cons, ixW]
    by_cases q : p.x = x
    · simp [q]
    · rw [if_neg (by simpa using q), if_neg q, lkT_ix r x]; simp
theorem lkF_ix : ∀ (w : List Rp) (x), lkF w x = w[ixW x (w.map Rp.nm)]?
  | [], x => rfl
  | p :: r, x => by
    simp only [lkF, List.map_cons, ixW]
    by_cases q : p.nm = x
    · simp [q]
    · rw [if_neg (by simpa using q), if_neg q, lkF_ix r x]; simp
def bij (w : List Rp) : Prop := (w.map (·.x)).Nodup ∧ (w.map Rp.nm).Nodup
theorem reV_cn {w : List Rp} (hb : bij w) (a : List UInt8) (k : Int) (s : List UInt8) :
    match reV w a k s with
    | some w' => ixW a (w.map (·.x)) = ixW (nameV k s) (w.map Rp.nm) ∧ w'.map (·.x) = addN (w.map (·.x)) a ∧ w'.map Rp.nm = addN (w.map Rp.nm) (nameV k s)
    | none => ixW a (w.map (·.x)) ≠ ixW (nameV k s) (w.map Rp.nm) := by
  unfold reV
  rw [lkT_ix, lkF_ix]
  have lA := ix_le a (w.map (·.x))
  have lB := ix_le (nameV k s) (w.map Rp.nm)
  rw [List.length_map] at lA lB
  by_cases ha : a ∈ w.map (·.x)
  · obtain ⟨i1, i2⟩ := ix_mem ha
    rw [List.length_map] at i1
    by_cases hn : nameV k s ∈ w.map Rp.nm
    · obtain ⟨j1, j2⟩ := ix_mem hn
      rw [List.length_map] at j1
      obtain ⟨p, hp⟩ : ∃ p, w[ixW a (w.map (·.x))]? = some p := ⟨_, List.getElem?_eq_getElem i1⟩
      obtain ⟨q, hq⟩ : ∃ q, w[ixW (nameV k s) (w.map Rp.nm)]? = some q := ⟨_, List.getElem?_eq_getElem j1⟩
      have i2' := i2
      have j2' := j2
      rw [List.getElem?_map, hp, Option.map_some] at i2'
      rw [List.getElem?_map, hq, Option.map_some] at j2'
      injection i2' with i2'
      injection j2' with j2'
      rw [hp, hq]
      dsimp only
      by_cases c : p.nm = nameV k s ∧ q.x = a
      · rw [if_pos c]
        dsimp only
        have : (w.map Rp.nm)[ixW a (w.map (·.x))]? = some (nameV k s) := by rw [List.getElem?_map, hp, Option.map_some, c.1]
        have := ix_of hb.2 this
        refine ⟨this.symm, ?_, ?_⟩
        · unfold addN; rw [if_pos ha]
        · unfold addN; rw [if_pos hn]
      · rw [if_neg c]
        dsimp only
        intro e
        refine c ⟨?_, ?_⟩
        · rw [e, hq] at hp
          injection hp with hp
          rw [← hp]; exact j2'
        · rw [← e, hp] at hq
          injection hq with hq
          rw [← hq]; exact i2'
    · have j := ix_not hn
      rw [List.length_map] at j
      obtain ⟨p, hp⟩ : ∃ p, w[ixW a (w.map (·.x))]? = some p := ⟨_, List.getElem?_eq_getElem i1⟩
      rw [hp, j, List.getElem?_eq_none (Nat.le_refl _)]
      dsimp only
      omega
  · have i := ix_not ha
    rw [List.length_map] at i
    by_cases hn : nameV k s ∈ w.map Rp.nm
    · obtain ⟨j1, j2⟩ := ix_mem hn
      rw [List.length_map] at j1
      obtain ⟨q, hq⟩ : ∃ q, w[ixW (nameV k s) (w.map Rp.nm)]? = some q := ⟨_, List.getElem?_eq_getElem j1⟩
      rw [hq, i, List.getElem?_eq_none (Nat.le_refl _)]
      dsimp only
      omega
    · have j := ix_not hn
      rw [List.length_map] at j
      rw [i, j, List.getElem?_eq_none (Nat.le_refl _)]
      dsimp only
      refine ⟨rfl, ?_, ?_⟩
      · unfold addN; rw [if_neg ha, List.map_append]; rfl
      · unfold addN; rw [if_neg hn, List.map_append]; rfl
mutual
theorem reT_cn (n : Nat) : ∀ (w : List Rp) (t t' : Tm), bij w → fmt 8 t = true → fmt 8 t' = true →
    match reT w t t' with
    | some w' => (cnT n (w.map (·.x)) t).1 = (cnT n (w.map Rp.nm) t').1 ∧ w'.map (·.x) = (cnT n (w.map (·.x)) t).2 ∧ w'.map Rp.nm = (cnT n (w.map Rp.nm) t').2
    | none => (cnT n (w.map (·.x)) t).1 ≠ (cnT n (w.map Rp.nm) t').1
  | w, .mk k s c, .mk k' s' c', hb, hf, hf' => by
    rw [reT, cnT, cnT]
    by_cases e : k = k'
    · subst e
      rw [if_pos rfl]
      by_cases hk : isV k = true
      · rw [if_pos hk, if_pos hk, if_pos hk]
        have := reV_cn hb (nameV k s) k s'
        revert this
        cases reV w (nameV k s) k s' with
        | some w' =>
          intro ⟨h1, h2, h3⟩
          exact ⟨by rw [h1], h2, h3⟩
        | none =>
          intro h
          dsimp only
          intro e
          injection e with _ e
          exact h (by have := itoa_inj e; omega)
      · rw [if_neg hk, if_neg hk, if_neg hk]
        by_cases e : s = s'
        · subst e
          rw [if_pos rfl]
          have := reL_cn n w c c' hb (fmt_no hf) (fmt_no hf')
          revert this
          cases reL w c c' with
          | some w' =>
            intro ⟨h1, h2, h3⟩
            exact ⟨by rw [h1], h2, h3⟩
          | none =>
            intro h
            dsimp only
            intro e
            injection e with _ _ e
            exact h e
        · rw [if_neg e]
          dsimp only
          intro e'
          injection e' with _ e'
          exact e e'
    · rw [if_neg e]
      dsimp only
      intro e'
      apply e
      split at e' <;> split at e' <;> (injection e')
theorem reL_cn (n : Nat) : ∀ (w : List Rp) (l l' : List Tm), bij w → fms 8 l = true → fms 8 l' = true →
    match reL w l l' with
    | some w' => (cnL n (w.map (·.x)) l).1 = (cnL n (w.map Rp.nm) l').1 ∧ w'.map (·.x) = (cnL n (w.map (·.x)) l).2 ∧ w'.map Rp.nm = (cnL n (w.map Rp.nm) l').2
    | none => (cnL n (w.map (·.x)) l).1 ≠ (cnL n (w.map Rp.nm) l').1
  | w, [], [], hb, hf, hf' => by
    rw [reL]
    exact ⟨rfl, rfl, rfl⟩
  | w, t :: r, t' :: r', hb, hf, hf' => by
    simp only [fms, Bool.and_eq_true] at hf hf'
    rw [reL, cnL, cnL]
    have h := reT_cn n w t t' hb hf.1 hf'.1
    revert h
    cases reT w t t' with
    | none =>
      intro h
      dsimp only
      intro e
      injection e with e
      exact h e
    | some w' =>
      intro ⟨h1, h2, h3⟩
      dsimp only
      have hb' : bij w' := ⟨by rw [h2]; exact cnT_nd n _ hb.1 t, by rw [h3]; exact cnT_nd n _ hb.2 t'⟩
      have g := reL_cn n w' r r' hb' hf.2 hf'.2
      rw [h2, h3] at g
      revert g
      cases reL w' r r' with
      | none =>
        intro g
        dsimp only
        intro e
        injection e with _ e
        exact g e
      | some w2 =>
        intro ⟨g1, g2, g3⟩
        exact ⟨by rw [h1, g1], g2, g3⟩
  | w, [], t' :: r', hb, hf, hf' => by
    rw [reL, cnL, cnL]
    · dsimp only
      intro e
      cases e
    · intro _ h; cases h
    · intro _ _ _ _ h; cases h
  | w, t :: r, [], hb, hf, hf' => by
    rw [reL, cnL, cnL]
    · dsimp only
      intro e
      cases e
    · intro h; cases h
    · intro _ _ _ _ _ h; cases h
end
theorem bij_nil : bij [] := ⟨List.nodup_nil, List.nodup_nil⟩
theorem re_iff (n : Nat) {a b : List Tm} (ha : fms 8 a = true) (hb : fms 8 b = true) : (reL [] a b).isSome = eqB (frE a n) (frE b n) := by
  rw [frE_cn n ha, frE_cn n hb]
  have := reL_cn n [] a b bij_nil ha hb
  revert this
  cases reL [] a b with
  | some w' => intro ⟨h, _⟩; exact (eqB_iff.2 h).symm
  | none =>
    intro h
    cases q : eqB (cnL n [] a).1 (cnL n [] b).1 with
    | false => rfl
    | true => exact absurd (eqB_iff.1 q) h
/-! ### what a renaming is -/
def rnOk (p : Rp) : Prop := isV p.k = true ∧ (∃ s0, rightB p.k s0 [] = true ∧ p.x = nameV p.k s0) ∧ rightB p.k p.s [] = true
theorem lkT_app (x : List UInt8) : ∀ a b : List Rp, lkT (a ++ b) x = match lkT a x with | some v => some v | none => lkT b x
  | [], b => rfl
  | p :: r, b => by
    simp only [List.cons_append, lkT]
    split
    · rfl
    · exact lkT_app x r b
theorem lkT_mem {x : List UInt8} : ∀ {w : List Rp} {p}, lkT w x = some p → p ∈ w
  | q :: r, p, h => by
    simp only [lkT] at h
    split at h
    · injection h with h; subst h; simp
    · exact List.mem_cons_of_mem _ (lkT_mem h)
theorem findB_re (x : List UInt8) : ∀ w : List Rp, findB x (w.map Rp.b) = (lkT w x).map fun p => [.mk p.k p.s []]
  | [] => rfl
  | p :: r => by
    simp only [List.map_cons, findB, lkT, Rp.b]
    split
    · rfl
    · exact findB_re x r
theorem reV_app {w w' : List Rp} {a k s} (h : reV w a k s = some w') : ∃ r, w' = w ++ r ∧ ∀ p ∈ r, p = ⟨a, k, s⟩ := by
  unfold reV at h
  split at h
  · injection h with h; exact ⟨_, h.symm, fun p hp => by simpa using hp⟩
  · split at h
    · injection h with h; exact ⟨[], by simp [h], fun p hp => by cases hp⟩
    · cases h
  · cases h
mutual
theorem reT_app : ∀ (w : List Rp) (t t' : Tm) {w'}, fmt 8 t = true → fmt 8 t' = true → reT w t t' = some w' → ∃ r, w' = w ++ r ∧ ∀ p ∈ r, rnOk p
  | w, .mk k s c, .mk k' s' c', w', hf, hf', h => by
    rw [reT] at h
    split at h
    · rename_i e
      subst e
      split at h
      · rename_i hk
        obtain ⟨r, h1, h2⟩ := reV_app h
        exact ⟨r, h1, fun p hp => by rw [h2 p hp]; exact ⟨hk, ⟨s, (fmt_var hk hf).1, rfl⟩, (fmt_var hk hf').1⟩⟩
      · split at h
        · exact reL_app w c c' (fmt_no hf) (fmt_no hf') h
        · cases h
    · cases h
theorem reL_app : ∀ (w : List Rp) (l l' : List Tm) {w'}, fms 8 l = true → fms 8 l' = true → reL w l l' = some w' → ∃ r, w' = w ++ r ∧ ∀ p ∈ r, rnOk p
  | w, [], [], w', hf, hf', h => by
    rw [reL] at h
    injection h with h
    exact ⟨[], by simp [h], fun p hp => by cases hp⟩
  | w, t :: r, t' :: r', w', hf, hf', h => by
    simp only [fms, Bool.and_eq_true] at hf hf'
    rw [reL] at h
    split at h
    · rename_i w1 h1
      obtain ⟨p, e1, o1⟩ := reT_app w t t' hf.1 hf'.1 h1
      obtain ⟨q, e2, o2⟩ := reL_app w1 r r' hf.2 hf'.2 h
      exact ⟨p ++ q, by rw [e2, e1, List.append_assoc], fun x hx => (List.mem_append.1 hx).elim (o1 x) (o2 x)⟩
    · cases h
  | w, [], t' :: r', w', hf, hf', h => by
    rw [reL] at h
    · cases h
    · intro _ h; cases h
    · intro _ _ _ _ h; cases h
  | w, t :: r, [], w', hf, hf', h => by
    rw [reL] at h
    · cases h
    · intro h; cases h
    · intro _ _ _ _ _ h; cases h
end
mutual
theorem reT_un : ∀ (w : List Rp) (t t' : Tm) {w' W r}, (∀ p ∈ w, rnOk p) → fmt 8 t = true → fmt 8 t' = true → reT w t t' = some w' → W = w' ++ r → unT (W.map Rp.b) t = [t']
  | w, .mk k s c, .mk k' s' c', w', W, r, ho, hf, hf', h, hW => by
    rw [reT] at h
    split at h
    · rename_i e
      subst e
      split at h
      · rename_i hk
        obtain ⟨_, rfl⟩ := fmt_var hk hf
        obtain ⟨_, rfl⟩ := fmt_var hk hf'
        rw [unT, valB_V hk, findB_re, hW]
        unfold reV at h
        split at h
        · rename_i h1 h2
          injection h with h
          rw [← h, List.append_assoc, lkT_app, h1]
          simp [lkT]
        · rename_i p q h1 h2
          split at h
          · rename_i hc
            injection h with h
            have hp := ho p (lkT_mem h1)
            have e1 := nameV_kind hp.1 hk hc.1
            have e2 := nameV_inj hc.1
            rw [← h, lkT_app, h1]
            simp [e1, e2]
          · cases h
        · cases h
      · rename_i hk
        split at h
        · rename_i e
          subst e
          rw [unT, valB_no (by simpa using hk)]
          dsimp only
          rw [reL_un w c c' ho (fmt_no hf) (fmt_no hf') h hW]
        · cases h
    · cases h
theorem reL_un : ∀ (w : List Rp) (l l' : List Tm) {w' W r}, (∀ p ∈ w, rnOk p) → fms 8 l = true → fms 8 l' = true → reL w l l' = some w' → W = w' ++ r → unL (W.map Rp.b) l = l'
  | w, [], [], w', W, r, ho, hf, hf', h, hW => rfl
  | w, t :: r, t' :: r', w', W, q, ho, hf, hf', h, hW => by
    simp only [fms, Bool.and_eq_true] at hf hf'
    rw [reL] at h
    split at h
    · rename_i w1 h1
      obtain ⟨p1, e1, o1⟩ := reT_app w t t' hf.1 hf'.1 h1
      obtain ⟨p2, e2, o2⟩ := reL_app w1 r r' hf.2 hf'.2 h
      rw [unL, reT_un w t t' ho hf.1 hf'.1 h1 (r := p2 ++ q) (by rw [hW, e2, List.append_assoc]), reL_un w1 r r' (fun p hp => by rw [e1] at hp; exact (List.mem_append.1 hp).elim (ho p) (o1 p)) hf.2 hf'.2 h hW]
      rfl
    · cases h
  | w, [], t' :: r', w', W, q, ho, hf, hf', h, hW => by
    rw [reL] at h
    · cases h
    · intro _ h; cases h
    · intro _ _ _ _ h; cases h
  | w, t :: r, [], w', W, q, ho, hf, hf', h, hW => by
    rw [reL] at h
    · cases h
    · intro h; cases h
    · intro _ _ _ _ _ h; cases h
end
theorem rn_good {p : Rp} (h : rnOk p) : bgood p.b := by
  obtain ⟨hk, ⟨s0, h1, h2⟩, h3⟩ := h
  refine ⟨p.k, s0, by rw [Rp.b, h2]; exact varB_of hk h1, ?_, ?_⟩
  · refine errB_iff.2 ⟨by simp [Rp.b, szs, szt], by rcases isV_iff.1 hk with e | e | e <;> simp [Rp.b, dps, dpt, e], ?_⟩
    simp only [Rp.b, fms, fmt, h3, Bool.and_true, Bool.true_and, decide_eq_true_eq]
    rcases isV_iff.1 hk with e | e | e <;> omega
  · rcases isV_iff.1 hk with e | e | e <;> simp [fitsB, Rp.b, e]
theorem re_len {a b : List Tm} {w : List Rp} (ha : fms 8 a = true) (hb : fms 8 b = true) (h : reL [] a b = some w) : bij w ∧ w.length ≤ szs a := by
  have g := reL_cn 0 [] a b bij_nil ha hb
  rw [h] at g
  obtain ⟨_, g2, g3⟩ := g
  have hl := cnL_len 0 [] a
  refine ⟨⟨by rw [g2]; exact cnL_nd 0 _ List.nodup_nil a, by rw [g3]; exact cnL_nd 0 _ List.nodup_nil b⟩, ?_⟩
  have := congrArg List.length g2
  simp only [List.length_map] at this
  simp at hl
  simp at this
  omega
theorem re_to {a b : List Tm} {w : List Rp} (ha : errB 8 a = 0) (hb : errB 8 b = 0) (h : reL [] a b = some w) : toB a (w.map Rp.b) = (b, 0) := by
  obtain ⟨a1, a2, a3⟩ := errB_iff.1 ha
  obtain ⟨b1, b2, b3⟩ := errB_iff.1 hb
  obtain ⟨r, e, ho⟩ := reL_app [] a b a3 b3 h
  rw [List.nil_append] at e
  subst e
  obtain ⟨hbij, hl⟩ := re_len a3 b3 h
  have hg : ∀ p ∈ w.map Rp.b, bgood p := fun p hp => by
    obtain ⟨q, hq, rfl⟩ := List.mem_map.1 hp
    exact rn_good (ho q hq)
  have hu : unL (w.map Rp.b) a = b := reL_un [] a b (fun p hp => by cases hp) a3 b3 h (r := []) (by simp)
  rw [toB_of ha (chkB_of (by simp; omega) (by unfold nds; rw [List.map_map]; exact hbij.1) hg), toL_eq hg a3, hu, if_neg (by omega)]
/-! ### Renaming to Fresh -/
def frR : List (List UInt8) → Nat → List Rp
  | [], _ => []
  | x :: r, n => ⟨x, ((varB x).map (·.1)).getD 0, Lib.itoa (n : Int)⟩ :: frR r (n + 1)
theorem frR_b : ∀ (W : List (List UInt8)) (n : Nat), (frR W n).map Rp.b = frL W (n : Int)
  | [], n => rfl
  | x :: r, n => by
    rw [frR, frL, List.map_cons, frR_b r (n + 1)]
    rfl
theorem frR_app (a : List UInt8) : ∀ (w : List (List UInt8)) (n : Nat), frR (w ++ [a]) n = frR w n ++ [⟨a, ((varB a).map (·.1)).getD 0, Lib.itoa ((n + w.length : Nat) : Int)⟩]
  | [], n => rfl
  | x :: r, n => by
    simp only [List.cons_append, frR, frR_app a r (n + 1), List.length_cons]
    rw [show n + 1 + r.length = n + (r.length + 1) by omega]
theorem frR_lkT {a : List UInt8} : ∀ (w : List (List UInt8)) (n : Nat), lkT (frR w n) a = if a ∈ w then some ⟨a, ((varB a).map (·.1)).getD 0, Lib.itoa ((n + ixW a w : Nat) : Int)⟩ else none
  | [], n => by simp [frR, lkT]
  | x :: r, n => by
    simp only [frR, lkT, ixW]
    by_cases q : x = a
    · subst q; simp
    · rw [if_neg (by simpa using q), if_neg q, frR_lkT r (n + 1), show n + 1 + ixW a r = n + (ixW a r + 1) by omega]
      by_cases h : a ∈ r
      · rw [if_pos h, if_pos (List.mem_cons_of_mem _ h)]
      · rw [if_neg h, if_neg (fun hm => (List.mem_cons.1 hm).elim (fun e => q e.symm) h)]
theorem frR_no {k : Int} : ∀ (w : List (List UInt8)) (n m : Nat), n + w.length ≤ m ∨ m < n → lkF (frR w n) (nameV k (Lib.itoa (m : Int))) = none
  | [], n, m, h => rfl
  | x :: r, n, m, h => by
    simp only [frR, lkF, Rp.nm]
    rw [if_neg (fun e => by have := itoa_inj (nameV_inj (eq_of_beq e)); simp at h; omega)]
    exact frR_no r (n + 1) m (by simp at h; omega)
theorem frR_lkF {k : Int} {a s : List UInt8} (hv : varB a = some (k, s)) : ∀ (w : List (List UInt8)) (n : Nat), a ∈ w → ∃ p, lkF (frR w n) (nameV k (Lib.itoa ((n + ixW a w : Nat) : Int))) = some p ∧ p.x = a
  | x :: r, n, h => by
    simp only [frR, lkF, ixW, Rp.nm]
    by_cases q : x = a
    · subst q
      refine ⟨⟨x, k, Lib.itoa (n : Int)⟩, ?_, rfl⟩
      rw [if_pos rfl, Nat.add_zero, hv]
      simp only [Option.map_some, Option.getD_some, beq_self_eq_true, if_true]
    · have h' := (List.mem_cons.1 h).resolve_left (fun e => q e.symm)
      rw [if_neg q, if_neg (fun e => by have := itoa_inj (nameV_inj (eq_of_beq e)); omega), show n + (ixW a r + 1) = n + 1 + ixW a r by omega]
      exact frR_lkF hv r (n + 1) h'
mutual
theorem reT_fr (n : Nat) : ∀ (w : List (List UInt8)) (t : Tm), fmt 8 t = true → reT (frR w n) t (cnT n w t).1 = some (frR (cnT n w t).2 n)
  | w, .mk k s c, hf => by
    rw [cnT]
    by_cases hk : isV k = true
    · rw [if_pos hk, reT, if_pos rfl, if_pos hk]
      obtain ⟨hr, rfl⟩ := fmt_var hk hf
      have hv := varB_of hk hr
      unfold reV addN
      dsimp only
      rw [frR_lkT]
      by_cases hm : nameV k s ∈ w
      · obtain ⟨p, h1, h2⟩ := frR_lkF hv w n hm
        rw [if_pos hm, if_pos hm, h1]
        dsimp only
        rw [if_pos ⟨by rw [hv]; rfl, h2⟩]
      · rw [if_neg hm, if_neg hm, ix_not hm, frR_no w n _ (.inl (Nat.le_refl _)), frR_app, hv]
        rfl
    · rw [if_neg hk, reT, if_pos rfl, if_neg hk, if_pos rfl]
      exact reL_fr n w c (fmt_no hf)
theorem reL_fr (n : Nat) : ∀ (w : List (List UInt8)) (l : List Tm), fms 8 l = true → reL (frR w n) l (cnL n w l).1 = some (frR (cnL n w l).2 n)
  | w, [], hf => rfl
  | w, t :: r, hf => by
    simp only [fms, Bool.and_eq_true] at hf
    rw [cnL, reL, reT_fr n w t hf.1]
    exact reL_fr n _ r hf.2
end
theorem re_fr (n : Nat) {a : List Tm} (hf : fms 8 a = true) : reL [] a (frE a n) = some (frR (varL a) n) := by
  rw [frE_cn n hf, varL_cn n hf]
  exact reL_fr n [] a hf
end Go.Vi
set_option maxRecDepth 100000
set_option maxHeartbeats 1000000
namespace Go.Vi
open Go Go.Proofs

/-! ### values, run with the caller's memory -/
noncomputable abbrev A44 (n : Nat) : Mc := mcAt (Cx (hand T719)) 44 Tryd.f44 1 n
theorem a44 (n) : (A44 n).E.keep = [0, 2, 3, 5, 7, 8, 9, 10] ∧ (A44 n).E.cnd = [10] ∧ (A44 n).E.frz = [] ∧ (A44 n).E.pro = [] ∧ (A44 n).E.imp = [] ∧ (A44 n).E.n = 20 ∧ (A44 n).E.lvl = 1 ∧ (A44 n).E.P = Tryd.prog ∧ (A44 n).fuel = n ∧ (A44 n).C = hand T719 ∧ (A44 n).E.ok = okL := ⟨rfl, rfl, rfl, rfl, rfl, rfl, rfl, rfl, rfl, rfl, rfl⟩
def Q44 (a : List Bn) (O : Heap) (n : Nat) (r : Option (Ex × St)) : Prop := ∃ s', r = some (.ret, s') ∧ exports (A44 n).E s' [tget s'.τ 2] = some [vfn a] ∧ s'.O = O
theorem l44i {n k v3 vm v8 sz} {O : Heap} (a : List Bn) (ha : a.length ≤ 1000000) (hd : nds a) (hz : a ≠ [] → sz = 2) (hO : O ⟨0, 8, 0⟩ = some (v8, .arr sz (a.map Bn.v))) : ∀ r i n' s, a.drop i = r → r.length < n' → tget s.τ 7 = .ref ⟨0, 8, 0⟩ v8 0 a.length → tget s.τ 8 = I a.length → tget s.τ 9 = I (i : Nat) → tget s.τ 3 = .ptr ⟨1, 3, 0⟩ v3 0 0 → lget s.L (3, 0) = some (v3, .var [.mref ⟨1, 3, 1⟩ vm]) → lget s.L (3, 1) = some (vm, .map (kvE (a.take i))) → s.O = O →
    (∀ s', tget s'.τ 3 = .ptr ⟨1, 3, 0⟩ v3 0 0 → lget s'.L (3, 0) = some (v3, .var [.mref ⟨1, 3, 1⟩ vm]) → lget s'.L (3, 1) = some (vm, .map (kvE a)) → s'.O = O → Q44 a O n (X (A44 n) (.exit 0) k s')) →
    Q44 a O n (L (A44 n) (sub [1, 1, 0, 1, 0, 0] c744) n' k s)
  | [], i, n' + 1, s, hi, hn, h7, h8, h9, h3, h3', hm, hS, hx => by
    have hc := inlt (drop_nil' hi)
    rw [List.take_of_length_le (drop_nil' hi)] at hm
    rw [L_succ]
    simp only [vmr, vmw, vmp, vza, ↓reduceIte, Nat.reduceBEq, Nat.reduceLT, Nat.reduceAdd, Nat.reduceEqDiff, reduceCtorEq, vmt, vzb, vzc, vlen, vleaf, velems, oks, vst, vmd, ty, Nat.reduceLeDiff, Nat.reduceMul, Nat.reduceSub, c744, Tryd.f44, a44, h7, h8, h9, hc]
    refine hx _ ?_ ?_ ?_ ?_
    all_goals simp only [vmr, vmw, vmp, vza, ↓reduceIte, Nat.reduceBEq, Nat.reduceLT, Nat.reduceAdd, Nat.reduceEqDiff, reduceCtorEq, vmt, vzb, vzc, vlen, vleaf, velems, oks, vst, vmd, ty, Nat.reduceLeDiff, Nat.reduceMul, Nat.reduceSub, a44, h3, h3', hm, hS]
  | b :: r, i, n' + 1, s, hi, hn, h7, h8, h9, h3, h3', hm, hS, hx => by
    obtain ⟨g1, g2, g3⟩ := drop_cons hi
    have hcl := ilt g3
    have ga : (a.map Bn.v)[i]? = some (.agg [.str b.x, Ts b.e]) := by rw [List.getElem?_map, g1, Option.map_some, Bn.v]
    have w4 := wsuc g3 (by omega)
    have kok : keyOk Tryd.prog 9 (.str b.x) = true := by kernel_rfl
    have hf : mfind (.str b.x) (kvE (a.take i)) 0 = some none := by
      rcases kv_find b.x (a.take i) 0 with ⟨e, j, h, _⟩ | ⟨_, h⟩
      · rw [nds_take hd g1] at h; cases h
      · exact h
    have htk : kvE (a.take (i + 1)) = kvE (a.take i) ++ [(.str b.x, Ts b.e)] := by
      unfold kvE
      rw [List.take_add_one, g1, List.map_append]; rfl
    have hp : mput (.str b.x) (Ts b.e) (kvE (a.take i)) = some (kvE (a.take (i + 1))) := by
      unfold mput
      rw [hf, htk]
    have hz' := eq_true (hz (by rintro rfl; simp at g1))
    have o8 : s.O ⟨0, 8, 0⟩ = _ := (congrFun hS _).trans hO
    have ih := fun s => l44i (n := n) (k := k) (v3 := v3) (vm := vm) a ha hd hz hO r (i + 1) n' s g2 (by simp at hn; omega)
    simp only [sub, c744, Tryd.f44, gets] at ih
    rw [L_succ]
    simp only [vmr, vmw, vmp, vza, ↓reduceIte, Nat.reduceBEq, Nat.reduceLT, Nat.reduceAdd, Nat.reduceEqDiff, reduceCtorEq, vmt, vzb, vzc, vlen, vleaf, velems, oks, vst, vmd, ty, Nat.reduceLeDiff, Nat.reduceMul, Nat.reduceSub, c744, Tryd.f44, a44, h7, h8, h9, h3, h3', hm, hcl, ga, w4, kok, hp, mapPut, obj_lo, o8, hz']
    refine ih _ ?_ ?_ ?_ ?_ ?_ ?_ ?_ hx
    all_goals simp only [vmr, vmw, vmp, vza, ↓reduceIte, Nat.reduceBEq, Nat.reduceLT, Nat.reduceAdd, Nat.reduceEqDiff, reduceCtorEq, vmt, vzb, vzc, vlen, vleaf, velems, oks, vst, vmd, ty, Nat.reduceLeDiff, Nat.reduceMul, Nat.reduceSub, a44, h7, h8, h3, h3', hm, hS]
theorem w44i {n c v8 sz : Nat} {O : Heap} (a : List Bn) (ha : a.length ≤ 1000000) (hn : a.length < n) (hd : nds a) (hz : a ≠ [] → sz = 2) (hO : O ⟨0, 8, 0⟩ = some (v8, .arr sz (a.map Bn.v))) :
    ∃ c', (evF (Cx (hand T719)) (n + 1)).fn 44 [.ref ⟨0, 8, 0⟩ v8 0 a.length] 1 c O = some (.ret (vfn a), c', lower 1 O) := by
  have key : Q44 a O n (R (A44 n) (Tryd.f44.body.getD .skip) .top ⟨params 0 [.ref ⟨0, 8, 0⟩ v8 0 a.length], [], O, c⟩) := by
    have a1 := fun v3 vm k s => @l44i n k v3 vm v8 sz O a ha hd hz hO a 0 n s rfl hn
    simp only [c744, Tryd.f44, gets, sub] at a1
    simp only [vmr, vmw, vmp, vza, ↓reduceIte, Nat.reduceBEq, Nat.reduceLT, Nat.reduceAdd, Nat.reduceEqDiff, reduceCtorEq, vmt, vzb, vzc, vlen, vleaf, velems, oks, vst, vmd, ty, Nat.reduceLeDiff, Nat.reduceMul, Nat.reduceSub, Tryd.f44, a44, newMap]
    refine a1 (c + 1) (c + 2) _ _ ?_ ?_ ?_ ?_ ?_ ?_ ?_ (fun s' h3 h3' hm hS => ?_)
    case refine_8 =>
      simp only [vmr, vmw, vmp, vza, ↓reduceIte, Nat.reduceBEq, Nat.reduceLT, Nat.reduceAdd, Nat.reduceEqDiff, reduceCtorEq, vmt, vzb, vzc, vlen, vleaf, velems, oks, vst, vmd, ty, Nat.reduceLeDiff, Nat.reduceMul, Nat.reduceSub, a44, h3]
      refine ⟨_, rfl, ?_, ?_⟩
      · simp only [vmr, vmw, vmp, vza, ↓reduceIte, Nat.reduceBEq, Nat.reduceLT, Nat.reduceAdd, Nat.reduceEqDiff, reduceCtorEq, vmt, vzb, vzc, vlen, vleaf, velems, oks, vst, vmd, ty, Nat.reduceLeDiff, Nat.reduceMul, Nat.reduceSub, vzr, a44, h3, h3', hm, seal1, unpairs_kv]
      · simp only [vmr, vmw, vmp, vza, ↓reduceIte, Nat.reduceBEq, Nat.reduceLT, Nat.reduceAdd, Nat.reduceEqDiff, reduceCtorEq, vmt, vzb, vzc, vlen, vleaf, velems, oks, vst, vmd, ty, Nat.reduceLeDiff, Nat.reduceMul, Nat.reduceSub, a44, hS]
    all_goals simp only [vmr, vmw, vmp, vza, ↓reduceIte, Nat.reduceBEq, Nat.reduceLT, Nat.reduceAdd, Nat.reduceEqDiff, reduceCtorEq, vmt, vzb, vzc, vlen, vleaf, velems, oks, vst, vmd, ty, Nat.reduceLeDiff, Nat.reduceMul, Nat.reduceSub, a44]
    all_goals rfl
  obtain ⟨s', hr, he, ho⟩ := key
  have h := evF_at1 (C := Cx (hand T719)) (n := n) (args := [.ref ⟨0, 8, 0⟩ v8 0 a.length]) (fn := Tryd.f44) (b := Tryd.f44.body.getD .skip) (s' := s') (r := 2) (v := vfn a) (lvl := 1) (c := c) (O := O) Tryd.func44 rfl (show 1 ≤ 20 by omega) rfl (.inr hr) he
  exact ⟨_, by rw [h, ho]⟩
end Go.Vi
set_option maxRecDepth 100000
set_option maxHeartbeats 1000000
namespace Go.Vi
open Go Go.Proofs

/-- A call with the caller's memory that hands a function back. -/
theorem fn_at {M : Mc} {k : K} {s : St} {ops : Array Oper} {d : Nat} {r : List Oper} {args : List V} {g lvl c : Nat} {O O' : Heap} {g2 : Fn} {caps : List V} {P : Option (Ex × St) → Prop} (hd : d < M.E.n)
    (hr : ∃ c', M.call.fn g args lvl c O = some (.ret (.fn g2 [] caps), c', O')) (h : ∀ L' c', (∀ sl off x, lget s.L (sl, off) = some x → O' ⟨M.E.lvl, sl, off⟩ = some x → lget L' (sl, off) = some x) → P (RO M ops r k ⟨tset s.τ d (.fn g2 [] caps), L', O', c'⟩)) :
    P (RV M ops (some d) r k (CI M.E d s (M.call.fn g args lvl c O))) := by
  obtain ⟨c', h1⟩ := hr
  rw [h1]
  have : CI M.E d s (some (.ret (.fn g2 [] caps), c', O')) = some (.val (.fn g2 [] caps) (back M.E s c' O')) := rfl
  rw [this, RV_val hd]
  exact h _ _ fun sl off x hx hO => back_get hx hO
theorem fr_names {e : List Tm} (h : errB 8 e = 0) : (∀ x ∈ varL e, x.length ≤ 1000 ∧ (varB x).isSome = true) ∧ (varL e).length ≤ szs e ∧ (varL e).Nodup := by
  obtain ⟨h1, h2, h3⟩ := errB_iff.1 h
  rw [varL_cn 0 h3]
  refine ⟨fun x hx => ?_, by have := cnL_len 0 [] e; simpa using this, cnL_nd 0 _ List.nodup_nil e⟩
  obtain ⟨k, s, hk, hr, rfl⟩ := cnL_ok 0 [] (fun x hx => by cases hx) e h3 x hx
  refine ⟨?_, by rw [varB_of hk hr]; rfl⟩
  have hs : s.length ≤ 40 := by
    unfold rightB at hr
    rcases isV_iff.1 hk with rfl | rfl | rfl <;> simp at hr <;> omega
  have : (nameV k s).length = 2 + s.length := by unfold nameV; rcases isV_iff.1 hk with rfl | rfl | rfl <;> simp <;> omega
  omega
theorem frL_x : ∀ (W : List (List UInt8)) (n : Int), (frL W n).map (·.x) = W
  | [], n => rfl
  | x :: r, n => by rw [frL, List.map_cons, frL_x r]; rfl
theorem frL_len (W : List (List UInt8)) (n : Int) : (frL W n).length = W.length := by rw [← List.length_map (f := (·.x)), frL_x]
theorem frL_e : ∀ (W : List (List UInt8)) (n : Int), ∀ b ∈ frL W n, ∃ k m, b.e = [.mk k (Lib.itoa m) []]
  | x :: r, n, b, hb => by
    rw [frL] at hb
    rcases List.mem_cons.1 hb with rfl | hb
    · exact ⟨_, _, rfl⟩
    · exact frL_e r _ b hb
def frV19 (e : List Tm) (n : Nat) : V := if errB 8 e = 0 then .tup [Ts (frE e n), Bs (frL (varL e) n), I 0] else .tup [Ts [], Bs [], I (errB 8 e)]
theorem h719 : SoundHand Tryd.prog (hand T719) := sound_cons F17_sound <| sound_cons F27_sound <| sound_cons F34c_sound <| sound_cons F42_sound <| sound_cons F43_sound sound_nil
def Fi19 (n : Nat) (v : V) (r : Option (Ex × St)) : Prop := Fin (M719 (hand T719) n) [.tmp 4, .tmp 5, .tmp 6] r = some (.ret v)
theorem w19 (e : List Tm) (n : Nat) (hn : n ≤ 1000000000) (hs : szs e ≤ 1000000) (ho : txs e) : SoundPure Tryd.prog 19 [Ts e, I n] (.ret (frV19 e n)) := by
  have e1 := Fres_eq hs ho
  have n0 : ((0 : Int) != 0) = false := rfl
  unfold frV19
  by_cases q1 : errB 8 e = 0
  case neg =>
    have q1' : (errB 8 e != 0) = true := by simpa using q1
    rw [if_neg q1]
    have : SoundPure Tryd.prog 19 [Ts e, I n] (.ret (.tup [.nilS, .nilS, I (errB 8 e)])) := by
      refine s719 h719 1 (by simp) rfl ?_
      simp only [c719, Tryd.f19, gets, sub]
      simp only [vmr, vmw, vmp, vza, ↓reduceIte, Nat.reduceBEq, Nat.reduceLT, Nat.reduceAdd, Nat.reduceEqDiff, reduceCtorEq, vmt, vzb, vzc, vlen, vleaf, velems, oks, vst, vmd, ty, Nat.reduceLeDiff, Nat.reduceMul, Nat.reduceSub, vzr, callV_s2, m719, e1, q1']
    exact sound_imm this rfl
  rw [if_pos q1]
  rw [q1] at e1
  have q2 : ((n : Int) < 0) = False := eq_false (by omega)
  have q3 : ((n : Int) > 1000000000) = False := eq_false (by omega)
  obtain ⟨g1, g2, g3⟩ := fr_names q1
  obtain ⟨f1, f2, f3⟩ := errB_iff.1 q1
  have e2 := F27_eq hs ho
  have e3 : Fun [Ts e, vfn (frL (varL e) n)] = some (Ts (frE e n)) := Fun_eq hs (fun b hb => by obtain ⟨k, m, h⟩ := frL_e _ _ b hb; rw [h]; simp [szs, szt]) ho (by have := (frE_right hn q1).2; unfold frE at this; omega)
  have hln := frL_len (varL e) n
  let Po : Option (Ex × St) → Prop := fun r => ∃ sz, Fi19 (szs e + 4) (.tup [Ts (frE e n), .own sz ((frL (varL e) n).map Bn.v), I 0]) r
  have key : Po (R (M719 (hand T719) (szs e + 4)) c719 .top ⟨params 0 [Ts e, I n], [], fun _ => none, 0⟩) := by
    have a1 := fun k s => @l719 (szs e + 4) k Po n hn e (varL e) (by omega) (fun x hx => ⟨by have := (g1 x hx).1; omega, (g1 x hx).2⟩) (varL e) 0 [] (szs e + 4) s rfl (by omega) (by simp; omega)
    simp only [c719, Tryd.f19, gets, sub] at a1 ⊢
    simp only [vmr, vmw, vmp, vza, ↓reduceIte, Nat.reduceBEq, Nat.reduceLT, Nat.reduceAdd, Nat.reduceEqDiff, reduceCtorEq, vmt, vzb, vzc, vlen, vleaf, velems, oks, vst, vmd, ty, Nat.reduceLeDiff, Nat.reduceMul, Nat.reduceSub, callV_s2, m719, e1, e2, n0, q2, q3]
    refine a1 _ _ ⟨0, 0, ⟨.inr rfl, fun h => absurd rfl h⟩, ?_, ?_⟩ ?_ ?_ ?_ ?_ ?_ (fun s' hA h0 => ?_)
    case refine_8 =>
      rw [List.nil_append] at hA
      obtain ⟨v8, sz, ⟨hz, hz2⟩, h8, h8'⟩ := hA
      refine ⟨sz, ?_⟩
      have hl : (frVL (varL e) ((n + (0 : Nat) : Nat) : Int)) = (frL (varL e) n).map Bn.v := rfl
      rw [hl] at h8 h8' hz2
      rw [List.length_map] at h8
      simp only [vmr, vmw, vmp, vza, ↓reduceIte, Nat.reduceBEq, Nat.reduceLT, Nat.reduceAdd, Nat.reduceEqDiff, reduceCtorEq, vmt, vzb, vzc, vlen, vleaf, velems, oks, vst, vmd, ty, Nat.reduceLeDiff, Nat.reduceMul, Nat.reduceSub, m719, h0, h8, h8']
      rw [callV_i (show okL.contains 44 = true by decide) (.inl rfl)]
      have hds : nds (frL (varL e) (n : Int)) := by unfold nds; rw [frL_x]; exact g3
      refine fn_at (show 52 < 55 by omega) (w44i (n := szs e + 3) (v8 := v8) (sz := sz) (frL (varL e) n) (by omega) (by omega) hds (fun h => hz2 (fun h2 => h (List.map_eq_nil_iff.1 h2))) ((heap_ow (l := 0) rfl).trans h8')) fun L' c' hL => ?_
      have g8 := hL 8 0 _ h8' ((if_pos (show 0 < 1 by omega)).trans ((heap_ow (l := 0) rfl).trans h8'))
      clear hL
      simp only [vmr, vmw, vmp, vza, ↓reduceIte, Nat.reduceBEq, Nat.reduceLT, Nat.reduceAdd, Nat.reduceEqDiff, reduceCtorEq, vmt, vzb, vzc, vlen, vleaf, velems, oks, vst, vmd, ty, Nat.reduceLeDiff, Nat.reduceMul, Nat.reduceSub, callV_s2, m719, h0, h8, g8, e3]
      unfold Fi19
      simp only [vmr, vmw, vmp, vza, ↓reduceIte, Nat.reduceBEq, Nat.reduceLT, Nat.reduceAdd, Nat.reduceEqDiff, reduceCtorEq, vmt, vzb, vzc, vlen, vleaf, velems, oks, vst, vmd, ty, Nat.reduceLeDiff, Nat.reduceMul, Nat.reduceSub, vzr, m719, h0, h8, g8, e3, take_len]
    all_goals simp only [vmr, vmw, vmp, vza, ↓reduceIte, Nat.reduceBEq, Nat.reduceLT, Nat.reduceAdd, Nat.reduceEqDiff, reduceCtorEq, vmt, vzb, vzc, vlen, vleaf, velems, oks, vst, vmd, ty, Nat.reduceLeDiff, Nat.reduceMul, Nat.reduceSub, m719]
    all_goals rfl
  obtain ⟨sz, hk⟩ := key
  have hp : pureR (.tup [Ts (frE e n), .own sz ((frL (varL e) n).map Bn.v), I 0]) = true := by simp only [pureR, pureRL, pureLB, pureLT, Bool.and_self]
  have := sound_imm (s719 h719 (szs e + 4) (by simp) hp hk) hp
  have hc : can (imm (.tup [Ts (frE e n), .own sz ((frL (varL e) n).map Bn.v), I 0])) = .tup [Ts (frE e n), Bs (frL (varL e) n), I 0] := by
    show V.tup [can (imm (Ts (frE e n))), can (imm (.own sz ((frL (varL e) n).map Bn.v))), _] = _
    rw [show imm (.own sz ((frL (varL e) n).map Bn.v)) = V.lst ((frL (varL e) n).map Bn.v) by simp only [imm, imms_map imm_bv], can_Bs, show imm (Ts (frE e n)) = Ts (frE e n) from rfl, can_Ts]
    rfl
  rw [hc] at this
  exact this
noncomputable def F19 : List V → Option V := hF (α := List Tm × Nat) (fun p => [Ts p.1, I p.2]) (fun p => p.2 ≤ 1000000000 ∧ szs p.1 ≤ 1000000 ∧ txs p.1) (fun p => frV19 p.1 p.2)
theorem F19_eq {e : List Tm} {n : Nat} (hn : n ≤ 1000000000) (hs : szs e ≤ 1000000) (ho : txs e) : F19 [Ts e, I n] = some (frV19 e n) := hF_eq (a := (e, n)) (two_inj (fun _ _ => Ts_inj) (fun _ _ h => Int.ofNat.inj (I_inj h))) (by simp only [cans, can_Ts, canI]) ⟨hn, hs, ho⟩
theorem F19_sound : ∀ args v, F19 args = some v → SoundPure Tryd.prog 19 args (.ret v) := hF_sound fun p hp => w19 p.1 p.2 hp.1 hp.2.1 hp.2.2
end Go.Vi
set_option maxRecDepth 100000
set_option maxHeartbeats 1000000
namespace Go.Vi
open Go Go.Proofs

noncomputable abbrev T718 : List (FuncId × (List V → Option V)) := [(17, Fres), (25, FisV), (52, FnameP)]
noncomputable abbrev A41 (lvl n : Nat) : Mc := mcAt (Cx (hand T718)) 41 Tryd.f41 lvl n
theorem a41 (lvl n) : (A41 lvl n).E.keep = [0, 1, 2, 6] ∧ (A41 lvl n).E.cnd = [] ∧ (A41 lvl n).E.frz = [] ∧ (A41 lvl n).E.pro = [] ∧ (A41 lvl n).E.imp = [67] ∧ (A41 lvl n).E.n = 12 ∧ (A41 lvl n).E.lvl = lvl ∧ (A41 lvl n).E.P = Tryd.prog ∧ (A41 lvl n).fuel = n ∧ (A41 lvl n).C = hand T718 ∧ (A41 lvl n).E.ok = okL := ⟨rfl, rfl, rfl, rfl, rfl, rfl, rfl, rfl, rfl, rfl, rfl⟩
noncomputable abbrev A67 (lvl n : Nat) : Mc := mcAt (Cx (hand T718)) 67 Tryd.f67 lvl n
theorem a67 (lvl n) : (A67 lvl n).E.keep = [0, 1, 2, 6, 7, 8, 9, 14, 15, 16, 17, 18, 30] ∧ (A67 lvl n).E.cnd = [14, 18, 30] ∧ (A67 lvl n).E.frz = [7] ∧ (A67 lvl n).E.pro = [] ∧ (A67 lvl n).E.imp = [68] ∧ (A67 lvl n).E.n = 32 ∧ (A67 lvl n).E.lvl = lvl ∧ (A67 lvl n).E.P = Tryd.prog ∧ (A67 lvl n).fuel = n ∧ (A67 lvl n).C = hand T718 ∧ (A67 lvl n).E.ok = okL := ⟨rfl, rfl, rfl, rfl, rfl, rfl, rfl, rfl, rfl, rfl, rfl⟩
noncomputable abbrev A68 (lvl n : Nat) : Mc := mcAt (Cx (hand T718)) 68 Tryd.f68 lvl n
theorem a68 (lvl n) : (A68 lvl n).E.keep = [0, 1, 2, 4, 5, 6, 7, 8, 9, 10, 11, 12, 17, 20, 59] ∧ (A68 lvl n).E.cnd = [17, 20, 59] ∧ (A68 lvl n).E.frz = [4, 5, 7, 8, 9, 11] ∧ (A68 lvl n).E.pro = [] ∧ (A68 lvl n).E.imp = [41] ∧ (A68 lvl n).E.n = 107 ∧ (A68 lvl n).E.lvl = lvl ∧ (A68 lvl n).E.P = Tryd.prog ∧ (A68 lvl n).fuel = n ∧ (A68 lvl n).C = hand T718 ∧ (A68 lvl n).E.ok = okL := ⟨rfl, rfl, rfl, rfl, rfl, rfl, rfl, rfl, rfl, rfl, rfl⟩
theorem a68_5 {lvl n} : regionInf (A68 lvl n).E (opsAt (sub [1, 1, 1, 0] c768)) = some   [Inf.mk false (some []) none false [4], Inf.mk false (some []) none false [34], Inf.mk false (some []) none false [5],     Inf.mk false (some []) none false [36], Inf.mk true (some []) none false [35],     Inf.mk true (some []) none false [37]] := by kernel_rfl
theorem a68_10 {lvl n} : regionInf (A68 lvl n).E (opsAt (sub [1, 1, 1, 1, 1, 1, 1, 0] c768)) = some   [Inf.mk false (some []) none false [0], Inf.mk false (some []) none false [74],     Inf.mk false (some []) none false [75], Inf.mk false (some []) none false [76],     Inf.mk false (some []) none false [7], Inf.mk false (some []) none false [0],     Inf.mk false (some []) none false [79], Inf.mk false (some []) none false [80],     Inf.mk false (some []) none false [81], Inf.mk false none none false [8], Inf.mk false none none false [8],     Inf.mk false none none false [7], Inf.mk true (some []) none false [77, 78], Inf.mk false (some []) none false [86],     Inf.mk true (some []) none false [77, 87, 84], Inf.mk true (some []) none false [82, 83],     Inf.mk false (some []) none false [88], Inf.mk true (some []) none false [82, 89, 85]] := by kernel_rfl
theorem a68_11 {lvl n} : regionInf (A68 lvl n).E (opsAt (sub [1, 1, 1, 1, 1, 1, 1, 1, 0] c768)) = some [Inf.mk false none none false [0],     Inf.mk false (some [⟨lvl, 101, 0⟩, ⟨lvl, 103, 0⟩, ⟨lvl, 101, 0⟩]) none false [0],     Inf.mk false (some [⟨lvl, 101, 0⟩, ⟨lvl, 103, 0⟩, ⟨lvl, 101, 0⟩]) none false [91],     Inf.mk false (some [⟨lvl, 101, 0⟩, ⟨lvl, 103, 0⟩, ⟨lvl, 101, 0⟩]) none false [92],     Inf.mk false (some [⟨lvl, 101, 0⟩, ⟨lvl, 103, 0⟩, ⟨lvl, 101, 0⟩]) none false [93],     Inf.mk false (some [⟨lvl, 101, 0⟩]) none false [7], Inf.mk false (some []) none false [5],     Inf.mk false (some []) none false [96], Inf.mk false (some []) none false [5],     Inf.mk false (some []) none false [98], Inf.mk false (some []) none false [97, 99],     Inf.mk true (some []) (some [⟨lvl, 101, 0⟩]) false [100], Inf.mk false (some []) none false [95, 101],     Inf.mk true (some []) (some [⟨lvl, 103, 0⟩, ⟨lvl, 101, 0⟩]) false [102],     Inf.mk true (some []) none false [94, 103],     Inf.mk false (some []) none false [90], Inf.mk false (some []) none false [105],     Inf.mk true (some []) none false [106, 104]] := by kernel_rfl
/-! ### what lies at level 0 -/
abbrev pR : V := .ptr ⟨0, 18, 0⟩ 4 0 0
def toM (w : List Rp) : List (V × V) := w.map fun p => (.str p.x, .str p.nm)
def frM (w : List Rp) : List (V × V) := w.map fun p => (.str p.nm, .str p.x)
def rpV (p : Rp) : V := .agg [.str p.x, .lst [.agg [I p.k, .str p.s, .nilS]]]
def rowR (O : Heap) (w : List Rp) (row : V) : Prop := (w = [] ∧ row = .nilS) ∨ ∃ vr, row = .ref ⟨0, 18, 3⟩ vr 0 w.length ∧ O ⟨0, 18, 3⟩ = some (vr, .arr 2 (w.map rpV))
def I18 (w : List Rp) (O : Heap) : Prop := (∃ row, O ⟨0, 18, 0⟩ = some (4, .var [.mref ⟨0, 18, 1⟩ 2, .mref ⟨0, 18, 2⟩ 3, row]) ∧ rowR O w row) ∧ O ⟨0, 18, 1⟩ = some (2, .map (toM w)) ∧ O ⟨0, 18, 2⟩ = some (3, .map (frM w))
theorem I18.cong {w : List Rp} {O O' : Heap} (e : ∀ sl off, O' ⟨0, sl, off⟩ = O ⟨0, sl, off⟩) : I18 w O → I18 w O' := fun ⟨⟨row, h1, h2⟩, h3, h4⟩ => ⟨⟨row, (e 18 0).trans h1, by
  rcases h2 with h2 | ⟨vr, h2, h3⟩
  · exact .inl h2
  · exact .inr ⟨vr, h2, (e 18 3).trans h3⟩⟩, (e 18 1).trans h3, (e 18 2).trans h4⟩
theorem I18.of {w : List Rp} {O : Heap} (h1 : O ⟨0, 18, 0⟩ = some (4, .var [.mref ⟨0, 18, 1⟩ 2, .mref ⟨0, 18, 2⟩ 3, .ref ⟨0, 18, 3⟩ (verO O ⟨0, 18, 3⟩) 0 w.length])) (h2 : O ⟨0, 18, 3⟩ = some (verO O ⟨0, 18, 3⟩, .arr 2 (w.map rpV))) (h3 : O ⟨0, 18, 1⟩ = some (2, .map (toM w))) (h4 : O ⟨0, 18, 2⟩ = some (3, .map (frM w))) : I18 w O := ⟨⟨_, h1, .inr ⟨_, rfl, h2⟩⟩, h3, h4⟩
theorem toM_find (x : List UInt8) : ∀ (w : List Rp) (i : Nat), match lkT w x with
    | some p => ∃ j, mfind (.str x) (toM w) i = some (some (j, .str p.nm))
    | none => mfind (.str x) (toM w) i = some none
  | [], i => rfl
  | p :: r, i => by
    simp only [toM, List.map_cons, mfind, keyEq_str, lkT]
    have hq : (p.x == x) = (x == p.x) := by rw [Bool.eq_iff_iff, beq_iff_eq, beq_iff_eq]; exact eq_comm
    rw [hq]
    cases h : x == p.x with
    | true => exact ⟨i, rfl⟩
    | false =>
      rw [if_neg (by simp)]
      exact toM_find x r (i + 1)
theorem frM_find (x : List UInt8) : ∀ (w : List Rp) (i : Nat), match lkF w x with
    | some p => ∃ j, mfind (.str x) (frM w) i = some (some (j, .str p.x))
    | none => mfind (.str x) (frM w) i = some none
  | [], i => rfl
  | p :: r, i => by
    simp only [frM, List.map_cons, mfind, keyEq_str, lkF]
    have hq : (p.nm == x) = (x == p.nm) := by rw [Bool.eq_iff_iff, beq_iff_eq, beq_iff_eq]; exact eq_comm
    rw [hq]
    cases h : x == p.nm with
    | true => exact ⟨i, rfl⟩
    | false =>
      rw [if_neg (by simp)]
      exact frM_find x r (i + 1)
theorem aop_mapEntry {call : CallFn} {E : Env} {C : FuncId → Option (List V → Option V)} {d t m k} {s : St} : aop call E C d (.mapEntry t m k) s = (mapEnt E t (evalO s m) (evalO s k) s).map fun q => .val q.1 q.2 := rfl
theorem aop_entryStore {call : CallFn} {E : Env} {C : FuncId → Option (List V → Option V)} {d t m n x} {s : St} : aop call E C d (.entryStore t m n x) s = (entPut E (evalO s m) (evalO s n) (evalO s x) s).map fun s' => .val .junk s' := rfl
theorem qState_none {E : Env} {s : St} : qState E none s = ⟨s.τ, [], fun _ => none, s.c⟩ := rfl
theorem mset_last (k z x : V) : ∀ l : List (V × V), mset (l ++ [(k, z)]) l.length x = l ++ [(k, x)]
  | [] => rfl
  | p :: r => by simp only [List.cons_append, List.length_cons, mset, mset_last k z x r]
theorem len_ok (l : List (V × V)) (p : V × V) : (l.length < (l ++ [p]).length) = True := eq_true (by simp)
/-- A call with the caller's memory that answers yes or no. -/
theorem call_b {M : Mc} {k : K} {s : St} {ops : Array Oper} {d : Nat} {r : List Oper} {args : List V} {g lvl c : Nat} {O : Heap} {b : Bool} {Inv : Heap → Prop} {P : Option (Ex × St) → Prop} (hd : d < M.E.n)
    (hr : ∃ c' O', M.call.fn g args lvl c O = some (.ret (.bool b), c', O') ∧ Inv O') (h : ∀ L' O' c', (∀ sl off y, ((lget s.L (sl, off)).isSome = true ∨ ∃ v cs j, lget s.L (sl, 0) = some (v, .var cs) ∧ off = j + 1 ∧ j < cs.length) → O' ⟨M.E.lvl, sl, off⟩ = some y → lget L' (sl, off) = some y) → Inv O' → P (RO M ops r k ⟨tset s.τ d (.bool b), L', O', c'⟩)) :
    P (RV M ops (some d) r k (CI M.E d s (M.call.fn g args lvl c O))) := by
  obtain ⟨c', O', h1, h2⟩ := hr
  rw [h1]
  have : CI M.E d s (some (.ret (.bool b), c', O')) = some (.val (.bool b) (back M.E s c' O')) := rfl
  rw [this, RV_val hd]
  refine h _ _ _ (fun sl off y hx hy => ?_) h2
  refine mergeL_get _ _ _ _ (.inl ?_) hy
  rcases hx with hx | ⟨v, cs, j, hx, rfl, hj⟩
  · obtain ⟨z, hx⟩ := Option.isSome_iff_exists.1 hx
    exact keysOf_mem _ _ z hx
  · have := keysOf_var s.L (sl, 0) v cs hx j hj
    rwa [Nat.zero_add] at this
/-- The frame between the levels 0 and lvl stays. -/
def Fr (lvl : Nat) (O O' : Heap) : Prop := ∀ l sl off, 0 < l → l < lvl → O' ⟨l, sl, off⟩ = O ⟨l, sl, off⟩
/-- What a walk at a level ends with: the answer in slot 6. -/
def Q18 (res : Option (List Rp)) (lvl : Nat) (O : Heap) (r : Option (Ex × St)) : Prop := ∃ s', r = some (.ret, s') ∧ tget s'.τ 6 = .bool res.isSome ∧ (∀ w', res = some w' → I18 w' s'.O) ∧ Fr lvl O s'.O
def G18 (res : Option (List Rp)) (lvl : Nat) (O O' : Heap) : Prop := (∀ w', res = some w' → I18 w' O') ∧ Fr lvl O O'
theorem G18.down {X1 : Nat → Heap → Prop} {res : Option (List Rp)} {lvl : Nat} {O : Heap} {E : Env} {s : St} (hE : E.lvl = lvl) (hO : s.O = O) (h : ∃ c' O', X1 c' O' ∧ G18 res (lvl + 1) (s.heap E) O') : ∃ c' O', X1 c' O' ∧ G18 res lvl O O' := by
  obtain ⟨c', O', h1, h2, h3⟩ := h
  exact ⟨c', O', h1, h2, fun l sl off h0 hl => (h3 l sl off h0 (by omega)).trans ((heap_lw hE hl).trans (congrFun hO _))⟩
theorem I18.up {w : List Rp} {lvl : Nat} {O : Heap} {E : Env} {s : St} (hE : E.lvl = lvl) (hl : 0 < lvl) (hO : s.O = O) (h : I18 w O) : I18 w (s.heap E) := h.cong fun sl off => (heap_lw hE hl).trans (congrFun hO _)
/-- lists, for expressions of a size. -/
def C41 (m : Nat) : Prop := ∀ (l l' : List Tm) (w : List Rp) (n lvl c : Nat) (O : Heap), szs l < m → txs l → txs l' → w.length + szs l ≤ 1000000 → 3 * szs l + 4 ≤ n → 0 < lvl → I18 w O →
  ∃ c' O', (evF (Cx (hand T718)) n).fn 41 [pR, Ts l, Ts l'] lvl c O = some (.ret (.bool (reL w l l').isSome), c', O') ∧ G18 (reL w l l') lvl O O'
theorem w68 {m : Nat} (IH : C41 m) {k : Int} {s : List UInt8} {c : List Tm} {k' : Int} {s' : List UInt8} {c' : List Tm} {w : List Rp} {n lvl cc : Nat} {O : Heap} (hc : szs c < m) (ht : txt1 (.mk k s c)) (ht' : txt1 (.mk k' s' c')) (hw : w.length + szs c + 1 ≤ 1000000) (hn : 3 * szs c + 4 ≤ n) (hl : 0 < lvl) (hI : I18 w O) :
    Q18 (reT w (.mk k s c) (.mk k' s' c')) lvl O (R (A68 lvl n) c768 .top ⟨params 0 [pR, tmv k s c, tmv k' s' c'], [], O, cc⟩) := by
  have hd5 := @a68_5 lvl n
  have hd10 := @a68_10 lvl n
  have hd11 := @a68_11 lvl n
  simp only [txt1] at ht ht'
  have lv0 := eq_true hl
  have e1 := Ftm_eq (f := fun k _ => .bool (isV k)) k c ht.1
  have e2 := Ftm_eq (f := fun k s => .str (nameP k s)) k c ht.1
  simp only [c768, Tryd.f68, gets, sub, opsAt] at hd5 hd10 hd11 ⊢
  rw [reT]
  by_cases q1 : k = k'
  case neg =>
    have q1' : (k != k') = true := by simpa using q1
    rw [if_neg q1]
    simp only [vmr, vmw, vmp, vza, ↓reduceIte, Nat.reduceBEq, Nat.reduceLT, Nat.reduceAdd, Nat.reduceEqDiff, reduceCtorEq, vmt, vzb, vzc, vlen, vleaf, velems, oks, vst, vmd, ty, Nat.reduceLeDiff, Nat.reduceMul, Nat.reduceSub, callV_s2, a68, q1']
    exact ⟨_, rfl, by simp only [vmr, vmw, vmp, vza, ↓reduceIte, Nat.reduceBEq, Nat.reduceLT, Nat.reduceAdd, Nat.reduceEqDiff, reduceCtorEq, vmt, vzb, vzc, vlen, vleaf, velems, oks, vst, vmd, ty, Nat.reduceLeDiff, Nat.reduceMul, Nat.reduceSub, a68], (fun w' h => by cases h), fun l sl off _ _ => by simp only [vmr, vmw, vmp, vza, ↓reduceIte, Nat.reduceBEq, Nat.reduceLT, Nat.reduceAdd, Nat.reduceEqDiff, reduceCtorEq, vmt, vzb, vzc, vlen, vleaf, velems, oks, vst, vmd, ty, Nat.reduceLeDiff, Nat.reduceMul, Nat.reduceSub, a68]⟩
  subst q1
  have q1' : (k != k) = false := by simp
  rw [if_pos rfl]
  cases hv : isV k with
  | false =>
    rw [hv] at e1
    rw [if_neg (by simp)]
    by_cases q2 : s = s'
    case neg =>
      have q2' : (s == s') = false := by simpa using q2
      rw [if_neg q2]
      simp only [vmr, vmw, vmp, vza, ↓reduceIte, Nat.reduceBEq, Nat.reduceLT, Nat.reduceAdd, Nat.reduceEqDiff, reduceCtorEq, vmt, vzb, vzc, vlen, vleaf, velems, oks, vst, vmd, ty, Nat.reduceLeDiff, Nat.reduceMul, Nat.reduceSub, callV_s2, a68, q1', e1, q2', strOp]
      exact ⟨_, rfl, by simp only [vmr, vmw, vmp, vza, ↓reduceIte, Nat.reduceBEq, Nat.reduceLT, Nat.reduceAdd, Nat.reduceEqDiff, reduceCtorEq, vmt, vzb, vzc, vlen, vleaf, velems, oks, vst, vmd, ty, Nat.reduceLeDiff, Nat.reduceMul, Nat.reduceSub, a68], (fun w' h => by cases h), fun l sl off _ _ => by simp only [vmr, vmw, vmp, vza, ↓reduceIte, Nat.reduceBEq, Nat.reduceLT, Nat.reduceAdd, Nat.reduceEqDiff, reduceCtorEq, vmt, vzb, vzc, vlen, vleaf, velems, oks, vst, vmd, ty, Nat.reduceLeDiff, Nat.reduceMul, Nat.reduceSub, a68]⟩
    subst q2
    have q2' : (s == s) = true := by simp
    rw [if_pos rfl]
    simp only [vmr, vmw, vmp, vza, ↓reduceIte, Nat.reduceBEq, Nat.reduceLT, Nat.reduceAdd, Nat.reduceEqDiff, reduceCtorEq, vmt, vzb, vzc, vlen, vleaf, velems, oks, vst, vmd, ty, Nat.reduceLeDiff, Nat.reduceMul, Nat.reduceSub, callV_s2, a68, q1', e1, q2', strOp]
    rw [callV_i (show okL.contains 41 = true by decide) (.inl rfl)]
    refine call_b (show 32 < 107 by omega) (G18.down (lvl := lvl) (O := O) rfl (by simp only [vmr, vmw, vmp, vza, ↓reduceIte, Nat.reduceBEq, Nat.reduceLT, Nat.reduceAdd, Nat.reduceEqDiff, reduceCtorEq, vmt, vzb, vzc, vlen, vleaf, velems, oks, vst, vmd, ty, Nat.reduceLeDiff, Nat.reduceMul, Nat.reduceSub, a68]) (IH c c' w n (lvl + 1) _ _ hc ht.2 ht'.2 (by omega) hn (by omega) (I18.up (lvl := lvl) rfl hl (by simp only [vmr, vmw, vmp, vza, ↓reduceIte, Nat.reduceBEq, Nat.reduceLT, Nat.reduceAdd, Nat.reduceEqDiff, reduceCtorEq, vmt, vzb, vzc, vlen, vleaf, velems, oks, vst, vmd, ty, Nat.reduceLeDiff, Nat.reduceMul, Nat.reduceSub, a68]) hI))) fun L' O' c2 _ hG => ?_
    obtain ⟨g1, g2⟩ := hG
    generalize reL w c c' = res at g1 ⊢
    cases res with
    | none =>
      simp only [vmr, vmw, vmp, vza, ↓reduceIte, Nat.reduceBEq, Nat.reduceLT, Nat.reduceAdd, Nat.reduceEqDiff, reduceCtorEq, vmt, vzb, vzc, vlen, vleaf, velems, oks, vst, vmd, ty, Nat.reduceLeDiff, Nat.reduceMul, Nat.reduceSub, a68]
      exact ⟨_, rfl, by simp only [vmr, vmw, vmp, vza, ↓reduceIte, Nat.reduceBEq, Nat.reduceLT, Nat.reduceAdd, Nat.reduceEqDiff, reduceCtorEq, vmt, vzb, vzc, vlen, vleaf, velems, oks, vst, vmd, ty, Nat.reduceLeDiff, Nat.reduceMul, Nat.reduceSub, a68], (fun w' h => by cases h), fun l sl off h0 h1 => by simp only [vmr, vmw, vmp, vza, ↓reduceIte, Nat.reduceBEq, Nat.reduceLT, Nat.reduceAdd, Nat.reduceEqDiff, reduceCtorEq, vmt, vzb, vzc, vlen, vleaf, velems, oks, vst, vmd, ty, Nat.reduceLeDiff, Nat.reduceMul, Nat.reduceSub, a68]; exact g2 l sl off h0 h1⟩
    | some w' =>
      simp only [vmr, vmw, vmp, vza, ↓reduceIte, Nat.reduceBEq, Nat.reduceLT, Nat.reduceAdd, Nat.reduceEqDiff, reduceCtorEq, vmt, vzb, vzc, vlen, vleaf, velems, oks, vst, vmd, ty, Nat.reduceLeDiff, Nat.reduceMul, Nat.reduceSub, a68]
      exact ⟨_, rfl, by simp only [vmr, vmw, vmp, vza, ↓reduceIte, Nat.reduceBEq, Nat.reduceLT, Nat.reduceAdd, Nat.reduceEqDiff, reduceCtorEq, vmt, vzb, vzc, vlen, vleaf, velems, oks, vst, vmd, ty, Nat.reduceLeDiff, Nat.reduceMul, Nat.reduceSub, a68], (fun w' h => by simp only [vmr, vmw, vmp, vza, ↓reduceIte, Nat.reduceBEq, Nat.reduceLT, Nat.reduceAdd, Nat.reduceEqDiff, reduceCtorEq, vmt, vzb, vzc, vlen, vleaf, velems, oks, vst, vmd, ty, Nat.reduceLeDiff, Nat.reduceMul, Nat.reduceSub, a68]; exact g1 w' h), fun l sl off h0 h1 => by simp only [vmr, vmw, vmp, vza, ↓reduceIte, Nat.reduceBEq, Nat.reduceLT, Nat.reduceAdd, Nat.reduceEqDiff, reduceCtorEq, vmt, vzb, vzc, vlen, vleaf, velems, oks, vst, vmd, ty, Nat.reduceLeDiff, Nat.reduceMul, Nat.reduceSub, a68]; exact g2 l sl off h0 h1⟩
  | true =>
    rw [hv] at e1
    rw [if_pos rfl]
    have hnm := nameP_V hv s
    have hnm' := nameP_V hv s'
    have e3 := Ftm_eq (f := fun k s => .str (nameP k s)) k c' ht'.1
    rw [hnm] at e2
    rw [hnm'] at e3
    obtain ⟨⟨row, i1, i2⟩, i3, i4⟩ := hI
    have kok1 : keyOk Tryd.prog 9 (.str (nameV k s)) = true := by kernel_rfl
    have kok2 : keyOk Tryd.prog 9 (.str (nameV k s')) = true := by kernel_rfl
    have f1 := toM_find (nameV k s) w 0
    have f2 := frM_find (nameV k s') w 0
    unfold reV
    cases hT : lkT w (nameV k s) with
    | some p =>
      rw [hT] at f1
      obtain ⟨j1, f1⟩ := f1
      cases hF : lkF w (nameV k s') with
      | some q =>
        rw [hF] at f2
        obtain ⟨j2, f2⟩ := f2
        dsimp only
        by_cases z1 : p.nm = nameV k s'
        · have z1' : (p.nm == nameV k s') = true := by simpa using z1
          by_cases z2 : q.x = nameV k s
          · have z2' : (q.x == nameV k s) = true := by simpa using z2
            rw [if_pos ⟨z1, z2⟩]
            simp only [vmr, vmw, vmp, vza, ↓reduceIte, Nat.reduceBEq, Nat.reduceLT, Nat.reduceAdd, Nat.reduceEqDiff, reduceCtorEq, vmt, vzb, vzc, vlen, vleaf, velems, oks, vst, vmd, ty, Nat.reduceLeDiff, Nat.reduceMul, Nat.reduceSub, callV_s2, a68, q1', e1, e2, e3, hd5, obj_lo, lv0, i1, i3, i4, kok1, kok2, mapGet, f1, f2, strOp, z1', z2']
            exact ⟨_, rfl, by simp only [vmr, vmw, vmp, vza, ↓reduceIte, Nat.reduceBEq, Nat.reduceLT, Nat.reduceAdd, Nat.reduceEqDiff, reduceCtorEq, vmt, vzb, vzc, vlen, vleaf, velems, oks, vst, vmd, ty, Nat.reduceLeDiff, Nat.reduceMul, Nat.reduceSub, a68], (fun w' h => by injection h with h; subst h; simp only [vmr, vmw, vmp, vza, ↓reduceIte, Nat.reduceBEq, Nat.reduceLT, Nat.reduceAdd, Nat.reduceEqDiff, reduceCtorEq, vmt, vzb, vzc, vlen, vleaf, velems, oks, vst, vmd, ty, Nat.reduceLeDiff, Nat.reduceMul, Nat.reduceSub, a68]; exact ⟨⟨row, i1, i2⟩, i3, i4⟩), fun l sl off _ _ => by simp only [vmr, vmw, vmp, vza, ↓reduceIte, Nat.reduceBEq, Nat.reduceLT, Nat.reduceAdd, Nat.reduceEqDiff, reduceCtorEq, vmt, vzb, vzc, vlen, vleaf, velems, oks, vst, vmd, ty, Nat.reduceLeDiff, Nat.reduceMul, Nat.reduceSub, a68]⟩
          · have z2' : (q.x == nameV k s) = false := by simpa using z2
            rw [if_neg (fun h => z2 h.2)]
            simp only [vmr, vmw, vmp, vza, ↓reduceIte, Nat.reduceBEq, Nat.reduceLT, Nat.reduceAdd, Nat.reduceEqDiff, reduceCtorEq, vmt, vzb, vzc, vlen, vleaf, velems, oks, vst, vmd, ty, Nat.reduceLeDiff, Nat.reduceMul, Nat.reduceSub, callV_s2, a68, q1', e1, e2, e3, hd5, obj_lo, lv0, i1, i3, i4, kok1, kok2, mapGet, f1, f2, strOp, z1', z2']
            exact ⟨_, rfl, by simp only [vmr, vmw, vmp, vza, ↓reduceIte, Nat.reduceBEq, Nat.reduceLT, Nat.reduceAdd, Nat.reduceEqDiff, reduceCtorEq, vmt, vzb, vzc, vlen, vleaf, velems, oks, vst, vmd, ty, Nat.reduceLeDiff, Nat.reduceMul, Nat.reduceSub, a68], (fun w' h => by cases h), fun l sl off _ _ => by simp only [vmr, vmw, vmp, vza, ↓reduceIte, Nat.reduceBEq, Nat.reduceLT, Nat.reduceAdd, Nat.reduceEqDiff, reduceCtorEq, vmt, vzb, vzc, vlen, vleaf, velems, oks, vst, vmd, ty, Nat.reduceLeDiff, Nat.reduceMul, Nat.reduceSub, a68]⟩
        · have z1' : (p.nm == nameV k s') = false := by simpa using z1
          rw [if_neg (fun h => z1 h.1)]
          simp only [vmr, vmw, vmp, vza, ↓reduceIte, Nat.reduceBEq, Nat.reduceLT, Nat.reduceAdd, Nat.reduceEqDiff, reduceCtorEq, vmt, vzb, vzc, vlen, vleaf, velems, oks, vst, vmd, ty, Nat.reduceLeDiff, Nat.reduceMul, Nat.reduceSub, callV_s2, a68, q1', e1, e2, e3, hd5, obj_lo, lv0, i1, i3, i4, kok1, kok2, mapGet, f1, f2, strOp, z1']
          exact ⟨_, rfl, by simp only [vmr, vmw, vmp, vza, ↓reduceIte, Nat.reduceBEq, Nat.reduceLT, Nat.reduceAdd, Nat.reduceEqDiff, reduceCtorEq, vmt, vzb, vzc, vlen, vleaf, velems, oks, vst, vmd, ty, Nat.reduceLeDiff, Nat.reduceMul, Nat.reduceSub, a68], (fun w' h => by cases h), fun l sl off _ _ => by simp only [vmr, vmw, vmp, vza, ↓reduceIte, Nat.reduceBEq, Nat.reduceLT, Nat.reduceAdd, Nat.reduceEqDiff, reduceCtorEq, vmt, vzb, vzc, vlen, vleaf, velems, oks, vst, vmd, ty, Nat.reduceLeDiff, Nat.reduceMul, Nat.reduceSub, a68]⟩
      | none =>
        rw [hF] at f2
        dsimp only at f2 ⊢
        simp only [vmr, vmw, vmp, vza, ↓reduceIte, Nat.reduceBEq, Nat.reduceLT, Nat.reduceAdd, Nat.reduceEqDiff, reduceCtorEq, vmt, vzb, vzc, vlen, vleaf, velems, oks, vst, vmd, ty, Nat.reduceLeDiff, Nat.reduceMul, Nat.reduceSub, callV_s2, a68, q1', e1, e2, e3, hd5, obj_lo, lv0, i1, i3, i4, kok1, kok2, mapGet, f1, f2, strOp]
        exact ⟨_, rfl, by simp only [vmr, vmw, vmp, vza, ↓reduceIte, Nat.reduceBEq, Nat.reduceLT, Nat.reduceAdd, Nat.reduceEqDiff, reduceCtorEq, vmt, vzb, vzc, vlen, vleaf, velems, oks, vst, vmd, ty, Nat.reduceLeDiff, Nat.reduceMul, Nat.reduceSub, a68], (fun w' h => by cases h), fun l sl off _ _ => by simp only [vmr, vmw, vmp, vza, ↓reduceIte, Nat.reduceBEq, Nat.reduceLT, Nat.reduceAdd, Nat.reduceEqDiff, reduceCtorEq, vmt, vzb, vzc, vlen, vleaf, velems, oks, vst, vmd, ty, Nat.reduceLeDiff, Nat.reduceMul, Nat.reduceSub, a68]⟩
    | none =>
      rw [hT] at f1
      dsimp only at f1
      cases hF : lkF w (nameV k s') with
      | some q =>
        rw [hF] at f2
        obtain ⟨j2, f2⟩ := f2
        dsimp only
        simp only [vmr, vmw, vmp, vza, ↓reduceIte, Nat.reduceBEq, Nat.reduceLT, Nat.reduceAdd, Nat.reduceEqDiff, reduceCtorEq, vmt, vzb, vzc, vlen, vleaf, velems, oks, vst, vmd, ty, Nat.reduceLeDiff, Nat.reduceMul, Nat.reduceSub, callV_s2, a68, q1', e1, e2, e3, hd5, obj_lo, lv0, i1, i3, i4, kok1, kok2, mapGet, f1, f2, strOp]
        exact ⟨_, rfl, by simp only [vmr, vmw, vmp, vza, ↓reduceIte, Nat.reduceBEq, Nat.reduceLT, Nat.reduceAdd, Nat.reduceEqDiff, reduceCtorEq, vmt, vzb, vzc, vlen, vleaf, velems, oks, vst, vmd, ty, Nat.reduceLeDiff, Nat.reduceMul, Nat.reduceSub, a68], (fun w' h => by cases h), fun l sl off _ _ => by simp only [vmr, vmw, vmp, vza, ↓reduceIte, Nat.reduceBEq, Nat.reduceLT, Nat.reduceAdd, Nat.reduceEqDiff, reduceCtorEq, vmt, vzb, vzc, vlen, vleaf, velems, oks, vst, vmd, ty, Nat.reduceLeDiff, Nat.reduceMul, Nat.reduceSub, a68]⟩
      | none =>
        rw [hF] at f2
        dsimp only at f2 ⊢
        have hr1 := @room35 1 (by omega)
        have hr2 := @room59 1 (by omega)
        have hr3 := @room59 (w.length + 1) (by omega)
        have hf1 : ∀ (s : List UInt8) (e : List V), fitsE Tryd.prog 59 (.agg [.str s, .lst e]) = true := fun s e => by simp [fitsE, ty, leafV]
        have hf2 : ∀ (k : Int) (s : List UInt8), fitsE Tryd.prog 35 (.agg [I k, .str s, .nilS]) = true := fun k s => by simp [fitsE, ty, leafV]
        rcases i2 with ⟨rfl, rfl⟩ | ⟨vr, rfl, i5⟩
        · simp only [vmr, vmw, vmp, vza, ↓reduceIte, Nat.reduceBEq, Nat.reduceLT, Nat.reduceAdd, Nat.reduceEqDiff, reduceCtorEq, vmt, vzb, vzc, vlen, vleaf, velems, oks, vst, vmd, ty, Nat.reduceLeDiff, Nat.reduceMul, Nat.reduceSub, callV_s2, a68, q1', e1, e2, e3, hd5, hd10, hd11, obj_lo, put_lo, oput_get, key_eq, lv0, i1, i3, i4, kok1, kok2, mapGet, f1, f2, strOp, qState_none, aop_mapEntry, aop_entryStore, mapEnt, entPut, mset_last, len_ok, Int.toNat_natCast, hr1, hr2, hr3, hf1, hf2, List.map_cons, List.map_nil]
          refine ⟨_, rfl, by simp only [vmr, vmw, vmp, vza, ↓reduceIte, Nat.reduceBEq, Nat.reduceLT, Nat.reduceAdd, Nat.reduceEqDiff, reduceCtorEq, vmt, vzb, vzc, vlen, vleaf, velems, oks, vst, vmd, ty, Nat.reduceLeDiff, Nat.reduceMul, Nat.reduceSub, a68], fun w' h => ?_, fun l sl off h0 h1 => ?_⟩
          · injection h with h
            subst h
            refine I18.of ?_ ?_ ?_ ?_
            all_goals simp only [vmr, vmw, vmp, vza, ↓reduceIte, Nat.reduceBEq, Nat.reduceLT, Nat.reduceAdd, Nat.reduceEqDiff, reduceCtorEq, vmt, vzb, vzc, vlen, vleaf, velems, oks, vst, vmd, ty, Nat.reduceLeDiff, Nat.reduceMul, Nat.reduceSub, a68]
            all_goals simp [verO, oput_get, odel_get, key_eq, toM, frM, rpV, List.map_append]
          · have hl0 : l ≠ 0 := by omega
            simp only [vmr, vmw, vmp, vza, ↓reduceIte, Nat.reduceBEq, Nat.reduceLT, Nat.reduceAdd, Nat.reduceEqDiff, reduceCtorEq, vmt, vzb, vzc, vlen, vleaf, velems, oks, vst, vmd, ty, Nat.reduceLeDiff, Nat.reduceMul, Nat.reduceSub, a68]
            simp [oput_get, odel_get, key_eq, hl0]
        · simp only [vmr, vmw, vmp, vza, ↓reduceIte, Nat.reduceBEq, Nat.reduceLT, Nat.reduceAdd, Nat.reduceEqDiff, reduceCtorEq, vmt, vzb, vzc, vlen, vleaf, velems, oks, vst, vmd, ty, Nat.reduceLeDiff, Nat.reduceMul, Nat.reduceSub, callV_s2, a68, q1', e1, e2, e3, hd5, hd10, hd11, obj_lo, put_lo, del_lo, odel_get, oput_get, key_eq, lv0, i1, i3, i4, i5, kok1, kok2, mapGet, f1, f2, strOp, qState_none, aop_mapEntry, aop_entryStore, mapEnt, entPut, mset_last, len_ok, Int.toNat_natCast, hr1, hr2, hr3, hf1, hf2, List.map_cons, List.map_nil]
          refine ⟨_, rfl, by simp only [vmr, vmw, vmp, vza, ↓reduceIte, Nat.reduceBEq, Nat.reduceLT, Nat.reduceAdd, Nat.reduceEqDiff, reduceCtorEq, vmt, vzb, vzc, vlen, vleaf, velems, oks, vst, vmd, ty, Nat.reduceLeDiff, Nat.reduceMul, Nat.reduceSub, a68], fun w' h => ?_, fun l sl off h0 h1 => ?_⟩
          · injection h with h
            subst h
            refine I18.of ?_ ?_ ?_ ?_
            all_goals simp only [vmr, vmw, vmp, vza, ↓reduceIte, Nat.reduceBEq, Nat.reduceLT, Nat.reduceAdd, Nat.reduceEqDiff, reduceCtorEq, vmt, vzb, vzc, vlen, vleaf, velems, oks, vst, vmd, ty, Nat.reduceLeDiff, Nat.reduceMul, Nat.reduceSub, a68]
            all_goals simp [verO, oput_get, odel_get, key_eq, toM, frM, rpV, List.map_append]
          · have hl0 : l ≠ 0 := by omega
            simp only [vmr, vmw, vmp, vza, ↓reduceIte, Nat.reduceBEq, Nat.reduceLT, Nat.reduceAdd, Nat.reduceEqDiff, reduceCtorEq, vmt, vzb, vzc, vlen, vleaf, velems, oks, vst, vmd, ty, Nat.reduceLeDiff, Nat.reduceMul, Nat.reduceSub, a68]
            simp [oput_get, odel_get, key_eq, hl0]
end Go.Vi
set_option maxRecDepth 100000
set_option maxHeartbeats 1000000
namespace Go.Vi
open Go Go.Proofs

theorem q_fn {g : FuncId} {fn : Func} {b : Code} {lvl n c : Nat} {O : Heap} {args : List V} {res : Option (List Rp)} (hf : Tryd.prog.funcs[g]? = some fn) (hb : fn.body = some b) (hla : args.length ≤ fn.ntmps) (hr : fn.results.toList = [.tmp 6]) (hl : 0 < lvl)
    (h : Q18 res lvl O (R (mcAt (Cx (hand T718)) g fn lvl n) b .top ⟨params 0 args, [], O, c⟩)) : ∃ c' O', (evF (Cx (hand T718)) (n + 1)).fn g args lvl c O = some (.ret (.bool res.isSome), c', O') ∧ G18 res lvl O O' := by
  obtain ⟨s', hr', h6, hi, hS⟩ := h
  refine ⟨_, _, evF_at1 (C := Cx (hand T718)) (s' := s') hf hb hla hr (.inr hr') (by rw [h6]; rfl), fun w' hw => (hi w' hw).cong fun sl off => by rw [lower_get, if_pos hl], fun l sl off h0 h1 => by rw [lower_get, if_pos h1]; exact hS l sl off h0 h1⟩
theorem reL_len : ∀ (w : List Rp) (a b : List Tm), a.length ≠ b.length → reL w a b = none
  | w, [], [], h => absurd rfl h
  | w, [], t :: r, h => by rw [reL] <;> simp
  | w, t :: r, [], h => by rw [reL] <;> simp
  | w, t :: r, t' :: r', h => by
    rw [reL]
    cases reT w t t' with
    | none => rfl
    | some w' => exact reL_len w' r r' (fun e => h (by simp [e]))
mutual
theorem reT_sz : ∀ (w : List Rp) (t t' : Tm) {w'}, reT w t t' = some w' → w'.length ≤ w.length + szt t
  | w, .mk k s c, .mk k' s' c', w', h => by
    rw [reT] at h
    rw [szt]
    split at h
    · split at h
      · obtain ⟨r, h1, h2⟩ := reV_app h
        unfold reV at h
        split at h
        · injection h with h; rw [← h]; simp
        · split at h
          · injection h with h; rw [← h]; omega
          · cases h
        · cases h
      · split at h
        · have := reL_sz w c c' h; omega
        · cases h
    · cases h
theorem reL_sz : ∀ (w : List Rp) (l l' : List Tm) {w'}, reL w l l' = some w' → w'.length ≤ w.length + szs l
  | w, [], [], w', h => by
    rw [reL] at h
    injection h with h
    rw [h]; omega
  | w, t :: r, t' :: r', w', h => by
    rw [reL] at h
    split at h
    · rename_i w1 h1
      have := reT_sz w t t' h1
      have := reL_sz w1 r r' h
      rw [szs]; omega
    · cases h
  | w, [], t' :: r', w', h => by
    rw [reL_len w _ _ (by simp)] at h; cases h
  | w, t :: r, [], w', h => by
    rw [reL_len w _ _ (by simp)] at h; cases h
end
abbrev fn68 : V := .fn (.func 68) [pR] []
theorem l67 {m : Nat} (IH : C41 m) {n lvl : Nat} {k : K} {O : Heap} (hl : 0 < lvl) (a b : List Tm) (hoa : txs a) (hob : txs b) (hsz : szs a < m + 1) (ham : szs a ≤ 1000000) (hn : 3 * szs a + 1 ≤ n) {res : Option (List Rp)} :
    ∀ r t i w n' s, a.drop i = r → b.drop i = t → r.length = t.length → r.length < n' → w.length + szs r ≤ 1000000 → tget s.τ 1 = Ts b → tget s.τ 2 = fn68 → tget s.τ 15 = Ts a → tget s.τ 16 = I a.length → tget s.τ 17 = I (i : Nat) → I18 w s.O → Fr lvl O s.O →
    reL w r t = res → (∀ s' w', res = some w' → I18 w' s'.O → Fr lvl O s'.O → Q18 res lvl O (X (A67 lvl (n + 1)) (.exit 0) k s')) →
    Q18 res lvl O (L (A67 lvl (n + 1)) (sub [1, 1, 0, 1, 0, 0] c767) n' k s)
  | [], [], i, w, n' + 1, s, hi, hj, hlen, hn', hw, h1, h2, h15, h16, h17, hI, hS, hres, hx => by
    have hc := inlt (drop_nil' hi)
    rw [L_succ]
    simp only [vmr, vmw, vmp, vza, ↓reduceIte, Nat.reduceBEq, Nat.reduceLT, Nat.reduceAdd, Nat.reduceEqDiff, reduceCtorEq, vmt, vzb, vzc, vlen, vleaf, velems, oks, vst, vmd, ty, Nat.reduceLeDiff, Nat.reduceMul, Nat.reduceSub, c767, Tryd.f67, a67, h15, h16, h17, hc]
    rw [reL] at hres
    exact hx _ w hres.symm hI hS
  | .mk k1 s1 c1 :: r, .mk k2 s2 c2 :: t, i, w, n' + 1, s, hi, hj, hlen, hn', hw, h1, h2, h15, h16, h17, hI, hS, hres, hx => by
    obtain ⟨g1, g2, g3⟩ := drop_cons hi
    obtain ⟨g4, g5, g6⟩ := drop_cons hj
    have hcl := ilt g3
    have ga : (a.map tv)[i]? = some (.agg [I k1, .str s1, Ts c1]) := by rw [List.getElem?_map, g1, Option.map_some, tv_mk]
    have gb : (b.map tv)[i]? = some (.agg [I k2, .str s2, Ts c2]) := by rw [List.getElem?_map, g4, Option.map_some, tv_mk]
    have hsa := szs_mem (l := a) (List.mem_of_getElem? g1)
    have hlna := szs_len a
    have w4 := wsuc g3 (by omega)
    have ho1 := txs_mem hoa (List.mem_of_getElem? g1)
    have ho2 := txs_mem hob (List.mem_of_getElem? g4)
    simp only [szs, szt] at hw
    rw [reL] at hres
    rw [L_succ]
    simp only [vmr, vmw, vmp, vza, ↓reduceIte, Nat.reduceBEq, Nat.reduceLT, Nat.reduceAdd, Nat.reduceEqDiff, reduceCtorEq, vmt, vzb, vzc, vlen, vleaf, velems, oks, vst, vmd, ty, Nat.reduceLeDiff, Nat.reduceMul, Nat.reduceSub, c767, Tryd.f67, a67, h1, h2, h15, h16, h17, hcl, ga, gb, w4]
    rw [callV_i (show okL.contains 68 = true by decide) (.inl rfl)]
    refine call_b (show 29 < 32 by omega) (G18.down (lvl := lvl) (O := s.O) rfl (by simp only [vmr, vmw, vmp, vza, ↓reduceIte, Nat.reduceBEq, Nat.reduceLT, Nat.reduceAdd, Nat.reduceEqDiff, reduceCtorEq, vmt, vzb, vzc, vlen, vleaf, velems, oks, vst, vmd, ty, Nat.reduceLeDiff, Nat.reduceMul, Nat.reduceSub, a67]) (q_fn (fn := Tryd.f68) (b := c768) Tryd.func68 rfl (show 3 ≤ 107 by omega) rfl (by show 0 < lvl + 1; omega) (w68 IH (k := k1) (s := s1) (c := c1) (k' := k2) (s' := s2) (c' := c2) (w := w) (n := n) (by omega) ho1 ho2 (by omega) (by omega) (by omega) (I18.up (lvl := lvl) rfl hl (by simp only [vmr, vmw, vmp, vza, ↓reduceIte, Nat.reduceBEq, Nat.reduceLT, Nat.reduceAdd, Nat.reduceEqDiff, reduceCtorEq, vmt, vzb, vzc, vlen, vleaf, velems, oks, vst, vmd, ty, Nat.reduceLeDiff, Nat.reduceMul, Nat.reduceSub, a67]) hI)))) fun L' O' c2' _ hG => ?_
    obtain ⟨q1, q2⟩ := hG
    have ih := fun w s => l67 (k := k) (O := O) IH hl a b hoa hob hsz ham hn (res := res) r t (i + 1) w n' s g2 g5 (by simpa using hlen) (by simp at hn'; omega)
    simp only [sub, c767, Tryd.f67, gets] at ih
    have hS' : Fr lvl O O' := fun l sl off h0 h1 => (q2 l sl off h0 h1).trans (hS l sl off h0 h1)
    have hlw : ∀ w', reT w (.mk k1 s1 c1) (.mk k2 s2 c2) = some w' → w'.length ≤ w.length + (szs c1 + 1) := fun w' h => by
      have := reT_sz w _ _ h
      rw [szt] at this
      exact this
    generalize reT w (.mk k1 s1 c1) (.mk k2 s2 c2) = o at hres q1 hlw ⊢
    cases o with
    | none =>
      dsimp only at hres
      subst hres
      simp only [vmr, vmw, vmp, vza, ↓reduceIte, Nat.reduceBEq, Nat.reduceLT, Nat.reduceAdd, Nat.reduceEqDiff, reduceCtorEq, vmt, vzb, vzc, vlen, vleaf, velems, oks, vst, vmd, ty, Nat.reduceLeDiff, Nat.reduceMul, Nat.reduceSub, a67]
      exact ⟨_, rfl, by simp only [vmr, vmw, vmp, vza, ↓reduceIte, Nat.reduceBEq, Nat.reduceLT, Nat.reduceAdd, Nat.reduceEqDiff, reduceCtorEq, vmt, vzb, vzc, vlen, vleaf, velems, oks, vst, vmd, ty, Nat.reduceLeDiff, Nat.reduceMul, Nat.reduceSub, a67], (fun w' h => by cases h), fun l sl off h0 h1 => by simp only [vmr, vmw, vmp, vza, ↓reduceIte, Nat.reduceBEq, Nat.reduceLT, Nat.reduceAdd, Nat.reduceEqDiff, reduceCtorEq, vmt, vzb, vzc, vlen, vleaf, velems, oks, vst, vmd, ty, Nat.reduceLeDiff, Nat.reduceMul, Nat.reduceSub, a67]; exact hS' l sl off h0 h1⟩
    | some w1 =>
      dsimp only at hres
      have := hlw w1 rfl
      simp only [vmr, vmw, vmp, vza, ↓reduceIte, Nat.reduceBEq, Nat.reduceLT, Nat.reduceAdd, Nat.reduceEqDiff, reduceCtorEq, vmt, vzb, vzc, vlen, vleaf, velems, oks, vst, vmd, ty, Nat.reduceLeDiff, Nat.reduceMul, Nat.reduceSub, a67, h17, w4]
      refine ih w1 _ (by omega) ?_ ?_ ?_ ?_ ?_ ?_ ?_ hres hx
      case refine_6 => simp only [vmr, vmw, vmp, vza, ↓reduceIte, Nat.reduceBEq, Nat.reduceLT, Nat.reduceAdd, Nat.reduceEqDiff, reduceCtorEq, vmt, vzb, vzc, vlen, vleaf, velems, oks, vst, vmd, ty, Nat.reduceLeDiff, Nat.reduceMul, Nat.reduceSub, a67]; exact q1 w1 rfl
      case refine_7 => simp only [vmr, vmw, vmp, vza, ↓reduceIte, Nat.reduceBEq, Nat.reduceLT, Nat.reduceAdd, Nat.reduceEqDiff, reduceCtorEq, vmt, vzb, vzc, vlen, vleaf, velems, oks, vst, vmd, ty, Nat.reduceLeDiff, Nat.reduceMul, Nat.reduceSub, a67]; exact hS'
      all_goals simp only [vmr, vmw, vmp, vza, ↓reduceIte, Nat.reduceBEq, Nat.reduceLT, Nat.reduceAdd, Nat.reduceEqDiff, reduceCtorEq, vmt, vzb, vzc, vlen, vleaf, velems, oks, vst, vmd, ty, Nat.reduceLeDiff, Nat.reduceMul, Nat.reduceSub, a67, h1, h2, h15, h16]
theorem w67 {m : Nat} (IH : C41 m) (a b : List Tm) {w : List Rp} {n lvl c : Nat} {O : Heap} (hsz : szs a < m + 1) (hoa : txs a) (hob : txs b) (hw : w.length + szs a ≤ 1000000) (hn : 3 * szs a + 1 ≤ n) (hl : 0 < lvl) (hI : I18 w O) :
    Q18 (reL w a b) lvl O (R (A67 lvl (n + 1)) c767 .top ⟨params 0 [Ts a, Ts b, fn68], [], O, c⟩) := by
  have hla := szs_len a
  have a1 := fun k s => l67 (n := n) (k := k) (O := O) IH hl a b hoa hob hsz (by omega) hn (res := reL w a b) a b 0 w (n + 1) s rfl rfl
  simp only [c767, Tryd.f67, gets, sub] at a1 ⊢
  by_cases q : a.length = b.length
  · have q' : ((a.length : Int) != (b.length : Int)) = false := by simp [q]
    simp only [vmr, vmw, vmp, vza, ↓reduceIte, Nat.reduceBEq, Nat.reduceLT, Nat.reduceAdd, Nat.reduceEqDiff, reduceCtorEq, vmt, vzb, vzc, vlen, vleaf, velems, oks, vst, vmd, ty, Nat.reduceLeDiff, Nat.reduceMul, Nat.reduceSub, a67, q']
    refine a1 _ _ q (by omega) hw ?_ ?_ ?_ ?_ ?_ hI (fun _ _ _ _ _ => rfl) trivial (fun s' w' e hi hS => ?_)
    case refine_6 =>
      rw [e]
      simp only [vmr, vmw, vmp, vza, ↓reduceIte, Nat.reduceBEq, Nat.reduceLT, Nat.reduceAdd, Nat.reduceEqDiff, reduceCtorEq, vmt, vzb, vzc, vlen, vleaf, velems, oks, vst, vmd, ty, Nat.reduceLeDiff, Nat.reduceMul, Nat.reduceSub, a67]
      exact ⟨_, rfl, by simp only [vmr, vmw, vmp, vza, ↓reduceIte, Nat.reduceBEq, Nat.reduceLT, Nat.reduceAdd, Nat.reduceEqDiff, reduceCtorEq, vmt, vzb, vzc, vlen, vleaf, velems, oks, vst, vmd, ty, Nat.reduceLeDiff, Nat.reduceMul, Nat.reduceSub, a67], (fun w2 h => by injection h with h; subst h; simp only [vmr, vmw, vmp, vza, ↓reduceIte, Nat.reduceBEq, Nat.reduceLT, Nat.reduceAdd, Nat.reduceEqDiff, reduceCtorEq, vmt, vzb, vzc, vlen, vleaf, velems, oks, vst, vmd, ty, Nat.reduceLeDiff, Nat.reduceMul, Nat.reduceSub, a67]; exact hi), fun l sl off h0 h1 => by simp only [vmr, vmw, vmp, vza, ↓reduceIte, Nat.reduceBEq, Nat.reduceLT, Nat.reduceAdd, Nat.reduceEqDiff, reduceCtorEq, vmt, vzb, vzc, vlen, vleaf, velems, oks, vst, vmd, ty, Nat.reduceLeDiff, Nat.reduceMul, Nat.reduceSub, a67]; exact hS l sl off h0 h1⟩
    all_goals simp only [vmr, vmw, vmp, vza, ↓reduceIte, Nat.reduceBEq, Nat.reduceLT, Nat.reduceAdd, Nat.reduceEqDiff, reduceCtorEq, vmt, vzb, vzc, vlen, vleaf, velems, oks, vst, vmd, ty, Nat.reduceLeDiff, Nat.reduceMul, Nat.reduceSub, a67]
  · have q' : ((a.length : Int) != (b.length : Int)) = true := by simp; omega
    rw [reL_len w a b q]
    simp only [vmr, vmw, vmp, vza, ↓reduceIte, Nat.reduceBEq, Nat.reduceLT, Nat.reduceAdd, Nat.reduceEqDiff, reduceCtorEq, vmt, vzb, vzc, vlen, vleaf, velems, oks, vst, vmd, ty, Nat.reduceLeDiff, Nat.reduceMul, Nat.reduceSub, a67, q']
    exact ⟨_, rfl, by simp only [vmr, vmw, vmp, vza, ↓reduceIte, Nat.reduceBEq, Nat.reduceLT, Nat.reduceAdd, Nat.reduceEqDiff, reduceCtorEq, vmt, vzb, vzc, vlen, vleaf, velems, oks, vst, vmd, ty, Nat.reduceLeDiff, Nat.reduceMul, Nat.reduceSub, a67], (fun w' h => by cases h), fun l sl off h0 h1 => by simp only [vmr, vmw, vmp, vza, ↓reduceIte, Nat.reduceBEq, Nat.reduceLT, Nat.reduceAdd, Nat.reduceEqDiff, reduceCtorEq, vmt, vzb, vzc, vlen, vleaf, velems, oks, vst, vmd, ty, Nat.reduceLeDiff, Nat.reduceMul, Nat.reduceSub, a67]⟩
theorem c41 : ∀ m, C41 m
  | 0 => fun l l' w n lvl c O h => by omega
  | m + 1 => fun a b w n lvl c O hsz hoa hob hw hn hl hI => by
    obtain ⟨n, rfl⟩ : ∃ n', n = n' + 3 := ⟨n - 3, by omega⟩
    have key : Q18 (reL w a b) lvl O (R (A41 lvl (n + 2)) (Tryd.f41.body.getD .skip) .top ⟨params 0 [pR, Ts a, Ts b], [], O, c⟩) := by
      simp only [vmr, vmw, vmp, vza, ↓reduceIte, Nat.reduceBEq, Nat.reduceLT, Nat.reduceAdd, Nat.reduceEqDiff, reduceCtorEq, vmt, vzb, vzc, vlen, vleaf, velems, oks, vst, vmd, ty, Nat.reduceLeDiff, Nat.reduceMul, Nat.reduceSub, Tryd.f41, a41]
      rw [callV_i (show okL.contains 67 = true by decide) (.inl rfl)]
      refine call_b (show 11 < 12 by omega) (G18.down (lvl := lvl) (O := O) rfl (by simp only [vmr, vmw, vmp, vza, ↓reduceIte, Nat.reduceBEq, Nat.reduceLT, Nat.reduceAdd, Nat.reduceEqDiff, reduceCtorEq, vmt, vzb, vzc, vlen, vleaf, velems, oks, vst, vmd, ty, Nat.reduceLeDiff, Nat.reduceMul, Nat.reduceSub, a41]) (q_fn (fn := Tryd.f67) (b := c767) Tryd.func67 rfl (show 3 ≤ 32 by omega) rfl (by show 0 < lvl + 1; omega) (w67 (c41 m) a b (w := w) (n := n) hsz hoa hob hw (by omega) (by omega) (I18.up (lvl := lvl) rfl hl (by simp only [vmr, vmw, vmp, vza, ↓reduceIte, Nat.reduceBEq, Nat.reduceLT, Nat.reduceAdd, Nat.reduceEqDiff, reduceCtorEq, vmt, vzb, vzc, vlen, vleaf, velems, oks, vst, vmd, ty, Nat.reduceLeDiff, Nat.reduceMul, Nat.reduceSub, a41]) hI)))) fun L' O' c2' _ hG => ?_
      obtain ⟨q1, q2⟩ := hG
      generalize reL w a b = res at q1 ⊢
      simp only [vmr, vmw, vmp, vza, ↓reduceIte, Nat.reduceBEq, Nat.reduceLT, Nat.reduceAdd, Nat.reduceEqDiff, reduceCtorEq, vmt, vzb, vzc, vlen, vleaf, velems, oks, vst, vmd, ty, Nat.reduceLeDiff, Nat.reduceMul, Nat.reduceSub, a41]
      exact ⟨_, rfl, by simp only [vmr, vmw, vmp, vza, ↓reduceIte, Nat.reduceBEq, Nat.reduceLT, Nat.reduceAdd, Nat.reduceEqDiff, reduceCtorEq, vmt, vzb, vzc, vlen, vleaf, velems, oks, vst, vmd, ty, Nat.reduceLeDiff, Nat.reduceMul, Nat.reduceSub, a41], (fun w' h => by simp only [vmr, vmw, vmp, vza, ↓reduceIte, Nat.reduceBEq, Nat.reduceLT, Nat.reduceAdd, Nat.reduceEqDiff, reduceCtorEq, vmt, vzb, vzc, vlen, vleaf, velems, oks, vst, vmd, ty, Nat.reduceLeDiff, Nat.reduceMul, Nat.reduceSub, a41]; exact q1 w' h), fun l sl off h0 h1 => by simp only [vmr, vmw, vmp, vza, ↓reduceIte, Nat.reduceBEq, Nat.reduceLT, Nat.reduceAdd, Nat.reduceEqDiff, reduceCtorEq, vmt, vzb, vzc, vlen, vleaf, velems, oks, vst, vmd, ty, Nat.reduceLeDiff, Nat.reduceMul, Nat.reduceSub, a41]; exact q2 l sl off h0 h1⟩
    exact q_fn (fn := Tryd.f41) (b := Tryd.f41.body.getD .skip) Tryd.func41 rfl (show 3 ≤ 12 by omega) rfl hl key
/-! ### Renaming -/
def reB (a b : List Tm) : Option (List Rp) := if errB 8 a = 0 ∧ errB 8 b = 0 then reL [] a b else none
def reO : Option (List Rp) → V
  | some w => .tup [Bs (w.map Rp.b), .bool true]
  | none => .tup [Bs [], .bool false]
theorem h718 : SoundHand Tryd.prog (hand T718) := sound_cons F17_sound <| sound_cons F25_sound <| sound_cons F52_sound sound_nil
theorem can_rpV (p : Rp) : can (rpV p) = p.b.v := by
  show V.agg [.str p.x, .lst [.agg [I p.k, .str p.s, .lst []]]] = _
  rw [Rp.b, Bn.v, Ts, List.map_cons, List.map_nil, tv_mk]
  rfl
theorem cans_rpV (w : List Rp) : cans (w.map rpV) = (w.map Rp.b).map Bn.v := by
  rw [cans_map, List.map_map, List.map_map]
  exact List.map_congr_left fun p _ => can_rpV p
theorem pureLR : ∀ w : List Rp, pureRL (w.map rpV) = true
  | [] => rfl
  | p :: r => by simp only [List.map_cons, pureRL, rpV, pureR, pureLR r, Bool.and_self]
def Fi18 (n : Nat) (v : V) (r : Option (Ex × St)) : Prop := Fin (M718 (hand T718) n) [.tmp 4, .tmp 5] r = some (.ret v)
theorem w18 (a b : List Tm) (hs : szs a ≤ 1000000) (hs' : szs b ≤ 1000000) (ho : txs a) (ho' : txs b) : SoundPure Tryd.prog 18 [Ts a, Ts b] (.ret (reO (reB a b))) := by
  have e1 := Fres_eq hs ho
  have e2 := Fres_eq hs' ho'
  have n0 : ((0 : Int) != 0) = false := rfl
  unfold reB
  by_cases q1 : errB 8 a = 0
  case neg =>
    have q1' : (errB 8 a != 0) = true := by simpa using q1
    rw [if_neg (fun h => q1 h.1)]
    have : SoundPure Tryd.prog 18 [Ts a, Ts b] (.ret (.tup [.nilS, .bool false])) := by
      refine s718 h718 1 (by simp) rfl ?_
      simp only [c718, Tryd.f18, gets, sub]
      simp only [vmr, vmw, vmp, vza, ↓reduceIte, Nat.reduceBEq, Nat.reduceLT, Nat.reduceAdd, Nat.reduceEqDiff, reduceCtorEq, vmt, vzb, vzc, vlen, vleaf, velems, oks, vst, vmd, ty, Nat.reduceLeDiff, Nat.reduceMul, Nat.reduceSub, vzr, callV_s2, m718, e1, q1']
    exact sound_imm this rfl
  rw [q1] at e1
  by_cases q2 : errB 8 b = 0
  case neg =>
    have q2' : (errB 8 b != 0) = true := by simpa using q2
    rw [if_neg (fun h => q2 h.2)]
    have : SoundPure Tryd.prog 18 [Ts a, Ts b] (.ret (.tup [.nilS, .bool false])) := by
      refine s718 h718 1 (by simp) rfl ?_
      simp only [c718, Tryd.f18, gets, sub]
      simp only [vmr, vmw, vmp, vza, ↓reduceIte, Nat.reduceBEq, Nat.reduceLT, Nat.reduceAdd, Nat.reduceEqDiff, reduceCtorEq, vmt, vzb, vzc, vlen, vleaf, velems, oks, vst, vmd, ty, Nat.reduceLeDiff, Nat.reduceMul, Nat.reduceSub, vzr, callV_s2, m718, e1, e2, n0, q2']
    exact sound_imm this rfl
  rw [q2] at e2
  rw [if_pos ⟨q1, q2⟩]
  let Po : Option (Ex × St) → Prop := fun r => ∃ v, pureR v = true ∧ can (imm v) = reO (reL [] a b) ∧ Fi18 (3 * szs a + 5) v r
  have key : Po (R (M718 (hand T718) (3 * szs a + 5)) c718 .top ⟨params 0 [Ts a, Ts b], [], fun _ => none, 0⟩) := by
    simp only [c718, Tryd.f18, gets]
    simp only [vmr, vmw, vmp, vza, ↓reduceIte, Nat.reduceBEq, Nat.reduceLT, Nat.reduceAdd, Nat.reduceEqDiff, reduceCtorEq, vmt, vzb, vzc, vlen, vleaf, velems, oks, vst, vmd, ty, Nat.reduceLeDiff, Nat.reduceMul, Nat.reduceSub, callV_s2, m718, e1, e2, newMap, n0]
    rw [callV_i (show okL.contains 41 = true by decide) (.inl rfl)]
    refine call_b (show 22 < 28 by omega) (b := (reL [] a b).isSome) (Inv := fun O' => ∀ w', reL [] a b = some w' → I18 w' O') ?_ fun L' O' c2' hL hG => ?_
    · have hI : ∀ s : St, lget s.L (18, 0) = some (4, .var [.mref ⟨0, 18, 1⟩ 2, .mref ⟨0, 18, 2⟩ 3, .nilS]) → lget s.L (18, 1) = some (2, .map []) → lget s.L (18, 2) = some (3, .map []) → I18 [] (s.heap (M718 (hand T718) (3 * szs a + 5)).E) := fun s g0 g1 g2 => ⟨⟨.nilS, (heap_ow (l := 0) rfl).trans g0, .inl ⟨rfl, rfl⟩⟩, (heap_ow (l := 0) rfl).trans g1, (heap_ow (l := 0) rfl).trans g2⟩
      have hc : ∀ (s : St) (c : Nat), lget s.L (18, 0) = some (4, .var [.mref ⟨0, 18, 1⟩ 2, .mref ⟨0, 18, 2⟩ 3, .nilS]) → lget s.L (18, 1) = some (2, .map []) → lget s.L (18, 2) = some (3, .map []) → ∃ c' O', (evF (Cx (hand T718)) (3 * szs a + 5)).fn 41 [pR, Ts a, Ts b] 1 c (s.heap (M718 (hand T718) (3 * szs a + 5)).E) = some (.ret (.bool (reL [] a b).isSome), c', O') ∧ ∀ w', reL [] a b = some w' → I18 w' O' := fun s c g0 g1 g2 => by
        obtain ⟨c', O', h1, h2, _⟩ := c41 (szs a + 1) a b [] (3 * szs a + 5) 1 c _ (by omega) ho ho' (by simp; omega) (by omega) (by omega) (hI s g0 g1 g2)
        exact ⟨c', O', h1, h2⟩
      refine hc _ _ ?_ ?_ ?_
      all_goals simp only [vmr, vmw, vmp, vza, ↓reduceIte, Nat.reduceBEq, Nat.reduceLT, Nat.reduceAdd, Nat.reduceEqDiff, reduceCtorEq, vmt, vzb, vzc, vlen, vleaf, velems, oks, vst, vmd, ty, Nat.reduceLeDiff, Nat.reduceMul, Nat.reduceSub, m718]
    · have hb : ∀ off y, off ≤ 3 → O' ⟨0, 18, off⟩ = some y → lget L' (18, off) = some y := fun off y ho hy => hL 18 off y (by
        by_cases z : off = 0
        · subst z; left; simp only [vmr, vmw, vmp, vza, ↓reduceIte, Nat.reduceBEq, Nat.reduceLT, Nat.reduceAdd, Nat.reduceEqDiff, reduceCtorEq, vmt, vzb, vzc, vlen, vleaf, velems, oks, vst, vmd, ty, Nat.reduceLeDiff, Nat.reduceMul, Nat.reduceSub, m718]
        · right
          exact ⟨4, [.mref ⟨0, 18, 1⟩ 2, .mref ⟨0, 18, 2⟩ 3, .nilS], off - 1, by simp only [vmr, vmw, vmp, vza, ↓reduceIte, Nat.reduceBEq, Nat.reduceLT, Nat.reduceAdd, Nat.reduceEqDiff, reduceCtorEq, vmt, vzb, vzc, vlen, vleaf, velems, oks, vst, vmd, ty, Nat.reduceLeDiff, Nat.reduceMul, Nat.reduceSub, m718], by omega, by simp; omega⟩) hy
      clear hL
      cases hab : reL [] a b with
      | none =>
        refine ⟨.tup [.nilS, .bool false], rfl, by rw [hab]; rfl, ?_⟩
        unfold Fi18
        simp only [vmr, vmw, vmp, vza, ↓reduceIte, Nat.reduceBEq, Nat.reduceLT, Nat.reduceAdd, Nat.reduceEqDiff, reduceCtorEq, vmt, vzb, vzc, vlen, vleaf, velems, oks, vst, vmd, ty, Nat.reduceLeDiff, Nat.reduceMul, Nat.reduceSub, vzr, m718]
      | some w =>
        obtain ⟨⟨row, i1, i2⟩, _, _⟩ := hG w hab
        have g0 := hb 0 _ (by omega) i1
        rcases i2 with ⟨rfl, rfl⟩ | ⟨vr, rfl, i5⟩
        · refine ⟨.tup [.nilS, .bool true], rfl, by rw [hab]; rfl, ?_⟩
          unfold Fi18
          simp only [vmr, vmw, vmp, vza, ↓reduceIte, Nat.reduceBEq, Nat.reduceLT, Nat.reduceAdd, Nat.reduceEqDiff, reduceCtorEq, vmt, vzb, vzc, vlen, vleaf, velems, oks, vst, vmd, ty, Nat.reduceLeDiff, Nat.reduceMul, Nat.reduceSub, vzr, m718, g0]
        · have g3 := hb 3 _ (by omega) i5
          refine ⟨.tup [.own 2 (w.map rpV), .bool true], by simp only [pureR, pureRL, pureLR, Bool.and_self], ?_, ?_⟩
          · show V.tup [can (imm (.own 2 (w.map rpV))), _] = _
            rw [show imm (.own 2 (w.map rpV)) = V.lst (w.map rpV) by simp only [imm, imms_map (e := rpV) (fun _ => rfl)]]
            show V.tup [.lst (cans (w.map rpV)), _] = _
            rw [cans_rpV, hab]
            rfl
          · unfold Fi18
            simp only [vmr, vmw, vmp, vza, ↓reduceIte, Nat.reduceBEq, Nat.reduceLT, Nat.reduceAdd, Nat.reduceEqDiff, reduceCtorEq, vmt, vzb, vzc, vlen, vleaf, velems, oks, vst, vmd, ty, Nat.reduceLeDiff, Nat.reduceMul, Nat.reduceSub, vzr, m718, g0, g3, take_len]
  obtain ⟨v, hp, hc, hk⟩ := key
  have := sound_imm (s718 h718 (3 * szs a + 5) (by simp) hp hk) hp
  rw [hc] at this
  exact this
noncomputable def F18 : List V → Option V := hF (α := List Tm × List Tm) (fun p => [Ts p.1, Ts p.2]) (fun p => szs p.1 ≤ 1000000 ∧ szs p.2 ≤ 1000000 ∧ txs p.1 ∧ txs p.2) (fun p => reO (reB p.1 p.2))
theorem F18_eq {a b : List Tm} (h1 : szs a ≤ 1000000) (h2 : szs b ≤ 1000000) (h3 : txs a) (h4 : txs b) : F18 [Ts a, Ts b] = some (reO (reB a b)) := hF_eq (a := (a, b)) (two_inj (fun _ _ => Ts_inj) (fun _ _ => Ts_inj)) (by simp only [cans, can_Ts]) ⟨h1, h2, h3, h4⟩
theorem F18_sound : ∀ args v, F18 args = some v → SoundPure Tryd.prog 18 args (.ret v) := hF_sound fun p hp => w18 p.1 p.2 hp.1 hp.2.1 hp.2.2.1 hp.2.2.2
end Go.Vi
set_option maxRecDepth 100000
set_option maxHeartbeats 1000000
namespace Go.Vi
open Go Go.Proofs

noncomputable abbrev T705 : List (FuncId × (List V → Option V)) := [(8, F8), (10, F10), (11, Fto), (13, F312), (17, Fres), (18, F18), (19, F19), (20, F20)]
theorem h705 : SoundHand Tryd.prog (hand T705) := sound_cons F8_sound <| sound_cons F10_sound <| sound_cons F11_sound <| sound_cons F312_sound <| sound_cons F17_sound <| sound_cons F18_sound <| sound_cons F19_sound <| sound_cons F20_sound sound_nil
theorem frL_e2 : ∀ (W : List (List UInt8)) (n : Nat), ∀ b ∈ frL W (n : Int), ∃ k, ∃ m : Nat, b.e = [.mk k (Lib.itoa (m : Int)) []] ∧ m < n + W.length
  | x :: r, n, b, hb => by
    rw [frL] at hb
    rcases List.mem_cons.1 hb with rfl | hb
    · exact ⟨_, n, rfl, by simp⟩
    · obtain ⟨k, m, h1, h2⟩ := frL_e2 r (n + 1) b hb
      exact ⟨k, m, h1, by simp; omega⟩
theorem itoa_len {m : Nat} (h : m ≤ 1000000000) : (Lib.itoa (m : Int)).length ≤ 10 := by
  have : Lib.itoa (m : Int) = Lib.decDigits m := by unfold Lib.itoa; rw [if_neg (by omega)]; rfl
  rw [this, Lib.decDigits_length]
  exact nd_le 9 m (by omega)
theorem frL_ok {W : List (List UInt8)} {n : Nat} (h : n + W.length ≤ 1000000000) : ∀ b ∈ frL W (n : Int), szs b.e = 1 ∧ txs b.e := fun b hb => by
  obtain ⟨k, m, h1, h2⟩ := frL_e2 W n b hb
  rw [h1]
  have := @itoa_len m (by omega)
  exact ⟨rfl, ⟨⟨by omega, trivial⟩, trivial⟩⟩
theorem right_len {k : Int} {s : List UInt8} (hk : isV k = true) (hr : rightB k s [] = true) : s.length ≤ 40 := by
  unfold rightB at hr
  rcases isV_iff.1 hk with rfl | rfl | rfl <;> simp at hr <;> omega
theorem rn_bok {p : Rp} (h : rnOk p) : bok p.b := by
  obtain ⟨hk, ⟨s0, h1, h2⟩, h3⟩ := h
  have l1 := right_len hk h1
  have l2 := right_len hk h3
  have l3 : (nameV p.k s0).length = 2 + s0.length := by unfold nameV; rcases isV_iff.1 hk with e | e | e <;> simp [e] <;> omega
  refine ⟨?_, by simp [Rp.b, szs, szt], ⟨⟨by show p.s.length ≤ _; omega, trivial⟩, trivial⟩⟩
  show p.x.length ≤ _
  rw [h2, l3]
  omega
theorem eqB_comm (a b : List Tm) : eqB a b = eqB b a := by
  rw [Bool.eq_iff_iff, eqB_iff, eqB_iff]
  exact eq_comm
theorem w5 (a b : List Tm) (n : Nat) (hn : n ≤ 65535) (ho : txs a) (ho' : txs b) : SoundPure Tryd.prog 5 [Ts a, Ts b, .int .u16 n] (.ret (.bool true)) := by
  refine s705 h705 1 (by simp) rfl ?_
  simp only [c705, Tryd.f5, gets, sub]
  have e1 := F8_eq (a := a) (k := 101) (by omega) (by omega)
  have e2 := F8_eq (a := b) (k := 101) (by omega) (by omega)
  have e0 := F10_eq
  have n0 : ((0 : Int) != 0) = false := rfl
  have nf : (false != false) = false := rfl
  have nt : (true != true) = false := rfl
  by_cases q1 : lmL 101 0 a > 100
  · have q1' := eq_true q1
    simp only [vmr, vmw, vmp, vza, ↓reduceIte, Nat.reduceBEq, Nat.reduceLT, Nat.reduceAdd, Nat.reduceEqDiff, reduceCtorEq, vmt, vzb, vzc, vlen, vleaf, velems, oks, vst, vmd, ty, Nat.reduceLeDiff, Nat.reduceMul, Nat.reduceSub, vzr, m705, e1, e0, q1']
  have q1' := eq_false q1
  by_cases q2 : lmL 101 0 b > 100
  · have q2' := eq_true q2
    simp only [vmr, vmw, vmp, vza, ↓reduceIte, Nat.reduceBEq, Nat.reduceLT, Nat.reduceAdd, Nat.reduceEqDiff, reduceCtorEq, vmt, vzb, vzc, vlen, vleaf, velems, oks, vst, vmd, ty, Nat.reduceLeDiff, Nat.reduceMul, Nat.reduceSub, vzr, m705, e1, e2, e0, q1', q2']
  have q2' := eq_false q2
  have sa := lmL_sz a 101 0 (by omega) (by omega) (by omega)
  have sb := lmL_sz b 101 0 (by omega) (by omega) (by omega)
  have e3 := Fres_eq (a := a) (by omega) ho
  have e4 := Fres_eq (a := b) (by omega) ho'
  by_cases q3 : errB 8 a = 0
  case neg =>
    have q3' : (errB 8 a != 0) = true := by simpa using q3
    simp only [vmr, vmw, vmp, vza, ↓reduceIte, Nat.reduceBEq, Nat.reduceLT, Nat.reduceAdd, Nat.reduceEqDiff, reduceCtorEq, vmt, vzb, vzc, vlen, vleaf, velems, oks, vst, vmd, ty, Nat.reduceLeDiff, Nat.reduceMul, Nat.reduceSub, vzr, m705, e1, e2, e3, e0, q1', q2', q3']
  rw [q3] at e3
  by_cases q4 : errB 8 b = 0
  case neg =>
    have q4' : (errB 8 b != 0) = true := by simpa using q4
    simp only [vmr, vmw, vmp, vza, ↓reduceIte, Nat.reduceBEq, Nat.reduceLT, Nat.reduceAdd, Nat.reduceEqDiff, reduceCtorEq, vmt, vzb, vzc, vlen, vleaf, velems, oks, vst, vmd, ty, Nat.reduceLeDiff, Nat.reduceMul, Nat.reduceSub, vzr, m705, e1, e2, e3, e4, e0, q1', q2', n0, q4']
  rw [q4] at e4
  have fa := (errB_iff.1 q3).2.2
  have fb := (errB_iff.1 q4).2.2
  have e5 := F18_eq (a := a) (b := b) (by omega) (by omega) ho ho'
  have e6 := F18_eq (a := b) (b := a) (by omega) (by omega) ho' ho
  have e7 := F19_eq (e := a) (n := n) (by omega) (by omega) ho
  have e8 := F19_eq (e := b) (n := n) (by omega) (by omega) ho'
  rw [frV19, if_pos q3] at e7
  rw [frV19, if_pos q4] at e8
  obtain ⟨ra1, ra2⟩ := @frE_right n a (by omega) q3
  obtain ⟨_, va, _⟩ := fr_names q3
  have e9 : F312 [Ts (frE a n), Ts (frE b n)] = some (.bool (eqB (frE a n) (frE b n))) := F312_eq (by omega)
  have lfr := @frL_ok (varL a) n (by omega)
  have tfr : txs (frE a n) := txs_un (fun p hp => (lfr p hp).2) a ho
  have e12 := F18_eq (a := a) (b := frE a n) (by omega) (by omega) ho tfr
  have hre : ∀ x y : List Tm, errB 8 x = 0 → errB 8 y = 0 → reB x y = reL [] x y := fun x y hx hy => by unfold reB; rw [if_pos ⟨hx, hy⟩]
  rw [hre a (frE a n) q3 ra1, re_fr n fa] at e12
  have e12' : F18 [Ts a, Ts (frE a n)] = some (.tup [Bs (frL (varL a) n), .bool true]) := by rw [e12, reO, frR_b]
  have e13 := F20_eq (a := frL (varL a) n) (b := frL (varL a) n) (by rw [frL_len]; omega) (fun p hp => by rw [(lfr p hp).1]; omega)
  rw [alB_self] at e13
  rw [hre a b q3 q4] at e5
  rw [hre b a q4 q3] at e6
  have i1 := re_iff n fa fb
  have i2 := re_iff n fb fa
  rw [eqB_comm] at i2
  have w1 : IntKind.i64.wrap (n : Int) = n := by rw [wrap_id] <;> omega
  have ht := fun w => @re_to a b w q3 q4
  have hap := fun w => @reL_app [] a b w fa fb
  have hln := fun w => @re_len a b w fa fb
  cases hab : reL [] a b with
  | none =>
    rw [hab] at e5 i1
    rw [← i1] at i2 e9
    cases hba : reL [] b a with
    | some w2 => rw [hba] at i2; cases i2
    | none =>
      rw [hba] at e6
      simp only [reO] at e5 e6
      simp only [Option.isSome_none] at e9
      simp only [vmr, vmw, vmp, vza, ↓reduceIte, Nat.reduceBEq, Nat.reduceLT, Nat.reduceAdd, Nat.reduceEqDiff, reduceCtorEq, vmt, vzb, vzc, vlen, vleaf, velems, oks, vst, vmd, ty, Nat.reduceLeDiff, Nat.reduceMul, Nat.reduceSub, vzr, m705, e1, e2, e3, e4, e0, q1', q2', n0, e5, e6, e7, e8, e9, e12', e13, w1, nf, nt]
  | some w =>
    rw [hab] at e5 i1
    rw [← i1] at i2 e9
    cases hba : reL [] b a with
    | none => rw [hba] at i2; cases i2
    | some w2 =>
      rw [hba] at e6
      obtain ⟨r, hr, hok⟩ := hap w hab
      rw [List.nil_append] at hr
      subst hr
      have hb2 : bnsOk (w.map Rp.b) := ⟨by rw [List.length_map]; have := (hln w hab).2; omega, fun p hp => by obtain ⟨q, hq, rfl⟩ := List.mem_map.1 hp; exact rn_bok (hok q hq)⟩
      have e10 := Fto_eq (e := a) (l := w.map Rp.b) (by omega) ho hb2
      rw [ht w hab] at e10
      have e10' : Fto [Ts a, Bs (w.map Rp.b)] = some (.tup [Ts b, I 0]) := e10
      have e11 := F312_eq (a := b) (b := b) (by omega)
      rw [eqB_self] at e11
      simp only [reO] at e5 e6
      simp only [Option.isSome_some] at e9
      simp only [vmr, vmw, vmp, vza, ↓reduceIte, Nat.reduceBEq, Nat.reduceLT, Nat.reduceAdd, Nat.reduceEqDiff, reduceCtorEq, vmt, vzb, vzc, vlen, vleaf, velems, oks, vst, vmd, ty, Nat.reduceLeDiff, Nat.reduceMul, Nat.reduceSub, vzr, m705, e1, e2, e3, e4, e0, q1', q2', n0, e5, e6, e7, e8, e9, e10', e11, e12', e13, w1, nf, nt]
end Go.Vi
set_option maxRecDepth 100000
namespace Go.Vi
open Go Go.Proofs Go.ChangeShapes Go.WideShapes Go.ChangeAt Go.RowKit

theorem own0 : ownKnob Tryd.prog.godebug = none := by kernel_rfl
theorem kids0 : Kids Tryd.prog (· < Tryd.prog.types.size) := kids_rows (by kernel_rfl) (by kernel_rfl)
theorem full0 : ∀ t e, t < Tryd.prog.types.size → Tryd.prog.underlying t = some (.slice e) → 0 < Tryd.prog.cellsOf e := slices_full_of Tryd.prog (by kernel_rfl)
theorem reach15 {n : Nat} (h : n ≤ reachBytes) : n ≤ 1000000000000000 := by unfold reachBytes at h; omega
theorem OpS.map {α β : Type} {P : Program} {t : TypeId} {f : α → V} {ok : α → Prop} {m : Nat} (h : OpS P t f ok m) (g : α → β) {f' : β → V} {ok' : β → Prop} (e : ∀ a, f' (g a) = f a) (o : ∀ a, ok a → ok' (g a)) : OpS P t f' ok' m := fun hx hz =>
  let ⟨a, ha, hao⟩ := h hx hz
  ⟨g a, by rw [e]; exact ha, o a hao⟩
theorem cells35 : Tryd.prog.cellsOf 35 = 3 := by kernel_rfl
theorem len_tv (t : Tm) : (cellsV (tv t)).length = Tryd.prog.cellsOf 35 := by cases t; rw [tv_mk, cells35]; rfl
theorem opT : ∀ m, OpS Tryd.prog 35 tv txt1 m ∧ OpS Tryd.prog 22 (fun l : List Tm => V.lst (l.map tv)) txs m := by
  intro m
  induction m using Nat.strongRecOn with
  | ind m IH =>
  refine ⟨?_, ?_⟩
  · refine OpS.map (opS_struct Tryd.underlying35 (fun n hn => opSF_cons rfl (opS_int Tryd.underlying3) (opSF_cons (by kernel_rfl) (opS_str Tryd.underlying9) (opSF_cons (by kernel_rfl) (IH n hn).2 opSF_nil))) (by kernel_rfl)) (fun b => Tm.mk b.1 b.2.1 b.2.2.1) (fun b => ?_) (fun b h => ?_)
    · rw [tv_mk]; rfl
    · exact ⟨reach15 h.2.1, h.2.2.1⟩
  · exact OpS.map (opS_slice Tryd.underlying22 (fun n hn => (IH n hn).1) len_tv (by rw [cells35]; decide)) id (fun _ => rfl) (fun l h => txs_of h)
theorem argT {H : Type} {enc : TypeId × Value → H} {w : World} {base : Nat} {v : Value} {d : DataW H} {p : List MemPlace} (hv : Value.okWide Tryd.prog w .any base 22 v) (h : DataW.Trod enc Tryd.prog w 0 (fun _ => true) true 22 v d p) (hz : ∀ n ∈ d.weights Tryd.prog 22, n ≤ reachBytes) : ∃ l : List Tm, PC w (oldB w) (Ts l) v ∧ txs l :=
  argS_slice Tryd.underlying22 (fun m => (opT m).2) hv h hz
theorem sized_at {H : Type} {ts : List TypeId} {ds : List (DataW H)} (h : (DataW.weightsEach Tryd.prog ts ds).all (· ≤ reachBytes) = true) {j : Nat} {t : TypeId} {d : DataW H} (ht : ts[j]? = some t) (hd : ds[j]? = some d) : ∀ n ∈ d.weights Tryd.prog t, n ≤ reachBytes := fun n hn => by
  have := List.all_eq_true.1 h n (DataW.weights_mem_each ht hd n hn)
  simpa using this
end Go.Vi
set_option maxRecDepth 100000
namespace Go.Vi
open Go Go.Proofs Go.ChangeShapes Go.WideShapes Go.ChangeAt Go.RowKit

theorem arg_int2 {H : Type} {enc : TypeId × Value → H} {P : Program} {t : TypeId} {k : IntKind} {w : World} {base : Nat} {v : Value} {d : DataW H} {p : List MemPlace} (ht : P.underlying t = some (.int k)) (hv : Value.okWide P w .any base t v) (h : DataW.Trod enc P w 0 (fun _ => true) true t v d p) :
    ∃ n, PC w (oldB w) (.int k n) v ∧ k.min ≤ n ∧ n ≤ k.max := by
  obtain ⟨n, rfl, _, _, hw⟩ := open_int ht hv h
  simp only [Lit.wf, Bool.and_eq_true, decide_eq_true_eq] at hw
  exact ⟨n, by simp [PC], hw.1, hw.2⟩
theorem tab_of_vars {P : Program} {W : World} {name : String} {k : IntKind} {zs : List Int} {rest : List (String × DataW Unit)} {ps : List MemPlace} {g : Nat} {t e : TypeId} {n : Nat}
    (hg : P.globalNamed name = some g) (hty : (P.globals[g]?).map (·.type) = some t) (ht : P.underlying t = some (.array n e)) (he : P.underlying e = some (.int k)) (hce : P.cellsOf e = 1) (hct : P.cellsOf t = n)
    (h : DataW.LaidVars P W ((name, Lib.tabData k zs) :: rest) ps) : Lib.TabIs P W name k zs := by
  obtain ⟨g', t', cs, fuel, p, q, hg', ht', hvar, hd, _, _⟩ := h
  obtain rfl := Option.some.inj (hg.symm.trans hg')
  obtain rfl := Option.some.inj (hty.symm.trans ht')
  unfold Lib.TabIs
  rw [hvar, ← Lib.cells_of_tab ht he hce hct hd]
theorem vars_tail {P : Program} {W : World} {x : String × DataW Unit} {rest : List (String × DataW Unit)} {ps : List MemPlace} (h : DataW.LaidVars P W (x :: rest) ps) : ∃ q, DataW.LaidVars P W rest q := by
  obtain ⟨n, d⟩ := x
  obtain ⟨g', t', cs, fuel, p, q, hg', ht', hvar, hd, hq, _⟩ := h
  exact ⟨q, hq⟩
theorem JA_of {W : World} (h : laidMet Tryd.prog YtpibnnopnhmijaaDoor.Rows.applyRenamesRow.laid W) : JA W (oldB W) := by
  obtain ⟨ps, hv, _⟩ := h
  obtain ⟨ps, hv⟩ := vars_tail hv
  obtain ⟨ps, hv⟩ := vars_tail hv
  have ht := tab_of_vars (t := 154) (g := 1) (zs := Lib.pow10Tab) (k := .u64) (e := 141) (n := 20) global1 (by kernel_rfl) (by kernel_rfl) (by kernel_rfl) (by kernel_rfl) (by kernel_rfl) hv
  unfold Lib.TabIs World.var? at ht
  rw [global1] at ht
  simp only [Option.bind_some] at ht
  split at ht
  · rename_i cs t f hc
    injection ht with ht
    subst ht
    intro q hq
    obtain rfl : q = _ := List.mem_singleton.1 hq
    refine ⟨?_, _, _, _, hc, rfl⟩
    exact (Array.getElem?_eq_some_iff.1 hc).1
  · cases ht
theorem contract5 (H : Type) (enc : TypeId × Value → H) (W : World) (base : Nat) (args : Array Value) (ds gs : List (DataW H)) (before : List MemPlace)
    (hval : ∀ (j : Nat) t v, Tryd.f5.params[j]? = some t → args[j]? = some v → Value.okWide Tryd.prog W .any base t v)
    (hW : DataW.Whole enc Tryd.prog Tryd.f5.params.toList YtpibnnopnhmijaaDoor.Rows.applyRenamesSpec.vars false W args.toList ds gs before)
    (hsz : (DataW.weightsEach Tryd.prog (Tryd.f5.params.toList ++ (OpenSpec.ofChange YtpibnnopnhmijaaDoor.Rows.applyRenamesSpec).bare.plain.varTypes Tryd.prog) (ds ++ gs)).all (· ≤ reachBytes) = true) (hL : laidMet Tryd.prog YtpibnnopnhmijaaDoor.Rows.applyRenamesRow.laid W) :
    Calls Tryd.prog 5 args W fun e W' => ∃ v, e = .returned v ∧ YtpibnnopnhmijaaDoor.Rows.applyRenamesSpec.post enc Tryd.prog Tryd.f5 false true false false W args v W' := by
  have hW' := hW
  obtain ⟨p, q, hA0, hV, rfl, hfz, hnd⟩ := hW
  have hA : DataW.TrodAll enc Tryd.prog W 0 (fun _ => true) true Tryd.f5.params.toList args.toList ds p := hA0
  rw [Tryd.params5] at hA hval hsz
  obtain ⟨v0, vs0, d0, ds0, p0, q0, e0, rfl, rfl, h0, hA⟩ := trodAll_cons hA
  obtain ⟨v1, vs1, d1, ds1, p1, q1, rfl, rfl, rfl, h1, hA⟩ := trodAll_cons hA
  obtain ⟨v2, vs2, d2, ds2, p2, q2, rfl, rfl, rfl, h2, hA⟩ := trodAll_cons hA
  obtain ⟨rfl, rfl, rfl⟩ := trodAll_nil hA
  obtain rfl : args = #[v0, v1, v2] := by cases args; simp_all
  obtain ⟨rfl, rfl⟩ := trodVars_none hV
  obtain ⟨x, hx, hxo⟩ := argT (hval 0 22 v0 rfl rfl) h0 (sized_at hsz (j := 0) rfl rfl)
  obtain ⟨y, hy, hyo⟩ := argT (hval 1 22 v1 rfl rfl) h1 (sized_at hsz (j := 1) rfl rfl)
  obtain ⟨z, hz, hza, hzb⟩ := arg_int2 Tryd.underlying37 (hval 2 37 v2 rfl rfl) h2
  have k2 : IntKind.u16.min = 0 ∧ IntKind.u16.max = 65535 := by decide
  obtain ⟨n, rfl⟩ : ∃ n : Nat, z = n := ⟨z.toNat, by omega⟩
  refine (w5 x y n (by omega) hxo hyo W (oldB W) #[v0, v1, v2] (JA_of hL) (fun _ h => h) ?_).mono fun e W' he => ?_
  · simp only [PCs]
    exact ⟨_, _, rfl, hx, _, _, rfl, hy, _, _, rfl, hz, rfl⟩
  · exact law_post kids0 full0 (by rw [Tryd.params5]; decide +kernel) rfl (by kernel_rfl) Tryd.underlying4 hW' rfl he
def lit1 : DataW Unit → List Value
  | .lit (.int k n) => [.int k n]
  | _ => []
def lits : DataW Unit → Array Value
  | .agg ds => (ds.flatMap lit1).toArray
  | _ => #[]
def setCells (cs : Array Value) : Go.Obj → Go.Obj
  | .cells _ t frozen => .cells cs t frozen
  | o => o
noncomputable def heap0 (os : Os) : Array Go.Obj := (World.holding Tryd.prog os ⟨#[], #[], []⟩).heap
noncomputable def laidWorld (os : Os) : World :=
  { World.holding Tryd.prog os ⟨#[], #[], []⟩ with
    heap := (((heap0 os).modify 1 (setCells (lits YtpibnnopnhmijaaDoor.Rows.laid_internal_strconv_uint64pow10))).modify 2 (setCells (lits YtpibnnopnhmijaaDoor.Rows.laid_math_bits_deBruijn32tab))).modify 3 (setCells (lits YtpibnnopnhmijaaDoor.Rows.laid_math_bits_deBruijn64tab)) }
theorem laid_met (os : Os) : laidMet Tryd.prog YtpibnnopnhmijaaDoor.Rows.applyRenamesRow.laid ((laidWorld os).forCall (fun _ _ => 0) ⟨#[], #[.slice none 0 0, .slice none 0 0, .int .u16 0], []⟩).memory :=
  laidMet_of_run' 8 (by kernel_rfl) (by kernel_rfl)
theorem reads (os : Os) {H : Type} (enc : TypeId × Value → H) : ∃ places, DataW.whole enc Tryd.prog ((laidWorld os).forCall (fun _ _ => 0) ⟨#[], #[.slice none 0 0, .slice none 0 0, .int .u16 0], []⟩).memory Tryd.f5.params.toList YtpibnnopnhmijaaDoor.Rows.applyRenamesSpec.vars false #[Value.slice none 0 0, Value.slice none 0 0, Value.int .u16 0].toList 8 = some ([.nil, .nil, .lit (.int .u16 0)], [], places) :=
  ⟨[], by kernel_rfl⟩
set_option maxRecDepth 100000 in
theorem lifted5 (os : Os) (started : os.Started) (H : Type) (enc : TypeId × Value → H) (F : Stop.Interp) :
    ReturnsInHanded {} Tryd.checked os 5 .any ((OpenSpec.ofChange YtpibnnopnhmijaaDoor.Rows.applyRenamesSpec).preRow enc Tryd.prog Tryd.f5 YtpibnnopnhmijaaDoor.Rows.applyRenamesRow.domain false YtpibnnopnhmijaaDoor.Rows.applyRenamesRow.laid) (((OpenSpec.ofChange YtpibnnopnhmijaaDoor.Rows.applyRenamesSpec).at F).post enc Tryd.prog Tryd.f5 false true false false) := by
  obtain ⟨places, hx⟩ := reads os enc
  refine returnsInHanded_of_row (C := Tryd.checked) (s := OpenSpec.ofChange YtpibnnopnhmijaaDoor.Rows.applyRenamesSpec) own0 started (by kernel_rfl) Tryd.func5
    (witness_row_at (enc := enc) (C := Tryd.checked) false (laidWorld os) #[.slice none 0 0, .slice none 0 0, .int .u16 0] rfl (by kernel_rfl) (by kernel_rfl) (by kernel_rfl)
      (OpenSpec.preRow_of_cond 8 hx (by kernel_rfl) (fun k hk => by cases hk) (by kernel_rfl) (laid_met os))) ?_
  intro W base args ds gs before hval hW _ _ hsz hL _ _
  exact contract5 H enc W base args ds gs before hval hW hsz hL
end Go.Vi
namespace Go.Proofs.YtpibnnopnhmijaaDoor
open Go.Vi
theorem said5 : Rows.ApplyRenamesSaid :=
  OpenClaim.holds_of_cond 5 Tryd.f5 rfl rfl rfl rfl rfl rfl rfl ⟨rfl, rfl, rfl, rfl, rfl⟩ rfl rfl rfl rfl rfl (by kernel_rfl) Tryd.func5 (by kernel_rfl)
    (of_decide_eq_true (by kernel_rfl)) (by unfold Func.isWrapper; first | (rw [if_pos (by decide +kernel)]; kernel_rfl) | (rw [if_neg (by decide +kernel)]; exact ⟨rfl, rfl⟩))
    (fun os started H enc _ F => by rw [OpenClaim.pre_eq_preRow]; exact lifted5 os started H enc F)
theorem plain5 (f : FuncId) (fn : Func) (hf : Tryd.pinned.checked.prog.funcNamed "chiasmus/chiasmuslaw07.ApplyRenames" = some f) (hfn : Tryd.pinned.checked.prog.funcs[f]? = some fn) :
    false = Tryd.pinned.checked.prog.looks [] ∧ ∀ (j : Nat) t, fn.params[j]? = some t → Tryd.pinned.checked.prog.wantsStandIn t = false := by
  obtain rfl : f = 5 := Option.some.inj ((show Tryd.prog.funcNamed "chiasmus/chiasmuslaw07.ApplyRenames" = some 5 by kernel_rfl).symm.trans hf) |>.symm
  obtain rfl : fn = Tryd.f5 := (Option.some.inj (Tryd.func5.symm.trans hfn)).symm
  refine ⟨by kernel_rfl, fun j t ht => ?_⟩
  rw [Tryd.params5] at ht
  have hm : t = 22 ∨ t = 37 := by
    have := Array.mem_of_getElem? ht
    simp at this
    omega
  rcases hm with rfl | rfl
  · exact (show Tryd.prog.wantsStandIn 22 = false by kernel_rfl)
  · exact (show Tryd.prog.wantsStandIn 37 = false by kernel_rfl)
theorem applyRenames_holds : Rows.ApplyRenamesCardSaid :=
  Claim7.holds_tied_plain_at .later [] _ _ _ _ said5 (fun _ h => by cases h) (by kernel_rfl) (fun _ h => by cases h) applyRenames_row_tie rfl ⟨rfl, rfl⟩ (by kernel_rfl) rfl plain5 (by kernel_rfl)
#print axioms applyRenames_holds
end Go.Proofs.YtpibnnopnhmijaaDoor
