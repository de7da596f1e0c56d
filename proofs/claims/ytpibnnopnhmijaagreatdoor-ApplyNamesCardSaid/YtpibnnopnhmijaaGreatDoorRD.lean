/-
  Walks of slices.Clone of terms, term.Copy.
-/
import Derived.Test.YtpibnnopnhmijaaGreatDoorRC
import Derived.Tactics
import Derived.Tactics2
set_option linter.unusedSimpArgs false
set_option linter.unusedVariables false
set_option maxRecDepth 100000
set_option maxHeartbeats 1000000
namespace Go.Vi
open Go Go.Proofs Go.RowKit
theorem w73e : SoundPure Tryz.prog 73 [.lst []] (.ret (.lst [])) := by
  intro w A cs hJ hA hp
  simp only [PCs, PC] at hp
  obtain ⟨c, d, hcs, ⟨ao, cap, rfl, h1, h2, _⟩, rfl⟩ := hp
  simp only [List.length_nil] at hcs h1
  obtain rfl : cs = #[.slice ao 0 cap] := by cases cs; simp_all
  have fin : ∀ e w', (∃ ao cap, e = Ending.returned (.slice ao 0 cap) ∧ cap ≤ 9223372036854775807) ∧ Below w.heap.size w w' → PureOut w A (.ret (.lst [])) e w' := by
    rintro e w' ⟨⟨ao, cap, rfl, h2⟩, hb⟩
    refine ⟨A, ⟨hb.size, hb.os, hb.tape, hb.output, fun b hb' _ => hb.block b hb', fun _ _ _ => rfl, Nat.le_refl _, fun _ h => h, fun _ h => .inl h, fun _ h => .inl h⟩, fun b hb' => Nat.lt_of_lt_of_le (hA b hb') hb.size, _, [], rfl, ?_, fun i hi => (by cases hi), List.Pairwise.nil⟩
    simp only [RC, IC, PC]
    exact ⟨trivial, ao, cap, rfl, Nat.zero_le _, h2, fun h => absurd rfl h⟩
  refine (?_ : Calls Tryz.prog 73 #[.slice ao 0 cap] w fun e w' => (∃ ao cap, e = Ending.returned (.slice ao 0 cap) ∧ cap ≤ 9223372036854775807) ∧ Below w.heap.size w w').mono fin
  have ht : Tryz.prog.underlying 22 = some (.slice 52) := Tryz.underlying22
  have hrun : (Op.equal 22 (.slice ao 0 cap) (.slice none 0 0)).run Tryz.prog w = .ok ao.isNone w := by
    unfold Op.equal Op.maxDepth
    rw [show (10000 : Nat) = 9999 + 1 from rfl]
    unfold Op.equalIn
    simp only [Sem.run_bind, run_underlying ht, Result.andThen_ok]
    cases ao <;> simp
  have hb : (binOp .eql 22 (.slice ao 0 cap) (.slice none 0 0)).run Tryz.prog w = .ok (.bool ao.isNone) w := by simp [binOp, hrun]
  go_enter Tryz.func73, Tryz.ntmps73
  cases ao with
  | none =>
    go_wp2
    go_ret
    exact ⟨⟨none, 0, rfl, by omega⟩, Below.refl _ w⟩
  | some a =>
    go_wp2
    go_ret
    exact ⟨⟨_, _, rfl, by omega⟩, (Below.refl _ w).alloc (Nat.le_refl _) _⟩
theorem w73 (a : List Tm) (hn : a ≠ []) (hb : a.length ≤ 1000000) : SoundPure Tryz.prog 73 [Ts a] (.ret (.own 3 (a.map tv))) := by
  cases a with
  | nil => exact absurd rfl hn
  | cons x l =>
    refine s773 (H := []) sound_nil 5 (by simp) rfl ?_
    simp only [List.length_cons] at hb
    have hr := @room35 (l.length + 1) (by omega)
    have hr0 := @room35 0 (by omega)
    have hf := fits35 x
    have hf2 := fits35s l
    simp only [vmr, vmw, vmp, vza, ↓reduceIte, Nat.reduceBEq, Nat.reduceLT, Nat.reduceAdd, Nat.reduceEqDiff, reduceCtorEq, vmt, vzb, vzc, vlen, vleaf, velems, oks, vst, vmd, ty, Nat.reduceLeDiff, Nat.reduceMul, Nat.reduceSub, vzr, c773, Tryz.f73, m773, List.map_cons, hr, hr0, hf, hf2, take_len]
def cloV (l : List Tm) : V := if l.isEmpty = true then .lst [] else .own 3 (l.map tv)
noncomputable def F73 : List V → Option V := hF (α := List Tm) (fun p => [Ts p]) (fun p => p.length ≤ 1000000) cloV
theorem F73_eq {a : List Tm} (h : a.length ≤ 1000000) : F73 [Ts a] = some (cloV a) := hF_eq (a := a) (one_inj' fun _ _ => Ts_inj) (by simp only [cans, can_Ts]) h
theorem F73_sound : ∀ args v, F73 args = some v → SoundPure Tryz.prog 73 args (.ret v) := hF_sound fun p hp => by
  cases p with
  | nil => exact w73e
  | cons x r => exact w73 (x :: r) (by simp) hp
theorem set_same {α : Type} {l : List α} {i : Nat} {x : α} (h : l[i]? = some x) : l.set i x = l := by
  obtain ⟨hi, h⟩ := List.getElem?_eq_some_iff.1 h
  rw [← h]
  exact List.set_getElem_self hi
noncomputable def F48 (m : Nat) : List V → Option V := hF (α := List Tm) (fun p => [Ts p]) (fun p => szs p < m ∧ szs p ≤ 1000000) (fun p => Ts p)
theorem F48_eq {m : Nat} {a : List Tm} (h : szs a < m) (hb : szs a ≤ 1000000) : F48 m [Ts a] = some (Ts a) := hF_eq (a := a) (one_inj' fun _ _ => Ts_inj) (by simp only [cans, can_Ts]) ⟨h, hb⟩
noncomputable abbrev T748 (m : Nat) : List (FuncId × (List V → Option V)) := [(42, F48 m), (73, F73)]
def P748 (m n : Nat) (v : V) (r : Option (Ex × St)) : Prop := Fin (M748 (hand (T748 m)) n) [.tmp 2] r = some (.ret v)
theorem l748 {m n k v v3} (a : List Tm) (hm : szs a ≤ m) (hb : szs a ≤ 1000000) : ∀ r i n' s, a.drop i = r → r.length < n' → tget s.τ 3 = .ref ⟨0, 3, 0⟩ v3 0 a.length → lget s.L (3, 0) = some (v3, .arr 3 (a.map tv)) → tget s.τ 8 = I a.length → tget s.τ 9 = I (i : Nat) →
    (∀ s', tget s'.τ 3 = .ref ⟨0, 3, 0⟩ v3 0 a.length → lget s'.L (3, 0) = some (v3, .arr 3 (a.map tv)) → P748 m n v (X (M748 (hand (T748 m)) n) (.exit 0) k s')) →
    P748 m n v (L (M748 (hand (T748 m)) n) (sub [1, 1, 0, 1, 0, 0] c748) n' k s)
  | [], i, n' + 1, s, hi, hn, h3, h3', h8, h9, hx => by
    have hc := inlt (drop_nil' hi)
    rw [L_succ]
    simp only [vmr, vmw, vmp, vza, ↓reduceIte, Nat.reduceBEq, Nat.reduceLT, Nat.reduceAdd, Nat.reduceEqDiff, reduceCtorEq, vmt, vzb, vzc, vlen, vleaf, velems, oks, vst, vmd, ty, Nat.reduceLeDiff, Nat.reduceMul, Nat.reduceSub, c748, Tryz.f42, m748, h8, h9, hc]
    refine hx _ ?_ ?_
    all_goals simp only [vmr, vmw, vmp, vza, ↓reduceIte, Nat.reduceBEq, Nat.reduceLT, Nat.reduceAdd, Nat.reduceEqDiff, reduceCtorEq, vmt, vzb, vzc, vlen, vleaf, velems, oks, vst, vmd, ty, Nat.reduceLeDiff, Nat.reduceMul, Nat.reduceSub, m748, h3, h3']
  | .mk k1 s1 c1 :: r, i, n' + 1, s, hi, hn, h3, h3', h8, h9, hx => by
    obtain ⟨g1, g2, g3⟩ := drop_cons hi
    have hcl := ilt g3
    have ga : (a.map tv)[i]? = some (.agg [I k1, .str s1, Ts c1]) := by rw [List.getElem?_map, g1, Option.map_some, tv_mk]
    have hs := szs_mem (l := a) (List.mem_of_getElem? g1)
    have hla := szs_len a
    have w4 := wsuc g3 (by omega)
    have e := F48_eq (m := m) (a := c1) (by omega) (by omega)
    have hset := set_same ga
    have ih := fun s => l748 (m := m) (n := n) (k := k) (v := v) (v3 := v3) a hm hb r (i + 1) n' s g2 (by simp at hn; omega)
    simp only [sub, c748, Tryz.f42, gets] at ih
    have hcl2 : (i < a.length) = True := eq_true g3
    rw [L_succ]
    simp only [vmr, vmw, vmp, vza, ↓reduceIte, Nat.reduceBEq, Nat.reduceLT, Nat.reduceAdd, Nat.reduceEqDiff, reduceCtorEq, vmt, vzb, vzc, vlen, vleaf, velems, oks, vst, vmd, ty, Nat.reduceLeDiff, Nat.reduceMul, Nat.reduceSub, c748, Tryz.f42, m748, h3, h3', h8, h9, hcl, ga, e, w4, hset, hcl2]
    refine ih _ ?_ ?_ ?_ ?_ hx
    all_goals simp only [vmr, vmw, vmp, vza, ↓reduceIte, Nat.reduceBEq, Nat.reduceLT, Nat.reduceAdd, Nat.reduceEqDiff, reduceCtorEq, vmt, vzb, vzc, vlen, vleaf, velems, oks, vst, vmd, ty, Nat.reduceLeDiff, Nat.reduceMul, Nat.reduceSub, m748, h3, h3', h8]
theorem w48e (a : List Tm) (hb : szs a ≤ 1000000) (IH : ∀ c, szs c < szs a → SoundPure Tryz.prog 42 [Ts c] (.ret (Ts c))) : SoundPure Tryz.prog 42 [Ts a] (.ret (cloV a)) := by
  have hH : SoundHand Tryz.prog (hand (T748 (szs a))) := sound_cons (hF_sound fun p hp => IH p hp.1) (sound_cons F73_sound sound_nil)
  have hla := szs_len a
  refine s748 hH (a.length + 1) (by simp) (by show pureR (cloV a) = true; unfold cloV; split <;> simp only [pureR, pureLT]) ?_
  show P748 (szs a) _ _ _
  have e := F73_eq (a := a) (by omega)
  cases a with
  | nil =>
    simp only [cloV, List.isEmpty_nil, if_true] at e
    simp only [c748, Tryz.f42, gets, sub]
    simp only [vmr, vmw, vmp, vza, ↓reduceIte, Nat.reduceBEq, Nat.reduceLT, Nat.reduceAdd, Nat.reduceEqDiff, reduceCtorEq, vmt, vzb, vzc, vlen, vleaf, velems, oks, vst, vmd, ty, Nat.reduceLeDiff, Nat.reduceMul, Nat.reduceSub, m748, e]
    rw [L_succ]
    simp only [vmr, vmw, vmp, vza, ↓reduceIte, Nat.reduceBEq, Nat.reduceLT, Nat.reduceAdd, Nat.reduceEqDiff, reduceCtorEq, vmt, vzb, vzc, vlen, vleaf, velems, oks, vst, vmd, ty, Nat.reduceLeDiff, Nat.reduceMul, Nat.reduceSub, m748, show ((0 : Int) < 0) = False from eq_false (by decide)]
    unfold P748
    simp only [vmr, vmw, vmp, vza, ↓reduceIte, Nat.reduceBEq, Nat.reduceLT, Nat.reduceAdd, Nat.reduceEqDiff, reduceCtorEq, vmt, vzb, vzc, vlen, vleaf, velems, oks, vst, vmd, ty, Nat.reduceLeDiff, Nat.reduceMul, Nat.reduceSub, vzr, m748, cloV, List.isEmpty_nil]
  | cons x r =>
    generalize ha : x :: r = a at *
    have e' : F73 [Ts a] = some (.own 3 (a.map tv)) := by rw [e]; unfold cloV; rw [if_neg (by rw [← ha]; simp)]
    have a1 := fun v3 k s => @l748 (szs a) (a.length + 1) k (.own 3 (a.map tv)) v3 a (Nat.le_refl _) hb a 0 (a.length + 1) s rfl (by omega)
    simp only [c748, Tryz.f42, gets, sub] at a1 ⊢
    simp only [vmr, vmw, vmp, vza, ↓reduceIte, Nat.reduceBEq, Nat.reduceLT, Nat.reduceAdd, Nat.reduceEqDiff, reduceCtorEq, vmt, vzb, vzc, vlen, vleaf, velems, oks, vst, vmd, ty, Nat.reduceLeDiff, Nat.reduceMul, Nat.reduceSub, m748, e']
    rw [show cloV a = .own 3 (a.map tv) by unfold cloV; rw [if_neg (by rw [← ha]; simp)]]
    refine a1 1 _ _ ?_ ?_ ?_ ?_ (fun s' h3 h3' => ?_)
    case refine_5 =>
      simp only [vmr, vmw, vmp, vza, ↓reduceIte, Nat.reduceBEq, Nat.reduceLT, Nat.reduceAdd, Nat.reduceEqDiff, reduceCtorEq, vmt, vzb, vzc, vlen, vleaf, velems, oks, vst, vmd, ty, Nat.reduceLeDiff, Nat.reduceMul, Nat.reduceSub, m748, h3, h3']
      unfold P748
      simp only [vmr, vmw, vmp, vza, ↓reduceIte, Nat.reduceBEq, Nat.reduceLT, Nat.reduceAdd, Nat.reduceEqDiff, reduceCtorEq, vmt, vzb, vzc, vlen, vleaf, velems, oks, vst, vmd, ty, Nat.reduceLeDiff, Nat.reduceMul, Nat.reduceSub, vzr, m748, h3', take_len]
    all_goals simp only [vmr, vmw, vmp, vza, ↓reduceIte, Nat.reduceBEq, Nat.reduceLT, Nat.reduceAdd, Nat.reduceEqDiff, reduceCtorEq, vmt, vzb, vzc, vlen, vleaf, velems, oks, vst, vmd, ty, Nat.reduceLeDiff, Nat.reduceMul, Nat.reduceSub, m748]
theorem clo_imm (a : List Tm) : can (imm (cloV a)) = Ts a := by
  unfold cloV
  split
  · rename_i h
    have : a = [] := by simpa using h
    subst this
    rfl
  · rw [show imm (.own 3 (a.map tv)) = V.lst (a.map tv) by simp only [imm, imms_map imm_tv], can_Ts]
theorem w48 : ∀ (m : Nat) (a : List Tm), szs a ≤ m → szs a ≤ 1000000 → SoundPure Tryz.prog 42 [Ts a] (.ret (Ts a)) := by
  intro m
  induction m using Nat.strongRecOn with
  | ind m IH =>
  intro a hm hb
  have := sound_imm (w48e a hb (fun c hc => IH (szs c) (by omega) c (Nat.le_refl _) (by omega))) (by unfold cloV; split <;> simp only [pureR, pureLT])
  rw [clo_imm] at this
  exact this
noncomputable def Fcopy : List V → Option V := hF (α := List Tm) (fun p => [Ts p]) (fun p => szs p ≤ 1000000) (fun p => Ts p)
theorem Fcopy_eq {a : List Tm} (hb : szs a ≤ 1000000) : Fcopy [Ts a] = some (Ts a) := hF_eq (a := a) (one_inj' fun _ _ => Ts_inj) (by simp only [cans, can_Ts]) hb
theorem F48_sound : ∀ args v, Fcopy args = some v → SoundPure Tryz.prog 42 args (.ret v) := hF_sound fun p hp => w48 _ p (Nat.le_refl _) hp
end Go.Vi
set_option maxRecDepth 100000
set_option maxHeartbeats 1000000
namespace Go.Vi
open Go Go.Proofs
theorem wrap_suc (n : Int) : IntKind.i64.wrap (IntKind.i64.wrap n + 1) = IntKind.i64.wrap (n + 1) := by
  have e1 : (2:Int) ^ (IntKind.i64.bits - 1) = 9223372036854775808 := by decide
  have e2 : (2:Int) ^ IntKind.i64.bits = 18446744073709551616 := by decide
  have e3 : IntKind.i64.signed = true := rfl
  simp only [IntKind.wrap, e1, e2, e3, Bool.true_and, decide_eq_true_eq]
  split <;> split <;> split <;> omega
def cnt0 (n : Nat) (_ : Tm) : Bool × Nat := (true, n + 1)
mutual
theorem cnt0_T : ∀ (t : Tm) (n : Nat), visT cnt0 n t = (true, n + szt t)
  | .mk k s c, n => by
    rw [szt]
    simp only [visT, cnt0]
    rw [cnt0_L c (n + 1), show n + 1 + szs c = n + (szs c + 1) by omega]
theorem cnt0_L : ∀ (l : List Tm) (n : Nat), visL cnt0 n l = (true, n + szs l)
  | [], n => by rw [szs, Nat.add_zero]; rfl
  | t :: r, n => by
    rw [szs]
    simp only [visL]
    rw [cnt0_T t n]
    dsimp only
    rw [cnt0_L r _, show n + szt t + szs r = n + (szt t + szs r) by omega]
end
noncomputable abbrev T785 : List (FuncId × (List V → Option V)) := [(62, F53), (87, Fdps)]
noncomputable abbrev A104 (lvl n : Nat) : Mc := mcAt (Cx (hand T785)) 110 Tryz.f110 lvl n
theorem a104 (lvl n) : (A104 lvl n).E.keep = [0] ∧ (A104 lvl n).E.cnd = [] ∧ (A104 lvl n).E.frz = [] ∧ (A104 lvl n).E.pro = [] ∧ (A104 lvl n).E.imp = [] ∧ (A104 lvl n).E.n = 3 ∧ (A104 lvl n).E.lvl = lvl ∧ (A104 lvl n).E.P = Tryz.prog ∧ (A104 lvl n).fuel = n ∧ (A104 lvl n).C = hand T785 ∧ (A104 lvl n).E.ok = okL := ⟨rfl, rfl, rfl, rfl, rfl, rfl, rfl, rfl, rfl, rfl, rfl⟩
theorem w104 {n lvl c v2 : Nat} {O : Heap} {x : Int} (hl : 0 < lvl) (hO : O ⟨0, 2, 0⟩ = some (v2, .var [I x])) :
    (evF (Cx (hand T785)) (n + 1)).fn 110 [.ptr ⟨0, 2, 0⟩ v2 0 0] lvl c O = some (.ret (.tup []), c, lower lvl (oput O ⟨0, 2, 0⟩ (v2, .var [I (IntKind.i64.wrap (x + 1))]))) := by
  have hl' := eq_true hl
  let Po : Option (Ex × St) → Prop := fun r => ∃ s', r = some (.norm, s') ∧ s'.c = c ∧ s'.O = oput O ⟨0, 2, 0⟩ (v2, .var [I (IntKind.i64.wrap (x + 1))])
  have key : Po (R (A104 lvl n) (Tryz.f110.body.getD .skip) .top ⟨params 0 [.ptr ⟨0, 2, 0⟩ v2 0 0], [], O, c⟩) := by
    simp only [vmr, vmw, vmp, vza, ↓reduceIte, Nat.reduceBEq, Nat.reduceLT, Nat.reduceAdd, Nat.reduceEqDiff, reduceCtorEq, vmt, vzb, vzc, vlen, vleaf, velems, oks, vst, vmd, ty, Nat.reduceLeDiff, Nat.reduceMul, Nat.reduceSub, Tryz.f110, a104, obj_lo, put_lo, hl', hO, X_top]
    exact ⟨_, rfl, rfl, rfl⟩
  obtain ⟨s', hr, hc, ho⟩ := key
  have h := evF_at (C := Cx (hand T785)) (n := n) (args := [.ptr ⟨0, 2, 0⟩ v2 0 0]) (fn := Tryz.f110) (b := Tryz.f110.body.getD .skip) (s' := s') Tryz.func110 rfl (show 1 ≤ 3 by omega) rfl (.inl hr)
  rw [h, hc, ho]
theorem call_at {M : Mc} {k : K} {s : St} {ops : Array Oper} {d : Nat} {r : List Oper} {args : List V} {g lvl c : Nat} {O : Heap} {Inv : Heap → Prop} {P : Option (Ex × St) → Prop} (hd : d < M.E.n)
    (hr : ∃ c' O', M.call.fn g args lvl c O = some (.ret (.tup []), c', O') ∧ Inv O') (h : ∀ L' O' c', Inv O' → P (RO M ops r k ⟨tset s.τ d (.tup []), L', O', c'⟩)) :
    P (RV M ops (some d) r k (CI M.E d s (M.call.fn g args lvl c O))) := by
  obtain ⟨c', O', h1, h2⟩ := hr
  rw [h1]
  have : CI M.E d s (some (.ret (.tup []), c', O')) = some (.val (.tup []) (back M.E s c' O')) := rfl
  rw [this, RV_val hd]
  exact h _ _ _ h2
theorem callV_s2 {call : CallFn} {E : Env} {H : FuncId → Option (List V → Option V)} {d : Nat} {g : FuncId} {first caps args : List V} {s : St} (hg : E.ok.contains g = true) (hi : E.imp.contains g = false) (hC : (H g).isSome = true) (hp : (frzs E s (first ++ args ++ caps)).isSome = true) :
    callV call E H d (.fn (.func g) first caps) args s = CR E d (first ++ args ++ caps) s (((H g).getD fun _ => none) ((frzs E s (first ++ args ++ caps)).getD [])) := by
  obtain ⟨F, hF⟩ := Option.isSome_iff_exists.1 hC
  obtain ⟨p, hP⟩ := Option.isSome_iff_exists.1 hp
  unfold callV
  simp only [hg, if_true, hi, Bool.false_eq_true, if_false, hF, hP, Option.getD_some]
  unfold CR
  cases F p with
  | none => rfl
  | some v => simp only [Option.map_some, CD]
noncomputable abbrev lp85 : Lp := lpOf (M785 (hand T785) 0).E
noncomputable abbrev B85 (lvl n : Nat) : Mc := mcRd (Cx (hand T785)) lp85 lvl n
theorem b85 (lvl n) : (B85 lvl n).E.keep = [0, 2, 3, 4, 7, 8] ∧ (B85 lvl n).E.cnd = [] ∧ (B85 lvl n).E.frz = [] ∧ (B85 lvl n).E.pro = [] ∧ (B85 lvl n).E.imp = [110] ∧ (B85 lvl n).E.n = 14 ∧ (B85 lvl n).E.lvl = lvl ∧ (B85 lvl n).E.P = Tryz.prog ∧ (B85 lvl n).fuel = n ∧ (B85 lvl n).C = hand T785 ∧ (B85 lvl n).E.ok = okL := ⟨rfl, rfl, rfl, rfl, rfl, rfl, rfl, rfl, rfl, rfl, rfl⟩
abbrev cnF (v2 : Nat) : V := .fn (.func 110) [] [.ptr ⟨0, 2, 0⟩ v2 0 0]
def U85 (v2 v4 : Nat) (x : Nat) (_ : Bool) (O : Heap) : Prop := O ⟨0, 2, 0⟩ = some (v2, .var [I (IntKind.i64.wrap x)]) ∧ O ⟨0, 4, 0⟩ = some (v4, .var [cnF v2])
noncomputable abbrev as85 : Code := (rfA (sub [1, 1, 0, 1, 0] c785)).1
noncomputable abbrev bd85 : Code := (rfA (sub [1, 1, 0, 1, 0] c785)).2
theorem y85 {v2 v4 ver : Nat} {τ : List (Nat × V)} (h4 : tget τ 4 = .ptr ⟨0, 4, 0⟩ v4 0 0) :
    Yields (hand T785) 1 ⟨0, 15, 0⟩ ver (fun _ => True) (InvL ⟨0, 15, 0⟩ ver lp85 τ [8] as85 bd85 (fun _ => .ret) (U85 v2 v4)) cnt0 := by
  refine yields_of rfl ⟨rfl, by decide, by decide⟩ (fun x b O O' e ⟨h1, h2⟩ => ⟨(e 2 0 (by simp)).trans h1, (e 4 0 (by simp)).trans h2⟩) ?_
  intro n lvl x t c O hn hlv hok ⟨u1, u2⟩
  obtain ⟨n, rfl⟩ : ∃ m, n = m + 1 := ⟨n - 1, by omega⟩
  refine ⟨⟨setPs τ [8] [tv t], [], O, c⟩, rfl, rfl, fun O2 ho hq => ?_⟩
  have g1 := (ho ⟨0, 2, 0⟩ (by simp)).trans u1
  have g2 := (ho ⟨0, 4, 0⟩ (by simp)).trans u2
  have lv0 := eq_true (show 0 < lvl by omega)
  generalize Obj.loop lp85 τ [8] as85 bd85 .busy none = ob at hq ⊢
  simp only [bd85, rfA, sub, c785, Tryz.f95, gets]
  change BodyQ _ _ _ _ _ _ _ _ (R (B85 lvl (n + 1)) _ _ _)
  unfold cnt0
  have hc : ∀ (s : St), s.O = O2 → ∀ c, ∃ c' O', (B85 lvl (n + 1)).call.fn 110 [.ptr ⟨0, 2, 0⟩ v2 0 0] (lvl + 1) c (s.heap (B85 lvl (n + 1)).E) = some (.ret (.tup []), c', O') ∧ (O' ⟨0, 2, 0⟩ = some (v2, .var [I (IntKind.i64.wrap (x + 1 : Nat))]) ∧ (∀ sl off, sl ≠ 2 → O' ⟨0, sl, off⟩ = O2 ⟨0, sl, off⟩) ∧ ∀ l sl off, 0 < l → l < lvl → O' ⟨l, sl, off⟩ = O2 ⟨l, sl, off⟩) := fun s e c => by
    have hh : s.heap (B85 lvl (n + 1)).E ⟨0, 2, 0⟩ = some (v2, .var [I (IntKind.i64.wrap x)]) := by rw [heap_lw (m := lvl) rfl (by omega), e, g1]
    refine ⟨_, _, w104 (n := n) (lvl := lvl + 1) (c := c) (by omega) hh, ?_, fun sl off hs => ?_, fun l sl off h0 hl => ?_⟩
    · rw [lower_get, if_pos (by omega), oput_get, if_pos rfl, wrap_suc]; rfl
    · rw [lower_get, if_pos (by omega), oput_get, if_neg (by simp [hs]), heap_lw (m := lvl) rfl (by omega), e]
    · rw [lower_get, if_pos (by omega), oput_hi h0, heap_lw (m := lvl) rfl hl, e]
  simp only [vmr, vmw, vmp, vza, ↓reduceIte, Nat.reduceBEq, Nat.reduceLT, Nat.reduceAdd, Nat.reduceEqDiff, reduceCtorEq, vmt, vzb, vzc, vlen, vleaf, velems, oks, vst, vmd, ty, Nat.reduceLeDiff, Nat.reduceMul, Nat.reduceSub, b85, setPs, h4, g1, g2, obj_lo, put_lo, oput_get, key_eq, lv0, callV_i, X_top]
  refine call_at (show 10 < 14 by omega) (hc _ rfl _) fun L' O3 c3 ⟨i1, i2, i3⟩ => ?_
  simp only [vmr, vmw, vmp, vza, ↓reduceIte, Nat.reduceBEq, Nat.reduceLT, Nat.reduceAdd, Nat.reduceEqDiff, reduceCtorEq, vmt, vzb, vzc, vlen, vleaf, velems, oks, vst, vmd, ty, Nat.reduceLeDiff, Nat.reduceMul, Nat.reduceSub, b85, X_top]
  exact ⟨_, _, rfl, rfl, (i2 15 0 (by omega)).trans hq, ⟨i1, (i2 4 0 (by omega)).trans g2⟩, i3⟩
theorem h785 : SoundHand Tryz.prog (hand T785) := sound_cons F53_sound (sound_cons F66_sound sound_nil)
def P785 (n : Nat) (v : V) (r : Option (Ex × St)) : Prop := Fin (M785 (hand T785) n) [.cell 2 3, .tmp 3] r = some (.ret v)
theorem w85 (a : List Tm) (hb : szs a ≤ 1000000) : SoundPure Tryz.prog 95 [Ts a] (.ret (.tup [I (szs a), I (dps a)])) := by
  refine s785 h785 (szs a + 5) (by simp) rfl ?_
  show P785 _ _ _
  have e1 := F53_eq a
  have e2 := Fdps_eq hb
  have hd := @d785_4 (hand T785) (szs a + 5)
  have r1 := fun k s => @range_all Nat (hand T785) (M785 (hand T785) (szs a + 5)) (szs a + 3) 1 k s (.tmp 7) #[8] as85 bd85 (fun _ => .ret)
  simp only [as85, bd85, rfA, sub, c785, Tryz.f95, gets, opsAt] at r1 hd
  simp only [c785, Tryz.f95, gets]
  simp only [vmr, vmw, vmp, vza, ↓reduceIte, Nat.reduceBEq, Nat.reduceLT, Nat.reduceAdd, Nat.reduceEqDiff, reduceCtorEq, vmt, vzb, vzc, vlen, vleaf, velems, oks, vst, vmd, ty, Nat.reduceLeDiff, Nat.reduceMul, Nat.reduceSub, m785, callV_s2, e1]
  have u85 : ∀ x b O O', (∀ sl off, (⟨0, sl, off⟩ : Key) ≠ ⟨0, 15, 0⟩ → O' ⟨0, sl, off⟩ = O ⟨0, sl, off⟩) → U85 0 1 x b O → U85 0 1 x b O' := fun x b O O' e ⟨h1, h2⟩ => ⟨(e 2 0 (by simp)).trans h1, (e 4 0 (by simp)).trans h2⟩
  refine r1 _ _ (U := U85 0 1) (ok := fun _ => True) (step := cnt0) (x := 0) (a := a) (P := P785 (szs a + 5) (.tup [I (szs a), I (dps a)])) rfl rfl (show okL.contains 88 = true by decide) rfl ?_ (y85 ?_) u85 (fun _ _ _ _ _ _ => trivial) hb (fun t ht => trivial) (by omega) (fun O h => ⟨(h 2 0).trans ?_, (h 4 0).trans ?_⟩) (fun _ => ⟨_, rfl⟩) ?_
  case refine_5 =>
    intro s' e O' hτ hu hL hj
    rw [cnt0_L a 0, Nat.zero_add] at hu hj
    obtain ⟨u1, u2⟩ := hu
    have w1 : IntKind.i64.wrap ((szs a : Nat) : Int) = (szs a : Int) := by rw [wrap_id] <;> omega
    rw [w1] at u1
    have g2 := hL 2 0 _ (by show 2 ≠ 15; omega) (by simp only [vmr, vmw, vmp, vza, ↓reduceIte, Nat.reduceBEq, Nat.reduceLT, Nat.reduceAdd, Nat.reduceEqDiff, reduceCtorEq, vmt, vzb, vzc, vlen, vleaf, velems, oks, vst, vmd, ty, Nat.reduceLeDiff, Nat.reduceMul, Nat.reduceSub, m785]) u1
    have t0 : tget s'.τ 0 = Ts a := by rw [hτ]; simp only [vmr, vmw, vmp, vza, ↓reduceIte, Nat.reduceBEq, Nat.reduceLT, Nat.reduceAdd, Nat.reduceEqDiff, reduceCtorEq, vmt, vzb, vzc, vlen, vleaf, velems, oks, vst, vmd, ty, Nat.reduceLeDiff, Nat.reduceMul, Nat.reduceSub, m785]
    have t2 : tget s'.τ 2 = .ptr ⟨0, 2, 0⟩ 0 0 0 := by rw [hτ]; simp only [vmr, vmw, vmp, vza, ↓reduceIte, Nat.reduceBEq, Nat.reduceLT, Nat.reduceAdd, Nat.reduceEqDiff, reduceCtorEq, vmt, vzb, vzc, vlen, vleaf, velems, oks, vst, vmd, ty, Nat.reduceLeDiff, Nat.reduceMul, Nat.reduceSub, m785]
    injection hj with hj
    subst hj
    simp only [vmr, vmw, vmp, vza, ↓reduceIte, Nat.reduceBEq, Nat.reduceLT, Nat.reduceAdd, Nat.reduceEqDiff, reduceCtorEq, vmt, vzb, vzc, vlen, vleaf, velems, oks, vst, vmd, ty, Nat.reduceLeDiff, Nat.reduceMul, Nat.reduceSub, m785, callV_s2, X_blk, t0, t2, g2, e2, hd]
    unfold P785
    simp only [vmr, vmw, vmp, vza, ↓reduceIte, Nat.reduceBEq, Nat.reduceLT, Nat.reduceAdd, Nat.reduceEqDiff, reduceCtorEq, vmt, vzb, vzc, vlen, vleaf, velems, oks, vst, vmd, ty, Nat.reduceLeDiff, Nat.reduceMul, Nat.reduceSub, vzr, m785, t2, g2]
  all_goals simp only [vmr, vmw, vmp, vza, ↓reduceIte, Nat.reduceBEq, Nat.reduceLT, Nat.reduceAdd, Nat.reduceEqDiff, reduceCtorEq, vmt, vzb, vzc, vlen, vleaf, velems, oks, vst, vmd, ty, Nat.reduceLeDiff, Nat.reduceMul, Nat.reduceSub, m785]
  rfl
theorem F85_sound : ∀ args v, Fsize args = some v → SoundPure Tryz.prog 95 args (.ret v) := hF_sound fun p hp => w85 p hp
end Go.Vi
set_option maxRecDepth 100000
set_option maxHeartbeats 1000000
namespace Go.Vi
open Go Go.Proofs
def kvL : List Bn → List V
  | [] => []
  | b :: r => .str b.x :: Ts b.e :: kvL r
def kvE (l : List Bn) : List (V × V) := l.map fun b => (.str b.x, Ts b.e)
theorem unpairs_kv : ∀ l, unpairs (kvE l) = kvL l
  | [] => rfl
  | b :: r => by simp only [kvE, List.map_cons, unpairs, kvL]; rw [← unpairs_kv r]; rfl
theorem pairs_kv : ∀ l, pairsOf (kvL l) = some (kvE l)
  | [] => rfl
  | b :: r => by simp only [kvL, pairsOf, pairs_kv r]; rfl
theorem kvL_inj : ∀ {a b : List Bn}, kvL a = kvL b → a = b
  | [], [], _ => rfl
  | [], _ :: _, h => by cases h
  | _ :: _, [], h => by cases h
  | ⟨x, e⟩ :: r, ⟨y, f⟩ :: q, h => by
    simp only [kvL] at h
    injection h with h1 h2
    injection h2 with h2 h3
    rw [Str_inj h1, Ts_inj h2, kvL_inj h3]
theorem kv_find (x : List UInt8) : ∀ (l : List Bn) (i : Nat), (∃ e j, findB x l = some e ∧ mfind (.str x) (kvE l) i = some (some (j, Ts e))) ∨ (findB x l = none ∧ mfind (.str x) (kvE l) i = some none)
  | [], i => .inr ⟨rfl, rfl⟩
  | b :: r, i => by
    simp only [kvE, List.map_cons, mfind, keyEq_str, findB]
    have hq : (b.x == x) = (x == b.x) := by rw [Bool.eq_iff_iff, beq_iff_eq, beq_iff_eq]; exact eq_comm
    rw [hq]
    cases h : x == b.x with
    | true => exact .inl ⟨b.e, i, rfl, rfl⟩
    | false =>
      rw [if_neg (by simp)]
      exact kv_find x r (i + 1)
noncomputable abbrev vfn (l : List Bn) : V := .fn (.func 83) [] [.iptr [.lmap (kvL l)]]
def nds (l : List Bn) : Prop := (l.map (·.x)).Nodup
def P744 (n : Nat) (v : V) (r : Option (Ex × St)) : Prop := Fin (M744 (hand []) n) [.tmp 2] r = some (.ret v)
theorem nds_take {a : List Bn} (hd : nds a) {i : Nat} {b : Bn} (h : a[i]? = some b) : findB b.x (a.take i) = none := by
  have hf := find_none b.x (a.take i)
  cases hc : findB b.x (a.take i) with
  | none => rfl
  | some e =>
    rw [hc] at hf
    have hm : b.x ∈ (a.take i).map (·.x) := by simpa using hf.symm
    obtain ⟨hi, hb⟩ := List.getElem?_eq_some_iff.1 h
    unfold nds at hd
    rw [← List.take_append_drop i a, List.map_append, List.nodup_append] at hd
    exact absurd rfl (hd.2.2 _ hm b.x (List.mem_map.2 ⟨b, by rw [List.drop_eq_getElem_cons hi, hb]; simp, rfl⟩))
theorem l744 {n k v v3 vm} (a : List Bn) (ha : a.length ≤ 1000000) (hd : nds a) : ∀ r i n' s, a.drop i = r → r.length < n' → tget s.τ 7 = Bs a → tget s.τ 8 = I a.length → tget s.τ 9 = I (i : Nat) → tget s.τ 3 = .ptr ⟨0, 3, 0⟩ v3 0 0 → lget s.L (3, 0) = some (v3, .var [.mref ⟨0, 3, 1⟩ vm]) → lget s.L (3, 1) = some (vm, .map (kvE (a.take i))) →
    (∀ s', tget s'.τ 3 = .ptr ⟨0, 3, 0⟩ v3 0 0 → lget s'.L (3, 0) = some (v3, .var [.mref ⟨0, 3, 1⟩ vm]) → lget s'.L (3, 1) = some (vm, .map (kvE a)) → P744 n v (X (M744 (hand []) n) (.exit 0) k s')) →
    P744 n v (L (M744 (hand []) n) (sub [1, 1, 0, 1, 0, 0] c744) n' k s)
  | [], i, n' + 1, s, hi, hn, h7, h8, h9, h3, h3', hm, hx => by
    have hc := inlt (drop_nil' hi)
    rw [List.take_of_length_le (drop_nil' hi)] at hm
    rw [L_succ]
    simp only [vmr, vmw, vmp, vza, ↓reduceIte, Nat.reduceBEq, Nat.reduceLT, Nat.reduceAdd, Nat.reduceEqDiff, reduceCtorEq, vmt, vzb, vzc, vlen, vleaf, velems, oks, vst, vmd, ty, Nat.reduceLeDiff, Nat.reduceMul, Nat.reduceSub, c744, Tryz.f53, m744, h7, h8, h9, hc]
    refine hx _ ?_ ?_ ?_
    all_goals simp only [vmr, vmw, vmp, vza, ↓reduceIte, Nat.reduceBEq, Nat.reduceLT, Nat.reduceAdd, Nat.reduceEqDiff, reduceCtorEq, vmt, vzb, vzc, vlen, vleaf, velems, oks, vst, vmd, ty, Nat.reduceLeDiff, Nat.reduceMul, Nat.reduceSub, m744, h3, h3', hm]
  | b :: r, i, n' + 1, s, hi, hn, h7, h8, h9, h3, h3', hm, hx => by
    obtain ⟨g1, g2, g3⟩ := drop_cons hi
    have hcl := ilt g3
    have ga : (a.map Bn.v)[i]? = some (.agg [.str b.x, Ts b.e]) := by rw [List.getElem?_map, g1, Option.map_some, Bn.v]
    have w4 := wsuc g3 (by omega)
    have kok : keyOk Tryz.prog 9 (.str b.x) = true := by kernel_rfl
    have hf : mfind (.str b.x) (kvE (a.take i)) 0 = some none := by
      rcases kv_find b.x (a.take i) 0 with ⟨e, j, h, _⟩ | ⟨_, h⟩
      · rw [nds_take hd g1] at h; cases h
      · exact h
    have htk : kvE (a.take (i + 1)) = kvE (a.take i) ++ [(.str b.x, Ts b.e)] := by
      unfold kvE
      rw [List.take_add_one, g1, List.map_append]; rfl
    have hp : mput (.str b.x) (Ts b.e) (kvE (a.take i)) = some (kvE (a.take (i + 1))) := by
      unfold mput
      rw [hf, htk]
    have ih := fun s => l744 (n := n) (k := k) (v := v) (v3 := v3) (vm := vm) a ha hd r (i + 1) n' s g2 (by simp at hn; omega)
    simp only [sub, c744, Tryz.f53, gets] at ih
    rw [L_succ]
    simp only [vmr, vmw, vmp, vza, ↓reduceIte, Nat.reduceBEq, Nat.reduceLT, Nat.reduceAdd, Nat.reduceEqDiff, reduceCtorEq, vmt, vzb, vzc, vlen, vleaf, velems, oks, vst, vmd, ty, Nat.reduceLeDiff, Nat.reduceMul, Nat.reduceSub, c744, Tryz.f53, m744, h7, h8, h9, h3, h3', hm, hcl, ga, w4, kok, hp, mapPut]
    refine ih _ ?_ ?_ ?_ ?_ ?_ ?_ hx
    all_goals simp only [vmr, vmw, vmp, vza, ↓reduceIte, Nat.reduceBEq, Nat.reduceLT, Nat.reduceAdd, Nat.reduceEqDiff, reduceCtorEq, vmt, vzb, vzc, vlen, vleaf, velems, oks, vst, vmd, ty, Nat.reduceLeDiff, Nat.reduceMul, Nat.reduceSub, m744, h7, h8, h3, h3', hm]
theorem w44 (a : List Bn) (ha : a.length ≤ 1000000) (hd : nds a) : SoundPure Tryz.prog 53 [Bs a] (.ret (vfn a)) := by
  refine s744 (H := []) sound_nil (a.length + 1) (by simp) rfl ?_
  show P744 _ _ _
  have a1 := fun v3 vm k s => @l744 (a.length + 1) k (vfn a) v3 vm a ha hd a 0 (a.length + 1) s rfl (by omega)
  simp only [c744, Tryz.f53, gets, sub] at a1 ⊢
  simp only [vmr, vmw, vmp, vza, ↓reduceIte, Nat.reduceBEq, Nat.reduceLT, Nat.reduceAdd, Nat.reduceEqDiff, reduceCtorEq, vmt, vzb, vzc, vlen, vleaf, velems, oks, vst, vmd, ty, Nat.reduceLeDiff, Nat.reduceMul, Nat.reduceSub, m744, newMap]
  refine a1 1 2 _ _ ?_ ?_ ?_ ?_ ?_ ?_ (fun s' h3 h3' hm => ?_)
  case refine_7 =>
    simp only [vmr, vmw, vmp, vza, ↓reduceIte, Nat.reduceBEq, Nat.reduceLT, Nat.reduceAdd, Nat.reduceEqDiff, reduceCtorEq, vmt, vzb, vzc, vlen, vleaf, velems, oks, vst, vmd, ty, Nat.reduceLeDiff, Nat.reduceMul, Nat.reduceSub, m744, h3]
    unfold P744
    simp only [vmr, vmw, vmp, vza, ↓reduceIte, Nat.reduceBEq, Nat.reduceLT, Nat.reduceAdd, Nat.reduceEqDiff, reduceCtorEq, vmt, vzb, vzc, vlen, vleaf, velems, oks, vst, vmd, ty, Nat.reduceLeDiff, Nat.reduceMul, Nat.reduceSub, vzr, m744, h3, h3', hm, seal1, unpairs_kv]
  all_goals simp only [vmr, vmw, vmp, vza, ↓reduceIte, Nat.reduceBEq, Nat.reduceLT, Nat.reduceAdd, Nat.reduceEqDiff, reduceCtorEq, vmt, vzb, vzc, vlen, vleaf, velems, oks, vst, vmd, ty, Nat.reduceLeDiff, Nat.reduceMul, Nat.reduceSub, m744]
  rfl
noncomputable def F44 : List V → Option V := hF (α := List Bn) (fun p => [Bs p]) (fun p => p.length ≤ 1000000 ∧ nds p) vfn
theorem F44_eq {a : List Bn} (h : a.length ≤ 1000000) (hd : nds a) : F44 [Bs a] = some (vfn a) := hF_eq (a := a) (one_inj' fun _ _ => Bs_inj) (by simp only [cans, can_Bs]) ⟨h, hd⟩
theorem F44_sound : ∀ args v, F44 args = some v → SoundPure Tryz.prog 53 args (.ret v) := hF_sound fun p hp => w44 p hp.1 hp.2
def valB (l : List Bn) (k : Int) (s : List UInt8) : Option (List Tm) := if isV k = true then findB (nameV k s) l else none
def valR : Option (List Tm) → V
  | some e => .tup [Ts e, .bool true]
  | none => .tup [.nilS, .bool false]
noncomputable abbrev T770 : List (FuncId × (List V → Option V)) := [(67, FisV), (37, FnameP)]
theorem h770 : SoundHand Tryz.prog (hand T770) := sound_cons F25_sound (sound_cons F52_sound sound_nil)
theorem w70 (l : List Bn) (k : Int) (s : List UInt8) (c : List Tm) (hs : s.length ≤ 1000000000000000) : SoundPure Tryz.prog 83 [tmv k s c, .iptr [.lmap (kvL l)]] (.ret (valR (valB l k s))) := by
  refine s770 h770 1 (by simp) (by show pureR (valR (valB l k s)) = true; cases valB l k s <;> rfl) ?_
  have hd := @d770_3 (hand T770) 1
  simp only [c770, Tryz.f83, gets, sub, opsAt] at hd ⊢
  have e := Ftm_eq (f := fun k _ => .bool (isV k)) k c hs
  have e2 := Ftm_eq (f := fun k s => .str (nameP k s)) k c hs
  unfold valB
  cases h : isV k with
  | false =>
    rw [h] at e
    rw [if_neg (by simp)]
    unfold valR
    simp only [vmr, vmw, vmp, vza, ↓reduceIte, Nat.reduceBEq, Nat.reduceLT, Nat.reduceAdd, Nat.reduceEqDiff, reduceCtorEq, vmt, vzb, vzc, vlen, vleaf, velems, oks, vst, vmd, ty, Nat.reduceLeDiff, Nat.reduceMul, Nat.reduceSub, vzr, m770, e]
  | true =>
    rw [h] at e
    rw [if_pos rfl]
    have hn : nameP k s = nameV k s := by unfold nameP; rw [if_pos h]
    rw [hn] at e2
    have kok : keyOk Tryz.prog 9 (.str (nameV k s)) = true := by kernel_rfl
    rcases kv_find (nameV k s) l 0 with ⟨e', j, h1, h2⟩ | ⟨h1, h2⟩
    · rw [h1]
      unfold valR
      simp only [vmr, vmw, vmp, vza, ↓reduceIte, Nat.reduceBEq, Nat.reduceLT, Nat.reduceAdd, Nat.reduceEqDiff, reduceCtorEq, vmt, vzb, vzc, vlen, vleaf, velems, oks, vst, vmd, ty, Nat.reduceLeDiff, Nat.reduceMul, Nat.reduceSub, vzr, m770, e, e2, hd, mapGet, pairs_kv, kok, h2]
    · rw [h1]
      unfold valR
      simp only [vmr, vmw, vmp, vza, ↓reduceIte, Nat.reduceBEq, Nat.reduceLT, Nat.reduceAdd, Nat.reduceEqDiff, reduceCtorEq, vmt, vzb, vzc, vlen, vleaf, velems, oks, vst, vmd, ty, Nat.reduceLeDiff, Nat.reduceMul, Nat.reduceSub, vzr, m770, e, e2, hd, mapGet, pairs_kv, kok, h2]
noncomputable def Fval : List V → Option V := hF (α := (Int × List UInt8 × List Tm) × List Bn) (fun p => [tmv p.1.1 p.1.2.1 p.1.2.2, .iptr [.lmap (kvL p.2)]]) (fun p => p.1.2.1.length ≤ 1000000000000000) (fun p => findI (valB p.2 p.1.1 p.1.2.1))
theorem Fval_eq {l : List Bn} {k : Int} {s : List UInt8} {c : List Tm} (hs : s.length ≤ 1000000000000000) : Fval [tmv k s c, .iptr [.lmap (kvL l)]] = some (findI (valB l k s)) :=
  hF_eq (a := ((k, s, c), l)) (fun a b h => by
    injection h with h1 h2
    injection h2 with h2
    injection h2 with h2
    injection h2 with h2
    injection h2 with h2
    exact Prod.ext (tmv_inj (by rw [h1])) (kvL_inj h2)) (by show [can (tmv k s c), _] = _; have := can_tmv k s c; simp only [cans] at this; injection this with this; rw [this]; rfl) hs
theorem F70_sound : ∀ args v, Fval args = some v → SoundPure Tryz.prog 83 args (.ret v) := hF_sound fun p hp => by
  have := sound_imm (w70 p.2 p.1.1 p.1.2.1 p.1.2.2 hp) (by cases valB p.2 p.1.1 p.1.2.1 <;> rfl)
  have e : ∀ o, can (imm (valR o)) = findI o := fun o => by
    cases o with
    | none => rfl
    | some e => show V.tup [can (imm (Ts e)), .bool true] = _; rw [show imm (Ts e) = Ts e from by simp only [imm], can_Ts]; rfl
  rw [e] at this
  exact this
end Go.Vi
set_option maxRecDepth 100000
set_option maxHeartbeats 1000000
namespace Go.Vi
open Go Go.Proofs
mutual
def ndT (l : List Bn) (most : Nat) : Tm → Nat × Nat
  | .mk k s c => match valB l k s with
    | some v => (szs v, dps v)
    | none => (min (ndL l most 0 0 c).1 (most + 1) + 1, if k = 4 ∨ k = 8 then (ndL l most 0 0 c).2 + 1 else (ndL l most 0 0 c).2)
def ndL (l : List Bn) (most n d : Nat) : List Tm → Nat × Nat
  | [] => (n, d)
  | t :: r => if n > most then (n, d) else ndL l most (n + (ndT l most t).1) (max d (ndT l most t).2) r
end
def ndF (l : List Bn) (most : Nat) (e : List Tm) : Nat × Nat := (min (ndL l most 0 0 e).1 (most + 1), (ndL l most 0 0 e).2)
theorem ndT_eq {l : List Bn} {most : Nat} {k : Int} {s : List UInt8} {c : List Tm} : ndT l most (.mk k s c) = match valB l k s with
    | some v => (szs v, dps v)
    | none => ((ndF l most c).1 + 1, if k = 4 ∨ k = 8 then (ndF l most c).2 + 1 else (ndF l most c).2) := by rw [ndT]; rfl
def vok (l : List Bn) : Prop := ∀ b ∈ l, szs b.e ≤ 1000000
theorem findB_mem {x : List UInt8} : ∀ {l : List Bn} {v}, findB x l = some v → ∃ b ∈ l, b.e = v
  | b :: r, v, h => by
    simp only [findB] at h
    split at h
    · injection h with h; exact ⟨b, by simp, h⟩
    · obtain ⟨b', h1, h2⟩ := findB_mem h; exact ⟨b', by simp [h1], h2⟩
theorem valB_sz {l : List Bn} (hl : vok l) {k s v} (h : valB l k s = some v) : szs v ≤ 1000000 := by
  unfold valB at h
  split at h
  · obtain ⟨b, h1, h2⟩ := findB_mem h; rw [← h2]; exact hl b h1
  · cases h
mutual
theorem ndT_le {l : List Bn} (hl : vok l) {most : Nat} (hm : most ≤ 1000000) : ∀ t, (ndT l most t).1 ≤ 1000002 ∧ (ndT l most t).2 ≤ 1000000 + szt t
  | .mk k s c => by
    have := ndL_le hl hm c 0 0 (by omega)
    simp only [ndT]
    cases hv : valB l k s with
    | some v => have := valB_sz hl hv; have := dps_le v; simp only [szt]; omega
    | none => simp only [szt]; split <;> omega
theorem ndL_le {l : List Bn} (hl : vok l) {most : Nat} (hm : most ≤ 1000000) : ∀ (e : List Tm) (n d : Nat), n ≤ most + 1000002 → (ndL l most n d e).1 ≤ most + 1000002 ∧ (ndL l most n d e).2 ≤ max d (1000000 + szs e)
  | [], n, d, h => by simp only [ndL]; omega
  | t :: r, n, d, h => by
    simp only [ndL]
    split
    · simp only [szs]; omega
    · have h1 := ndT_le hl hm t
      have h2 := ndL_le hl hm r (n + (ndT l most t).1) (max d (ndT l most t).2) (by omega)
      simp only [szs]
      omega
end
theorem ndF_le {l : List Bn} (hl : vok l) {most : Nat} (hm : most ≤ 1000000) (e : List Tm) : (ndF l most e).1 ≤ most + 1 ∧ (ndF l most e).2 ≤ 1000000 + szs e := by
  have := ndL_le hl hm e 0 0 (by omega)
  unfold ndF
  dsimp only
  omega
theorem minN (a b : Nat) : minL (I a) [I b] = some (I (min a b : Nat)) := by
  simp only [minL]
  by_cases h : b < a
  · simp only [show ((b : Int) < a) from by omega, if_true, decide_true, show min a b = b from by omega]
  · simp only [show ¬ ((b : Int) < a) from by omega, if_false, decide_false, show min a b = a from by omega]
    rfl
theorem nI_inj {a b : Nat} (h : I (a : Int) = I (b : Int)) : a = b := by have := I_inj h; omega
theorem vfn_inj {a b : List Bn} (h : vfn a = vfn b) : a = b := by
  injection h with _ _ h
  injection h with h
  injection h with h
  injection h with h
  injection h with h
  exact kvL_inj h
noncomputable def F56 (m : Nat) : List V → Option V := hF (α := List Tm × List Bn × Nat) (fun p => [Ts p.1, vfn p.2.1, I p.2.2]) (fun p => szs p.1 < m ∧ vok p.2.1 ∧ txs p.1 ∧ p.2.2 ≤ 1000000) (fun p => .tup [I (ndF p.2.1 p.2.2 p.1).1, I (ndF p.2.1 p.2.2 p.1).2])
theorem F56_eq {m : Nat} {a : List Tm} {l : List Bn} {k : Nat} (h : szs a < m) (hl : vok l) (ho : txs a) (hk : k ≤ 1000000) : F56 m [Ts a, vfn l, I k] = some (.tup [I (ndF l k a).1, I (ndF l k a).2]) :=
  hF_eq (a := (a, l, k)) (three_inj (fun _ _ => Ts_inj) (fun _ _ => vfn_inj) (fun _ _ => nI_inj)) (by simp only [cans, can_Ts, canI]; rfl) ⟨h, hl, ho, hk⟩
noncomputable abbrev T756 (m : Nat) : List (FuncId × (List V → Option V)) := [(70, F56 m), (83, Fval), (95, Fsize)]
def P756 (m n : Nat) (v : V) (r : Option (Ex × St)) : Prop := Fin (M756 (hand (T756 m)) n) [.tmp 6, .tmp 7] r = some (.ret v)
theorem l756 {m n k v} {l : List Bn} {most : Nat} (a : List Tm) (hm : szs a ≤ m) (hb : szs a ≤ 1000000) (ho : txs a) (hvok : vok l) (hk : most ≤ 1000000) : ∀ r i (x y : Nat) n' s, a.drop i = r → r.length < n' → x ≤ most + 1000002 → y ≤ 2000000 → tget s.τ 1 = vfn l → tget s.τ 2 = I most → tget s.τ 16 = Ts a → tget s.τ 17 = I a.length → tget s.τ 18 = I (i : Nat) → tget s.τ 6 = I x → tget s.τ 7 = I y →
    (∀ s', tget s'.τ 2 = I most → tget s'.τ 6 = I (ndL l most x y r).1 → tget s'.τ 7 = I (ndL l most x y r).2 → P756 m n v (X (M756 (hand (T756 m)) n) (.exit 0) k s')) →
    P756 m n v (L (M756 (hand (T756 m)) n) (sub [1, 0, 1, 0, 0] c756) n' k s)
  | [], i, x, y, n' + 1, s, hi, hn, hx, hy, h1, h2, h16, h17, h18, h6, h7, hq => by
    have hc := inlt (drop_nil' hi)
    rw [L_succ]
    simp only [vmr, vmw, vmp, vza, ↓reduceIte, Nat.reduceBEq, Nat.reduceLT, Nat.reduceAdd, Nat.reduceEqDiff, reduceCtorEq, vmt, vzb, vzc, vlen, vleaf, velems, oks, vst, vmd, ty, Nat.reduceLeDiff, Nat.reduceMul, Nat.reduceSub, c756, Tryz.f70, m756, h16, h17, h18, hc]
    refine hq _ ?_ ?_ ?_
    all_goals simp only [vmr, vmw, vmp, vza, ↓reduceIte, Nat.reduceBEq, Nat.reduceLT, Nat.reduceAdd, Nat.reduceEqDiff, reduceCtorEq, vmt, vzb, vzc, vlen, vleaf, velems, oks, vst, vmd, ty, Nat.reduceLeDiff, Nat.reduceMul, Nat.reduceSub, m756, h2, h6, h7, ndL]
  | .mk k1 s1 c1 :: r, i, x, y, n' + 1, s, hi, hn, hx, hy, h1, h2, h16, h17, h18, h6, h7, hq => by
    obtain ⟨g1, g2, g3⟩ := drop_cons hi
    have hcl := ilt g3
    have ga : (a.map tv)[i]? = some (.agg [I k1, .str s1, Ts c1]) := by rw [List.getElem?_map, g1, Option.map_some, tv_mk]
    have hs := szs_mem (l := a) (List.mem_of_getElem? g1)
    have ht := txs_mem ho (List.mem_of_getElem? g1)
    simp only [txt1] at ht
    have hla := szs_len a
    have w4 := wsuc g3 (by omega)
    have e3 := Fval_eq (l := l) (k := k1) (c := c1) ht.1
    have e4 := F56_eq (m := m) (k := most) (by omega) hvok ht.2 hk
    have bF := ndF_le hvok hk c1
    rw [L_succ]
    by_cases q1 : x > most
    · have q1' : ((x : Int) > (most : Int)) = True := eq_true (by omega)
      simp only [vmr, vmw, vmp, vza, ↓reduceIte, Nat.reduceBEq, Nat.reduceLT, Nat.reduceAdd, Nat.reduceEqDiff, reduceCtorEq, vmt, vzb, vzc, vlen, vleaf, velems, oks, vst, vmd, ty, Nat.reduceLeDiff, Nat.reduceMul, Nat.reduceSub, c756, Tryz.f70, m756, h1, h2, h16, h17, h18, h6, hcl, ga, q1']
      refine hq _ ?_ ?_ ?_
      case refine_1 => simp only [vmr, vmw, vmp, vza, ↓reduceIte, Nat.reduceBEq, Nat.reduceLT, Nat.reduceAdd, Nat.reduceEqDiff, reduceCtorEq, vmt, vzb, vzc, vlen, vleaf, velems, oks, vst, vmd, ty, Nat.reduceLeDiff, Nat.reduceMul, Nat.reduceSub, m756, h2]
      all_goals (rw [ndL, if_pos (by omega)]; simp only [vmr, vmw, vmp, vza, ↓reduceIte, Nat.reduceBEq, Nat.reduceLT, Nat.reduceAdd, Nat.reduceEqDiff, reduceCtorEq, vmt, vzb, vzc, vlen, vleaf, velems, oks, vst, vmd, ty, Nat.reduceLeDiff, Nat.reduceMul, Nat.reduceSub, m756, h6, h7])
    · have q1' : ((x : Int) > (most : Int)) = False := eq_false (by omega)
      have hnd : ndL l most x y (.mk k1 s1 c1 :: r) = ndL l most (x + (ndT l most (.mk k1 s1 c1)).1) (max y (ndT l most (.mk k1 s1 c1)).2) r := by rw [ndL, if_neg (by omega)]
      rw [hnd] at hq
      have hT := ndT_le hvok hk (.mk k1 s1 c1)
      have ih := fun x y s => l756 (m := m) (n := n) (k := k) (v := v) (l := l) (most := most) a hm hb ho hvok hk r (i + 1) x y n' s g2 (by simp at hn; omega)
      simp only [sub, c756, Tryz.f70, gets] at ih
      cases hv : valB l k1 s1 with
      | some w =>
        have hw := valB_sz hvok hv
        have e5 := Fsize_eq hw
        have hT2 : ndT l most (.mk k1 s1 c1) = (szs w, dps w) := by rw [ndT_eq, hv]
        rw [hT2] at hq hT
        rw [hv] at e3
        simp only [findI] at e3
        have w5 : IntKind.i64.wrap ((x : Int) + (szs w : Int)) = ((x + szs w : Nat) : Int) := by rw [wrap_id] <;> omega
        simp only [vmr, vmw, vmp, vza, ↓reduceIte, Nat.reduceBEq, Nat.reduceLT, Nat.reduceAdd, Nat.reduceEqDiff, reduceCtorEq, vmt, vzb, vzc, vlen, vleaf, velems, oks, vst, vmd, ty, Nat.reduceLeDiff, Nat.reduceMul, Nat.reduceSub, c756, Tryz.f70, m756, h1, h2, h16, h17, h18, h6, h7, hcl, ga, w4, q1', e3, e5, w5, maxN]
        refine ih _ _ _ ?_ ?_ ?_ ?_ ?_ ?_ ?_ ?_ ?_ hq
        case refine_1 => omega
        case refine_2 => simp only [szt] at hT; omega
        all_goals simp only [vmr, vmw, vmp, vza, ↓reduceIte, Nat.reduceBEq, Nat.reduceLT, Nat.reduceAdd, Nat.reduceEqDiff, reduceCtorEq, vmt, vzb, vzc, vlen, vleaf, velems, oks, vst, vmd, ty, Nat.reduceLeDiff, Nat.reduceMul, Nat.reduceSub, m756, h1, h2, h16, h17]
      | none =>
        have hT2 : ndT l most (.mk k1 s1 c1) = ((ndF l most c1).1 + 1, if k1 = 4 ∨ k1 = 8 then (ndF l most c1).2 + 1 else (ndF l most c1).2) := by rw [ndT_eq, hv]
        rw [hT2] at hq
        rw [hv] at e3
        simp only [findI] at e3
        have w5 : IntKind.i64.wrap ((x : Int) + ((ndF l most c1).1 : Int)) = ((x + (ndF l most c1).1 : Nat) : Int) := by rw [wrap_id] <;> omega
        have w6 : IntKind.i64.wrap (((x + (ndF l most c1).1 : Nat) : Int) + 1) = ((x + ((ndF l most c1).1 + 1) : Nat) : Int) := by rw [wrap_id] <;> omega
        have w7 : IntKind.i64.wrap (((ndF l most c1).2 : Int) + 1) = (((ndF l most c1).2 + 1 : Nat) : Int) := by rw [wrap_id] <;> omega
        by_cases k4 : k1 = 4
        · have k4' : (k1 == 4) = true := by simpa using k4
          rw [if_pos (.inl k4)] at hq
          simp only [vmr, vmw, vmp, vza, ↓reduceIte, Nat.reduceBEq, Nat.reduceLT, Nat.reduceAdd, Nat.reduceEqDiff, reduceCtorEq, vmt, vzb, vzc, vlen, vleaf, velems, oks, vst, vmd, ty, Nat.reduceLeDiff, Nat.reduceMul, Nat.reduceSub, c756, Tryz.f70, m756, h1, h2, h16, h17, h18, h6, h7, hcl, ga, w4, q1', e3, e4, w5, w6, w7, maxN, k4']
          refine ih _ _ _ ?_ ?_ ?_ ?_ ?_ ?_ ?_ ?_ ?_ hq
          case refine_1 => omega
          case refine_2 => omega
          all_goals simp only [vmr, vmw, vmp, vza, ↓reduceIte, Nat.reduceBEq, Nat.reduceLT, Nat.reduceAdd, Nat.reduceEqDiff, reduceCtorEq, vmt, vzb, vzc, vlen, vleaf, velems, oks, vst, vmd, ty, Nat.reduceLeDiff, Nat.reduceMul, Nat.reduceSub, m756, h1, h2, h16, h17]
        · have k4' : (k1 == 4) = false := by simpa using k4
          by_cases k8 : k1 = 8
          · have k8' : (k1 == 8) = true := by simpa using k8
            rw [if_pos (.inr k8)] at hq
            simp only [vmr, vmw, vmp, vza, ↓reduceIte, Nat.reduceBEq, Nat.reduceLT, Nat.reduceAdd, Nat.reduceEqDiff, reduceCtorEq, vmt, vzb, vzc, vlen, vleaf, velems, oks, vst, vmd, ty, Nat.reduceLeDiff, Nat.reduceMul, Nat.reduceSub, c756, Tryz.f70, m756, h1, h2, h16, h17, h18, h6, h7, hcl, ga, w4, q1', e3, e4, w5, w6, w7, maxN, k4', k8']
            refine ih _ _ _ ?_ ?_ ?_ ?_ ?_ ?_ ?_ ?_ ?_ hq
            case refine_1 => omega
            case refine_2 => omega
            all_goals simp only [vmr, vmw, vmp, vza, ↓reduceIte, Nat.reduceBEq, Nat.reduceLT, Nat.reduceAdd, Nat.reduceEqDiff, reduceCtorEq, vmt, vzb, vzc, vlen, vleaf, velems, oks, vst, vmd, ty, Nat.reduceLeDiff, Nat.reduceMul, Nat.reduceSub, m756, h1, h2, h16, h17]
          · have k8' : (k1 == 8) = false := by simpa using k8
            rw [if_neg (by omega)] at hq
            simp only [vmr, vmw, vmp, vza, ↓reduceIte, Nat.reduceBEq, Nat.reduceLT, Nat.reduceAdd, Nat.reduceEqDiff, reduceCtorEq, vmt, vzb, vzc, vlen, vleaf, velems, oks, vst, vmd, ty, Nat.reduceLeDiff, Nat.reduceMul, Nat.reduceSub, c756, Tryz.f70, m756, h1, h2, h16, h17, h18, h6, h7, hcl, ga, w4, q1', e3, e4, w5, w6, w7, maxN, k4', k8']
            refine ih _ _ _ ?_ ?_ ?_ ?_ ?_ ?_ ?_ ?_ ?_ hq
            case refine_1 => omega
            case refine_2 => omega
            all_goals simp only [vmr, vmw, vmp, vza, ↓reduceIte, Nat.reduceBEq, Nat.reduceLT, Nat.reduceAdd, Nat.reduceEqDiff, reduceCtorEq, vmt, vzb, vzc, vlen, vleaf, velems, oks, vst, vmd, ty, Nat.reduceLeDiff, Nat.reduceMul, Nat.reduceSub, m756, h1, h2, h16, h17]
theorem w56 : ∀ (m : Nat) (a : List Tm) (l : List Bn) (most : Nat), szs a ≤ m → szs a ≤ 1000000 → vok l → txs a → most ≤ 1000000 → SoundPure Tryz.prog 70 [Ts a, vfn l, I most] (.ret (.tup [I (ndF l most a).1, I (ndF l most a).2])) := by
  intro m
  induction m using Nat.strongRecOn with
  | ind m IH =>
  intro a l most hm hb hl ho hk
  have hH : SoundHand Tryz.prog (hand (T756 (szs a))) := sound_cons (hF_sound fun p hp => IH (szs p.1) (by omega) p.1 p.2.1 p.2.2 (Nat.le_refl _) (by omega) hp.2.1 hp.2.2.1 hp.2.2.2) (sound_cons F70_sound (sound_cons F85_sound sound_nil))
  refine s756 hH (a.length + 1) (by simp) rfl ?_
  show P756 (szs a) _ _ _
  have a1 := fun k s => @l756 (szs a) (a.length + 1) k (.tup [I (ndF l most a).1, I (ndF l most a).2]) l most a (Nat.le_refl _) hb ho hl hk a 0 0 0 (a.length + 1) s rfl (by omega) (by omega) (by omega)
  have w1 : IntKind.i64.wrap ((most : Int) + 1) = ((most + 1 : Nat) : Int) := by rw [wrap_id] <;> omega
  simp only [c756, Tryz.f70, gets, sub] at a1 ⊢
  simp only [vmr, vmw, vmp, vza, ↓reduceIte, Nat.reduceBEq, Nat.reduceLT, Nat.reduceAdd, Nat.reduceEqDiff, reduceCtorEq, vmt, vzb, vzc, vlen, vleaf, velems, oks, vst, vmd, ty, Nat.reduceLeDiff, Nat.reduceMul, Nat.reduceSub, m756]
  refine a1 _ _ ?_ ?_ ?_ ?_ ?_ ?_ ?_ (fun s' h2 h8 h9 => ?_)
  case refine_8 =>
    simp only [vmr, vmw, vmp, vza, ↓reduceIte, Nat.reduceBEq, Nat.reduceLT, Nat.reduceAdd, Nat.reduceEqDiff, reduceCtorEq, vmt, vzb, vzc, vlen, vleaf, velems, oks, vst, vmd, ty, Nat.reduceLeDiff, Nat.reduceMul, Nat.reduceSub, m756, h2, h8, h9, w1, minN]
    unfold P756
    simp only [vmr, vmw, vmp, vza, ↓reduceIte, Nat.reduceBEq, Nat.reduceLT, Nat.reduceAdd, Nat.reduceEqDiff, reduceCtorEq, vmt, vzb, vzc, vlen, vleaf, velems, oks, vst, vmd, ty, Nat.reduceLeDiff, Nat.reduceMul, Nat.reduceSub, vzr, m756, ndF]
  all_goals simp only [vmr, vmw, vmp, vza, ↓reduceIte, Nat.reduceBEq, Nat.reduceLT, Nat.reduceAdd, Nat.reduceEqDiff, reduceCtorEq, vmt, vzb, vzc, vlen, vleaf, velems, oks, vst, vmd, ty, Nat.reduceLeDiff, Nat.reduceMul, Nat.reduceSub, m756]
noncomputable def Fnv : List V → Option V := hF (α := List Tm × List Bn × Nat) (fun p => [Ts p.1, vfn p.2.1, I p.2.2]) (fun p => szs p.1 ≤ 1000000 ∧ vok p.2.1 ∧ txs p.1 ∧ p.2.2 ≤ 1000000) (fun p => .tup [I (ndF p.2.1 p.2.2 p.1).1, I (ndF p.2.1 p.2.2 p.1).2])
theorem Fnv_eq {a : List Tm} {l : List Bn} {k : Nat} (h : szs a ≤ 1000000) (hl : vok l) (ho : txs a) (hk : k ≤ 1000000) : Fnv [Ts a, vfn l, I k] = some (.tup [I (ndF l k a).1, I (ndF l k a).2]) :=
  hF_eq (a := (a, l, k)) (three_inj (fun _ _ => Ts_inj) (fun _ _ => vfn_inj) (fun _ _ => nI_inj)) (by simp only [cans, can_Ts, canI]; rfl) ⟨h, hl, ho, hk⟩
theorem F56_sound : ∀ args v, Fnv args = some v → SoundPure Tryz.prog 70 args (.ret v) := hF_sound fun p hp => w56 _ p.1 p.2.1 p.2.2 (Nat.le_refl _) hp.1 hp.2.1 hp.2.2.1 hp.2.2.2
end Go.Vi
