/-
  Walk of the reference's Next.
-/
import Derived.Test.YtpibnnopnhmijaaGreatDoorS3
import Derived.Shelf.LaysM
import Derived.Shelf.LaysC
import Derived.Shelf.Strconv.Itoa3
import Derived.Shelf.Strconv.AtoiAll
import Derived.Test.YtpibnnopnhmijaaGreatDoorProg
import Derived.Test.YtpibnnopnhmijaaGreatDoorRA
import Derived.Test.YtpibnnopnhmijaaGreatDoorS1
import Derived.Test.YtpibnnopnhmijaaGreatDoorS2
set_option linter.unusedSimpArgs false
set_option linter.unusedVariables false
set_option maxRecDepth 100000
set_option maxHeartbeats 1000000
namespace Go.Vi
open Go Go.Proofs
theorem maxI (a b : Int) : maxL (I a) [I b] = some (I (max a b)) := by
  simp only [maxL]
  by_cases h : a < b
  · simp only [h, if_true, decide_true, show max a b = b from by omega]
  · simp only [h, if_false, decide_false, show max a b = a from by omega]
    rfl
theorem nx1_bd {n : Int} (h : 1 ≤ n ∧ n ≤ 1000000001) (k s) : 1 ≤ nx1 n k s ∧ nx1 n k s ≤ 1000000001 := by
  have := numN_bd s
  unfold nx1; split <;> omega
mutual
theorem nx_bdT : ∀ (t : Tm) (n : Int), 1 ≤ n ∧ n ≤ 1000000001 → 1 ≤ (visT (vS nxS) n t).2 ∧ (visT (vS nxS) n t).2 ≤ 1000000001
  | .mk k s c, n, h => by
    have hb := numN_bd s
    by_cases hk : isV k = true
    · simp only [visT, vS, hk, if_true, nxS]
      exact nx_bdL c _ (by omega)
    · simp only [visT, vS, hk, if_false]; simp only [Bool.false_eq_true, if_false]
      exact nx_bdL c _ h
theorem nx_bdL : ∀ (l : List Tm) (n : Int), 1 ≤ n ∧ n ≤ 1000000001 → 1 ≤ (visL (vS nxS) n l).2 ∧ (visL (vS nxS) n l).2 ≤ 1000000001
  | [], n, h => h
  | t :: r, n, h => by
    have h1 := nx_bdT t n h
    have h2 := nx_T t n
    simp only [visL]
    revert h1 h2
    generalize visT (vS nxS) n t = q
    obtain ⟨b, x⟩ := q
    intro h1 h2
    dsimp only at h1 h2
    subst h2
    exact nx_bdL r x h1
end
noncomputable def F1025 (m : Nat) : List V → Option V := hF (α := List Tm) (fun p => [Ts p]) (fun p => szs p < m ∧ txs p) (fun p => I (nxL 1 p))
theorem F1025_eq {m : Nat} {a : List Tm} (h : szs a < m) (ho : txs a) : F1025 m [Ts a] = some (I (nxL 1 a)) := hF_eq (a := a) (one_inj' fun _ _ => Ts_inj) (by simp only [cans, can_Ts]) ⟨h, ho⟩
noncomputable abbrev T1025 (m : Nat) : List (FuncId × (List V → Option V)) := [(25, F1025 m), (59, FisV), (60, F60)]
def P1025 (m n : Nat) (v : V) (r : Option (Ex × St)) : Prop := Fin (M1025 (hand (T1025 m)) n) [.tmp 2] r = some (.ret v)
theorem l1025 {m n k v} (a : List Tm) (hm : szs a ≤ m) (hb : szs a ≤ 1000000) (ho : txs a) : ∀ r i (x : Int) n' s, a.drop i = r → r.length < n' → 1 ≤ x ∧ x ≤ 1000000001 → tget s.τ 0 = Ts a → tget s.τ 3 = I x → tget s.τ 4 = I (i : Nat) →
    I (nxL x r) = v → (∀ s', tget s'.τ 3 = v → P1025 m n v (X (M1025 (hand (T1025 m)) n) (.exit 0) k s')) →
    P1025 m n v (L (M1025 (hand (T1025 m)) n) (sub [1, 1, 0, 1, 0, 0] c1025) n' k s)
  | [], i, x, n' + 1, s, hi, hn, hbd, h0, h3, h4, hv, hx => by
    have hc := inlt (drop_nil' hi)
    rw [L_succ]
    simp only [vmr, vmw, vmp, vza, ↓reduceIte, Nat.reduceBEq, Nat.reduceLT, Nat.reduceAdd, Nat.reduceEqDiff, reduceCtorEq, vmt, vzb, vzc, vlen, vleaf, velems, oks, vst, vmd, ty, Nat.reduceLeDiff, Nat.reduceMul, Nat.reduceSub, c1025, Tryz.f25, m1025, h0, h4, hc]
    refine hx _ ?_
    simp only [vmr, vmw, vmp, vza, ↓reduceIte, Nat.reduceBEq, Nat.reduceLT, Nat.reduceAdd, Nat.reduceEqDiff, reduceCtorEq, vmt, vzb, vzc, vlen, vleaf, velems, oks, vst, vmd, ty, Nat.reduceLeDiff, Nat.reduceMul, Nat.reduceSub, m1025, h3]
    exact hv
  | .mk k1 s1 c1 :: r, i, x, n' + 1, s, hi, hn, hbd, h0, h3, h4, hv, hx => by
    obtain ⟨g1, g2, g3⟩ := drop_cons hi
    have hcl := ilt g3
    have ga : (a.map tv)[i]? = some (.agg [I k1, .str s1, Ts c1]) := by rw [List.getElem?_map, g1, Option.map_some, tv_mk]
    have hsz := szs_mem (l := a) (List.mem_of_getElem? g1)
    have hlen := szs_len a
    have w4 := wsuc g3 (by omega)
    have ho1 := txs_mem ho (List.mem_of_getElem? g1)
    simp only [txt1] at ho1
    have e1 := Ftm_eq (f := fun k _ => .bool (isV k)) k1 c1 ho1.1
    have e2 := F60_eq (a := s1) ho1.1
    have e3 := F1025_eq (m := m) (a := c1) (by omega) ho1.2
    have hnb := numN_bd s1
    have hxb := nx1_bd hbd k1 s1
    have w5 : IntKind.i64.wrap (numN s1 + 1) = numN s1 + 1 := by rw [wrap_id] <;> omega
    have ih := fun x s => l1025 (n := n) (k := k) (v := v) a hm hb ho r (i + 1) x n' s g2 (by simp at hn; omega)
    simp only [sub, c1025, Tryz.f25, gets] at ih
    rw [nxL_cons, nxL_max (nx1 x k1 s1) c1 hxb.1] at hv
    have hbc := nx_bdL c1 1 (by omega)
    rw [L_succ]
    cases hk : isV k1 with
    | false =>
      rw [hk] at e1
      have ha : nx1 x k1 s1 = x := by unfold nx1; rw [if_neg (by simp [hk])]
      rw [ha] at hv
      simp only [vmr, vmw, vmp, vza, ↓reduceIte, Nat.reduceBEq, Nat.reduceLT, Nat.reduceAdd, Nat.reduceEqDiff, reduceCtorEq, vmt, vzb, vzc, vlen, vleaf, velems, oks, vst, vmd, ty, Nat.reduceLeDiff, Nat.reduceMul, Nat.reduceSub, c1025, Tryz.f25, m1025, h0, h3, h4, hcl, ga, w4, e1, e3, maxI]
      refine ih (max x (nxL 1 c1)) _ (by unfold nxL; omega) ?_ ?_ ?_ hv hx
      all_goals simp only [vmr, vmw, vmp, vza, ↓reduceIte, Nat.reduceBEq, Nat.reduceLT, Nat.reduceAdd, Nat.reduceEqDiff, reduceCtorEq, vmt, vzb, vzc, vlen, vleaf, velems, oks, vst, vmd, ty, Nat.reduceLeDiff, Nat.reduceMul, Nat.reduceSub, m1025, h0]
    | true =>
      rw [hk] at e1
      have ha : nx1 x k1 s1 = max x (numN s1 + 1) := by unfold nx1; rw [if_pos hk]
      rw [ha] at hv
      simp only [vmr, vmw, vmp, vza, ↓reduceIte, Nat.reduceBEq, Nat.reduceLT, Nat.reduceAdd, Nat.reduceEqDiff, reduceCtorEq, vmt, vzb, vzc, vlen, vleaf, velems, oks, vst, vmd, ty, Nat.reduceLeDiff, Nat.reduceMul, Nat.reduceSub, c1025, Tryz.f25, m1025, h0, h3, h4, hcl, ga, w4, w5, e1, e2, e3, maxI]
      refine ih (max (max x (numN s1 + 1)) (nxL 1 c1)) _ (by unfold nxL; omega) ?_ ?_ ?_ hv hx
      all_goals simp only [vmr, vmw, vmp, vza, ↓reduceIte, Nat.reduceBEq, Nat.reduceLT, Nat.reduceAdd, Nat.reduceEqDiff, reduceCtorEq, vmt, vzb, vzc, vlen, vleaf, velems, oks, vst, vmd, ty, Nat.reduceLeDiff, Nat.reduceMul, Nat.reduceSub, m1025, h0]
theorem w25n : ∀ (m : Nat) (a : List Tm), szs a ≤ m → szs a ≤ 1000000 → txs a → SoundPure Tryz.prog 25 [Ts a] (.ret (I (nxL 1 a))) := by
  intro m
  induction m using Nat.strongRecOn with
  | ind m IH =>
  intro a hm hb ho
  have hH : SoundHand Tryz.prog (hand (T1025 (szs a))) := sound_cons (hF_sound fun p hp => IH (szs p) (by omega) p (Nat.le_refl _) (by omega) hp.2) (sound_cons F88_sound (sound_cons F60_sound sound_nil))
  have hla := szs_len a
  refine s1025 hH (a.length + 1) (by simp) rfl ?_
  show P1025 _ _ _ _
  have a1 := fun k s => @l1025 (szs a) (a.length + 1) k (I (nxL 1 a)) a (Nat.le_refl _) hb ho a 0 1 (a.length + 1) s rfl (by omega) (by omega)
  simp only [c1025, Tryz.f25, gets, sub] at a1 ⊢
  simp only [vmr, vmw, vmp, vza, ↓reduceIte, Nat.reduceBEq, Nat.reduceLT, Nat.reduceAdd, Nat.reduceEqDiff, reduceCtorEq, vmt, vzb, vzc, vlen, vleaf, velems, oks, vst, vmd, ty, Nat.reduceLeDiff, Nat.reduceMul, Nat.reduceSub, m1025]
  refine a1 _ _ ?_ ?_ ?_ trivial (fun s' h => ?_)
  case refine_4 =>
    simp only [vmr, vmw, vmp, vza, ↓reduceIte, Nat.reduceBEq, Nat.reduceLT, Nat.reduceAdd, Nat.reduceEqDiff, reduceCtorEq, vmt, vzb, vzc, vlen, vleaf, velems, oks, vst, vmd, ty, Nat.reduceLeDiff, Nat.reduceMul, Nat.reduceSub, m1025, h]
    unfold P1025
    simp only [vmr, vmw, vmp, vza, ↓reduceIte, Nat.reduceBEq, Nat.reduceLT, Nat.reduceAdd, Nat.reduceEqDiff, reduceCtorEq, vmt, vzb, vzc, vlen, vleaf, velems, oks, vst, vmd, ty, Nat.reduceLeDiff, Nat.reduceMul, Nat.reduceSub, vzr, m1025]
  all_goals simp only [vmr, vmw, vmp, vza, ↓reduceIte, Nat.reduceBEq, Nat.reduceLT, Nat.reduceAdd, Nat.reduceEqDiff, reduceCtorEq, vmt, vzb, vzc, vlen, vleaf, velems, oks, vst, vmd, ty, Nat.reduceLeDiff, Nat.reduceMul, Nat.reduceSub, m1025]
  all_goals rfl
noncomputable def Fnext : List V → Option V := hF (α := List Tm) (fun p => [Ts p]) (fun p => szs p ≤ 1000000 ∧ txs p) (fun p => I (nxL 1 p))
theorem Fnext_eq {a : List Tm} (h : szs a ≤ 1000000) (ho : txs a) : Fnext [Ts a] = some (I (nxL 1 a)) := hF_eq (a := a) (one_inj' fun _ _ => Ts_inj) (by simp only [cans, can_Ts]) ⟨h, ho⟩
theorem F1025_sound : ∀ args v, Fnext args = some v → SoundPure Tryz.prog 25 args (.ret v) := hF_sound fun p hp => w25n _ p (Nat.le_refl _) hp.1 hp.2
end Go.Vi
namespace Go.Proofs
open Go.Shelf
def Tryz.laysC172_ren : Go.Shelf.Ren := ⟨fun | 172 => 58 | 244 => 85 | 245 => 86 | 247 => 104 | 279 => 105 | 280 => 106 | 281 => 107 | 282 => 108 | 287 => 122 | 316 => 123 | 171 => 51 | 205 => 124 | 321 => 139 | 322 => 140 | 243 => 82 | 246 => 103 | 283 => 118 | 284 => 119 | 285 => 120 | 286 => 121 | 129 => 135 | 317 => 134 | 318 => 136 | 319 => 137 | 320 => 138 | 337 => 145 | 338 => 146 | n => n, fun | 9 => 9 | 3 => 3 | 75 => 90 | 76 => 91 | 4 => 4 | 5 => 5 | 167 => 122 | 37 => 111 | 0 => 0 | 85 => 123 | 2 => 2 | 168 => 125 | 53 => 135 | 175 => 140 | 46 => 130 | 210 => 144 | 127 => 156 | 145 => 159 | 143 => 157 | 21 => 21 | 171 => 134 | 173 => 138 | 212 => 152 | 51 => 146 | 20 => 20 | 213 => 153 | 232 => 162 | 233 => 163 | 80 => 164 | n => n, fun | 15 => 1 | 16 => 2 | 17 => 3 | 18 => 4 | 19 => 5 | n => n⟩
theorem Tryz.laysC172 : Go.Proofs.LaysC.n172 Tryz.prog Tryz.laysC172_ren := {
  mixed := by kernel_rfl
  f129 := Tryz.func135.trans (congrArg some (by kernel_rfl))
  f171 := Tryz.func51.trans (congrArg some (by kernel_rfl))
  f172 := Tryz.func58.trans (congrArg some (by kernel_rfl))
  f205 := Tryz.func124.trans (congrArg some (by kernel_rfl))
  f243 := Tryz.func82.trans (congrArg some (by kernel_rfl))
  f244 := Tryz.func85.trans (congrArg some (by kernel_rfl))
  f245 := Tryz.func86.trans (congrArg some (by kernel_rfl))
  f246 := Tryz.func103.trans (congrArg some (by kernel_rfl))
  f247 := Tryz.func104.trans (congrArg some (by kernel_rfl))
  f279 := Tryz.func105.trans (congrArg some (by kernel_rfl))
  f280 := Tryz.func106.trans (congrArg some (by kernel_rfl))
  f281 := Tryz.func107.trans (congrArg some (by kernel_rfl))
  f282 := Tryz.func108.trans (congrArg some (by kernel_rfl))
  f283 := Tryz.func118.trans (congrArg some (by kernel_rfl))
  f284 := Tryz.func119.trans (congrArg some (by kernel_rfl))
  f285 := Tryz.func120.trans (congrArg some (by kernel_rfl))
  f286 := Tryz.func121.trans (congrArg some (by kernel_rfl))
  f287 := Tryz.func122.trans (congrArg some (by kernel_rfl))
  f316 := Tryz.func123.trans (congrArg some (by kernel_rfl))
  f317 := Tryz.func134.trans (congrArg some (by kernel_rfl))
  f318 := Tryz.func136.trans (congrArg some (by kernel_rfl))
  f319 := Tryz.func137.trans (congrArg some (by kernel_rfl))
  f320 := Tryz.func138.trans (congrArg some (by kernel_rfl))
  f321 := Tryz.func139.trans (congrArg some (by kernel_rfl))
  f322 := Tryz.func140.trans (congrArg some (by kernel_rfl))
  f337 := Tryz.func145.trans (congrArg some (by kernel_rfl))
  f338 := Tryz.func146.trans (congrArg some (by kernel_rfl))
  t0 := Tryz.underlying0
  a0 := Tryz.isAgg0
  z0 := Tryz.sizeOf0
  v0 := Tryz.zeroValue0
  t2 := Tryz.underlying2
  a2 := Tryz.isAgg2
  z2 := Tryz.sizeOf2
  v2 := Tryz.zeroValue2
  t3 := Tryz.underlying3
  a3 := Tryz.isAgg3
  z3 := Tryz.sizeOf3
  v3 := Tryz.zeroValue3
  t4 := Tryz.underlying4
  a4 := Tryz.isAgg4
  z4 := Tryz.sizeOf4
  v4 := Tryz.zeroValue4
  t5 := Tryz.underlying5
  a5 := Tryz.isAgg5
  z5 := Tryz.sizeOf5
  v5 := Tryz.zeroValue5
  t9 := Tryz.underlying9
  a9 := Tryz.isAgg9
  z9 := Tryz.sizeOf9
  v9 := Tryz.zeroValue9
  t20 := Tryz.underlying20
  a20 := Tryz.isAgg20
  z20 := Tryz.sizeOf20
  v20 := Tryz.zeroValue20
  t21 := Tryz.underlying21
  a21 := Tryz.isAgg21
  z21 := Tryz.sizeOf21
  v21 := Tryz.zeroValue21
  t37 := Tryz.underlying111
  a37 := Tryz.isAgg111
  z37 := Tryz.sizeOf111
  v37 := Tryz.zeroValue111
  t46 := Tryz.underlying130
  a46 := Tryz.isAgg130
  z46 := Tryz.sizeOf130
  v46 := Tryz.zeroValue130
  t51 := Tryz.underlying146
  a51 := Tryz.isAgg146
  z51 := Tryz.sizeOf146
  v51 := Tryz.zeroValue146
  t53 := Tryz.underlying135
  a53 := Tryz.isAgg135
  z53 := Tryz.sizeOf135
  v53 := Tryz.zeroValue135
  t75 := Tryz.underlying90
  a75 := Tryz.isAgg90
  z75 := Tryz.sizeOf90
  v75 := Tryz.zeroValue90
  t76 := Tryz.underlying91
  a76 := Tryz.isAgg91
  z76 := Tryz.sizeOf91
  v76 := Tryz.zeroValue91
  t85 := Tryz.underlying123
  a85 := Tryz.isAgg123
  z85 := Tryz.sizeOf123
  v85 := Tryz.zeroValue123
  t127 := Tryz.underlying156
  a127 := Tryz.isAgg156
  z127 := Tryz.sizeOf156
  v127 := Tryz.zeroValue156
  t143 := Tryz.underlying157
  a143 := Tryz.isAgg157
  z143 := Tryz.sizeOf157
  v143 := Tryz.zeroValue157
  t145 := Tryz.underlying159
  a145 := Tryz.isAgg159
  z145 := Tryz.sizeOf159
  v145 := Tryz.zeroValue159
  t167 := Tryz.underlying122
  a167 := Tryz.isAgg122
  z167 := Tryz.sizeOf122
  v167 := Tryz.zeroValue122
  t168 := Tryz.underlying125
  a168 := Tryz.isAgg125
  z168 := Tryz.sizeOf125
  v168 := Tryz.zeroValue125
  t171 := Tryz.underlying134
  a171 := Tryz.isAgg134
  z171 := Tryz.sizeOf134
  v171 := Tryz.zeroValue134
  t173 := Tryz.underlying138
  a173 := Tryz.isAgg138
  z173 := Tryz.sizeOf138
  v173 := Tryz.zeroValue138
  t175 := Tryz.underlying140
  a175 := Tryz.isAgg140
  z175 := Tryz.sizeOf140
  v175 := Tryz.zeroValue140
  t210 := Tryz.underlying144
  a210 := Tryz.isAgg144
  z210 := Tryz.sizeOf144
  v210 := Tryz.zeroValue144
  t212 := Tryz.underlying152
  a212 := Tryz.isAgg152
  z212 := Tryz.sizeOf152
  v212 := Tryz.zeroValue152
  t213 := Tryz.underlying153
  a213 := Tryz.isAgg153
  z213 := Tryz.sizeOf153
  t232 := Tryz.underlying162
  a232 := Tryz.isAgg162
  z232 := Tryz.sizeOf162
  v232 := Tryz.zeroValue162
  t233 := Tryz.underlying163
  a233 := Tryz.isAgg163
  z233 := Tryz.sizeOf163
  v233 := Tryz.zeroValue163
  g15 := by kernel_rfl
  g16 := by kernel_rfl
  g17 := by kernel_rfl
  g18 := by kernel_rfl
  g19 := by kernel_rfl
  t80 := Tryz.underlying164
  a80 := Tryz.isAgg164
  z80 := Tryz.sizeOf164
  v80 := Tryz.zeroValue164
  i0 := by kernel_rfl
  i2 := by kernel_rfl
  i3 := by kernel_rfl
  i4 := by kernel_rfl
  i5 := by kernel_rfl
  i9 := by kernel_rfl
  i20 := by kernel_rfl
  i21 := by kernel_rfl
  i37 := by kernel_rfl
  i46 := by kernel_rfl
  i51 := by kernel_rfl
  i53 := by kernel_rfl
  i75 := by kernel_rfl
  i76 := by kernel_rfl
  i80 := by kernel_rfl
  i85 := by kernel_rfl
  i127 := by kernel_rfl
  i143 := by kernel_rfl
  i145 := by kernel_rfl
  i167 := by kernel_rfl
  i168 := by kernel_rfl
  i171 := by kernel_rfl
  i173 := by kernel_rfl
  i175 := by kernel_rfl
  i210 := by kernel_rfl
  i212 := by kernel_rfl
  i232 := by kernel_rfl
  i233 := by kernel_rfl
  m15 := by kernel_rfl
  m16 := by kernel_rfl
  m17 := by kernel_rfl
  m18 := by kernel_rfl
  m19 := by kernel_rfl
  c0 := by kernel_rfl
  c2 := by kernel_rfl
  c3 := by kernel_rfl
  c4 := by kernel_rfl
  c5 := by kernel_rfl
  c9 := by kernel_rfl
  c20 := by kernel_rfl
  c21 := by kernel_rfl
  c37 := by kernel_rfl
  c46 := by kernel_rfl
  c51 := by kernel_rfl
  c53 := by kernel_rfl
  c75 := by kernel_rfl
  c76 := by kernel_rfl
  c80 := by kernel_rfl
  c85 := by kernel_rfl
  c127 := by kernel_rfl
  c143 := by kernel_rfl
  c145 := by kernel_rfl
  c167 := by kernel_rfl
  c168 := by kernel_rfl
  c171 := by kernel_rfl
  c173 := by kernel_rfl
  c175 := by kernel_rfl
  c210 := by kernel_rfl
  c212 := by kernel_rfl
  c213 := by kernel_rfl
  c232 := by kernel_rfl
  c233 := by kernel_rfl }
open Go.RowKit in
theorem Tryz.strconv_Atoi_ok (s : ByteArray) (hmax : s.size ≤ 9223372036854775806) (v : Int) (h : Lib.atoiAll s.data.toList = .ok v) (w : World) :
    Calls Tryz.prog 58 #[.string s] w fun e w' => e = .returned (.tuple #[.int .i64 v, .nilIface]) ∧ (w' = w ∨ ∃ t, w' = Lib.bytesWorld w 5 t) := Any.strconv_Atoi_ok Tryz.laysC172 s hmax v h w
open Go.RowKit in
theorem Tryz.strconv_Atoi_range (s : ByteArray) (hlim : s.size ≤ 281474976710656) (h : Lib.atoiAll s.data.toList = .range) (ev : Value) (w : World) (hv : w.cell? ⟨2, 0, none⟩ = some ev) (hev : ev = .nilIface ∨ ∃ te pe, ev = .iface te pe) :
    Calls Tryz.prog 58 #[.string s] w fun e w' => ∃ N, e = .returned (.tuple #[.int .i64 (Lib.atoiSat s.data.toList), .iface 125 (.pointer (some ⟨N, 0, none⟩))]) ∧ w.heap.size ≤ N ∧ w'.heap[N]? = some (.cells #[.string ⟨#[65, 116, 111, 105]⟩, .string s, ev] 144 (0, 0)) ∧ Below w.heap.size w w' := Any.strconv_Atoi_range Tryz.laysC172 s hlim h ev w hv hev
open Go.RowKit in
theorem Tryz.strconv_Atoi_bad (s : ByteArray) (hlim : s.size ≤ 281474976710656) (h : (∀ v, Lib.atoiAll s.data.toList ≠ .ok v) ∧ Lib.atoiAll s.data.toList ≠ .range) (ev : Value) (w : World) (hv : w.cell? ⟨1, 0, none⟩ = some ev) (hev : ev = .nilIface ∨ ∃ te pe, ev = .iface te pe) :
    Calls Tryz.prog 58 #[.string s] w fun e w' => ∃ N, e = .returned (.tuple #[.int .i64 0, .iface 125 (.pointer (some ⟨N, 0, none⟩))]) ∧ w.heap.size ≤ N ∧ w'.heap[N]? = some (.cells #[.string ⟨#[65, 116, 111, 105]⟩, .string s, ev] 144 (0, 0)) ∧ Below w.heap.size w w' := Any.strconv_Atoi_syntax Tryz.laysC172 s hlim (by rcases hh : Lib.atoiAll s.data.toList with v | _ | _ <;> first | rfl | exact absurd hh h.2 | exact absurd hh (h.1 _)) ev w hv hev
end Go.Proofs
set_option maxRecDepth 100000
set_option maxHeartbeats 1000000
namespace Go.Vi
open Go Go.Proofs Go.RowKit
noncomputable def atV (s : List UInt8) : Int × Bool := match Lib.atoiAll s with
  | .ok v => (v, true)
  | .range => (Lib.atoiSat s, false)
  | _ => (0, false)
noncomputable def atE (b : Bool) : V := if b = true then .nilI else .iface 125 (.iptr [])
noncomputable def atR (s : List UInt8) : V := .tup [I (atV s).1, atE (atV s).2]
theorem err_cell {w : World} {A : Nat → Prop} (h : JA w A) (b : Nat) (hb : (b, errC) ∈ JL) : ∃ ev, w.cell? ⟨b, 0, none⟩ = some ev ∧ (ev = .nilIface ∨ ∃ te pe, ev = .iface te pe) := by
  obtain ⟨_, cs, t, f, hc, ev, he, hev⟩ := h (b, errC) hb
  refine ⟨ev, ?_, hev⟩
  dsimp only at hc
  simp [World.cell?, hc, he]
theorem err_out {w w' : World} {A : Nat → Prop} {n : Int} {N : Nat} {o : Go.Obj} (hA : ∀ b, A b → b < w.heap.size) (hN : w.heap.size ≤ N) (ho : w'.heap[N]? = some o) (hb : Below w.heap.size w w') :
    PureOut w A (.ret (.tup [I n, .iface 125 (.iptr [])])) (.returned (.tuple #[.int .i64 n, .iface 125 (.pointer (some ⟨N, 0, none⟩))])) w' := by
  have hlt : N < w'.heap.size := (Array.getElem?_eq_some_iff.1 ho).1
  refine ⟨fun b => A b ∨ b = N, ⟨hb.size, hb.os, hb.tape, hb.output, fun b hb' _ => hb.block b hb', fun _ _ _ => rfl, Nat.le_refl _, fun _ h => .inl h, fun b h => ?_, fun _ h => .inl h⟩, fun b h => ?_, _, [], rfl, ?_, fun i hi => (by cases hi), List.Pairwise.nil⟩
  · rcases h with h | rfl
    · exact .inl h
    · exact .inr (.inr hN)
  · rcases h with h | rfl
    · exact Nat.lt_of_lt_of_le (hA b h) hb.size
    · exact hlt
  · simp only [RC, RCs, IC, PC, PAt]
    refine ⟨_, rfl, _, _, [], [], rfl, rfl, ⟨rfl, rfl⟩, _, _, [], [], rfl, rfl, ⟨rfl, _, rfl, N, 0, rfl, .inr rfl, trivial⟩, rfl, rfl⟩
theorem w58a (s : List UInt8) (hs : s.length ≤ 281474976710656) : SoundPure Tryz.prog 58 [.str s] (.ret (atR s)) := by
  intro w A cs hJ hA hp
  simp only [PCs, PC] at hp
  obtain ⟨c, d, e, rfl, rfl⟩ := hp
  obtain rfl : cs = #[.string ⟨s.toArray⟩] := by cases cs; simp_all
  have hsz : (⟨s.toArray⟩ : ByteArray).size ≤ 281474976710656 := by simpa [ByteArray.size] using hs
  unfold atR atV
  rcases h : Lib.atoiAll s with v | _ | _
  · skip
    refine (Tryz.strconv_Atoi_ok ⟨s.toArray⟩ (by omega) v (by simpa using h) w).mono ?_
    rintro e w' ⟨rfl, hw⟩
    have hb : Below w.heap.size w w' := by
      rcases hw with rfl | ⟨u, rfl⟩
      · exact Below.refl _ _
      · exact ⟨rfl, rfl, rfl, by rw [Lib.bytesWorld_size]; omega, fun b hb => Lib.bytesWorld_at_old w 5 u b hb⟩
    refine ⟨A, ⟨hb.size, hb.os, hb.tape, hb.output, fun b hb' _ => hb.block b hb', fun _ _ _ => rfl, Nat.le_refl _, fun _ h => h, fun _ h => .inl h, fun _ h => .inl h⟩, fun b hb' => Nat.lt_of_lt_of_le (hA b hb') hb.size, _, [], rfl, ?_, fun i hi => (by cases hi), List.Pairwise.nil⟩
    simp only [atE, if_true, RC, RCs, IC, PC]
    exact ⟨_, rfl, _, _, [], [], rfl, rfl, ⟨rfl, rfl⟩, _, _, [], [], rfl, rfl, ⟨rfl, rfl⟩, rfl, rfl⟩
  · skip
    obtain ⟨ev, hv, hev⟩ := err_cell hJ 1 (by simp [JL])
    refine (Tryz.strconv_Atoi_bad ⟨s.toArray⟩ hsz ⟨fun v => by simp [h], by simp [h]⟩ ev w hv hev).mono ?_
    rintro e w' ⟨N, rfl, hN, ho, hb⟩
    exact err_out hA hN ho hb
  · skip
    obtain ⟨ev, hv, hev⟩ := err_cell hJ 2 (by simp [JL])
    refine (Tryz.strconv_Atoi_range ⟨s.toArray⟩ hsz (by simpa using h) ev w hv hev).mono ?_
    rintro e w' ⟨N, rfl, hN, ho, hb⟩
    simp only [atE, Bool.false_eq_true, if_false]
    exact err_out hA hN ho hb
noncomputable def Fatoi : List V → Option V := hF (α := List UInt8) (fun a => [.str a]) (fun a => a.length ≤ 281474976710656) atR
theorem Fatoi_eq {a : List UInt8} (h : a.length ≤ 281474976710656) : Fatoi [.str a] = some (atR a) := hF_eq (a := a) (one_inj' fun _ _ => Str_inj) (by simp only [cans, canStr]) h
theorem F58_sound2 : ∀ args v, Fatoi args = some v → SoundPure Tryz.prog 58 args (.ret v) := hF_sound fun p hp => w58a p hp
end Go.Vi
set_option maxRecDepth 100000
set_option maxHeartbeats 1000000
namespace Go.Vi
open Go Go.Proofs
mutual
def tx8 : Tm → Prop
  | .mk _ s c => s.length ≤ 281474976710656 ∧ tx8s c
def tx8s : List Tm → Prop
  | [] => True
  | x :: r => tx8 x ∧ tx8s r
end
theorem tx8_mem : ∀ {l : List Tm} {t}, tx8s l → t ∈ l → tx8 t
  | x :: r, t, h, hm => by
    simp only [tx8s] at h
    rcases List.mem_cons.1 hm with rfl | hm
    · exact h.1
    · exact tx8_mem h.2 hm
theorem num_test (s : List UInt8) : ((atV s).2 = true ∧ 0 ≤ (atV s).1 ∧ (atV s).1 ≤ 1000000000 ∧ Lib.itoa (atV s).1 = s ∧ numN s = (atV s).1) ∨ (¬ ((atV s).2 = true ∧ 0 ≤ (atV s).1 ∧ (atV s).1 ≤ 1000000000 ∧ Lib.itoa (atV s).1 = s) ∧ numN s = -1) := by
  by_cases h : (atV s).2 = true ∧ 0 ≤ (atV s).1 ∧ (atV s).1 ≤ 1000000000 ∧ Lib.itoa (atV s).1 = s
  · refine .inl ⟨h.1, h.2.1, h.2.2.1, h.2.2.2, ?_⟩
    have h1 : Lib.atoiAll s = .ok (atV s).1 := by
      have := h.1
      unfold atV at this ⊢
      rcases ha : Lib.atoiAll s with v | _ | _
      · rfl
      · rw [ha] at this; cases this
      · rw [ha] at this; cases this
    exact num_atoi h1 h.2.1 h.2.2.1 h.2.2.2
  · refine .inr ⟨h, ?_⟩
    by_cases q : numN s = -1
    · exact q
    · obtain ⟨u, h1, h2, h3⟩ := num_yes q
      exfalso
      apply h
      have h4 : atV s = ((u : Int), true) := by unfold atV; rw [h3, atoi_dec h2]
      rw [h4]
      refine ⟨rfl, by dsimp only; omega, by dsimp only; omega, ?_⟩
      dsimp only
      unfold Lib.itoa
      rw [if_neg (by omega), h3]
      rfl
noncomputable abbrev T1024 : List (FuncId × (List V → Option V)) := [(36, F51), (51, F42), (58, Fatoi), (67, FisV)]
noncomputable abbrev B24 (lvl n : Nat) : Mc := mcRd (Cx (hand T1024)) (lpOf (M1024 (hand T1024) 0).E) lvl n
theorem b24 (lvl n) : (B24 lvl n).E.keep = [0, 2, 3, 4, 5, 6, 8, 9, 32] ∧ (B24 lvl n).E.cnd = [32] ∧ (B24 lvl n).E.frz = [5, 6] ∧ (B24 lvl n).E.pro = [] ∧ (B24 lvl n).E.imp = [] ∧ (B24 lvl n).E.n = 38 ∧ (B24 lvl n).E.lvl = lvl ∧ (B24 lvl n).E.P = Tryz.prog ∧ (B24 lvl n).fuel = n ∧ (B24 lvl n).C = hand T1024 ∧ (B24 lvl n).E.ok = okL := ⟨rfl, rfl, rfl, rfl, rfl, rfl, rfl, rfl, rfl, rfl, rfl⟩
noncomputable abbrev as24 : Code := (rfA (sub [1, 1, 0, 1, 0] c1024)).1
noncomputable abbrev bd24 : Code := (rfA (sub [1, 1, 0, 1, 0] c1024)).2
noncomputable abbrev lp24 : Lp := lpOf (M1024 (hand T1024) 0).E
theorem b24_5 {lvl n} : regionInf (B24 lvl n).E (opsAt (sub [0, 1, 0] bd24)) = some   [Inf.mk false (some []) none false [6], Inf.mk false (some []) none false [16],     Inf.mk false (some []) none false [17], Inf.mk false (some []) none false [5, 18],     Inf.mk false (some []) none false [19, 18], Inf.mk false (some []) none false [18, 20],     Inf.mk false (some []) none false [21], Inf.mk false (some []) none false [5, 22],     Inf.mk false (some []) none false [23, 22], Inf.mk false (some []) none false [22, 24],     Inf.mk false (some []) none false [25], Inf.mk false (some []) none false [5, 26],     Inf.mk false (some []) none false [27, 26], Inf.mk false (some []) none false [4, 26],     Inf.mk false (some []) none false [29, 26], Inf.mk false (some []) none false [28, 30, 26],     Inf.mk false (some []) none false [26, 31]] := by kernel_rfl
def U24 (v3 : Nat) (x : Int) (b : Bool) (O : Heap) : Prop := O ⟨0, 3, 0⟩ = some (v3, .var [I x]) ∧ 1 ≤ x ∧ x ≤ 1000000001
theorem y24 {v3 ver : Nat} {τ : List (Nat × V)} (h3 : tget τ 3 = .ptr ⟨0, 3, 0⟩ v3 0 0) :
    YlG (hand T1024) 0 0 ⟨0, 39, 0⟩ ver (fun t => tx8 t ∧ txt1 t) (InvL ⟨0, 39, 0⟩ ver lp24 τ [9] as24 bd24 (fun _ => .ret) (U24 v3)) nxS := by
  refine yields_ofG rfl ⟨rfl, by decide, by decide⟩ (fun x b O O' e ⟨u1, u2⟩ => ⟨(e 0 3 0 (Nat.le_refl _) (by simp)).trans u1, u2⟩) ?_
  intro n lvl x t c O hn hlv hok ⟨u1, u2⟩
  obtain ⟨k1, s1, c1⟩ := t
  obtain ⟨hok, _⟩ := hok
  simp only [tx8] at hok
  have e := Fatoi_eq hok.1
  have lv0 := eq_true (show 0 < lvl by omega)
  rw [tv_mk]
  have hA : ∃ s : St, R (mcRd (Cx (hand T1024)) lp24 lvl n) as24 .top ⟨setPs τ [9] [.agg [I k1, .str s1, Ts c1]], [], O, c⟩ = some (.norm, s) ∧ s.O = O ∧ tget s.τ 3 = .ptr ⟨0, 3, 0⟩ v3 0 0 ∧ tget s.τ 4 = .ptr ⟨lvl, 4, 0⟩ c 0 0 ∧ lget s.L (4, 0) = some (c, .var [I k1, .str s1, Ts c1]) := by
    simp only [as24, rfA, sub, c1024, Tryz.f24, gets]
    change ∃ s : St, R (B24 lvl n) _ _ _ = _ ∧ _
    simp only [vmr, vmw, vmp, vza, ↓reduceIte, Nat.reduceBEq, Nat.reduceLT, Nat.reduceAdd, Nat.reduceEqDiff, reduceCtorEq, vmt, vzb, vzc, vlen, vleaf, velems, oks, vst, vmd, ty, Nat.reduceLeDiff, Nat.reduceMul, Nat.reduceSub, b24, setPs, X_top]
    refine ⟨_, rfl, rfl, ?_, ?_, ?_⟩
    all_goals simp only [vmr, vmw, vmp, vza, ↓reduceIte, Nat.reduceBEq, Nat.reduceLT, Nat.reduceAdd, Nat.reduceEqDiff, reduceCtorEq, vmt, vzb, vzc, vlen, vleaf, velems, oks, vst, vmd, ty, Nat.reduceLeDiff, Nat.reduceMul, Nat.reduceSub, b24, h3]
  obtain ⟨s, hr, hO, t3, t4, l4⟩ := hA
  refine ⟨s, hr, hO, fun O2 ho hq => ?_⟩
  have g1 := (ho ⟨0, 3, 0⟩ (by simp)).trans u1
  have hd := @b24_5 lvl n
  simp only [bd24, rfA, sub, c1024, Tryz.f24, gets, opsAt] at hd
  generalize Obj.loop lp24 τ [9] as24 bd24 .busy none = ob at hq ⊢
  simp only [bd24, rfA, sub, c1024, Tryz.f24, gets]
  change BodyG _ _ _ _ _ _ _ _ _ (R (B24 lvl n) _ _ _)
  simp only [nxS]
  unfold atR at e
  have hnb := numN_bd s1
  have fin : ∀ s3 : St, s3.O = O2 → numN s1 = -1 → BodyG 0 ⟨0, 39, 0⟩ ver lvl ob O2 (fun _ => .ret) (U24 v3) (true, max x (numN s1 + 1)) (some (.norm, s3)) := fun s3 h h1 => ⟨_, s3, rfl, rfl, by rw [h]; exact hq, ⟨by rw [h, h1, show max x (-1 + 1) = x by omega]; exact g1, by omega⟩, fun l sl off _ _ => by rw [h]⟩
  rcases num_test s1 with ⟨a1, a2, a3, a4, a5⟩ | ⟨a1, a2⟩
  · rw [a1] at e
    have a2' := eq_true a2
    have a2g : ((atV s1).1 ≥ 0) = True := eq_true a2
    have a3' := eq_true a3
    have e2 := F42_eq a2 (by omega)
    have q4 : (Lib.itoa (atV s1).1 == s1) = true := by simpa using a4
    have w5 : IntKind.i64.wrap ((atV s1).1 + 1) = (atV s1).1 + 1 := by rw [wrap_id] <;> omega
    simp only [atE, if_true] at e
    simp only [vmr, vmw, vmp, vza, ↓reduceIte, Nat.reduceBEq, Nat.reduceLT, Nat.reduceAdd, Nat.reduceEqDiff, reduceCtorEq, vmt, vzb, vzc, vlen, vleaf, velems, oks, vst, vmd, ty, Nat.reduceLeDiff, Nat.reduceMul, Nat.reduceSub, b24, t3, t4, l4, g1, obj_lo, put_lo, oput_get, key_eq, lv0, e, e2, hd, a2', a2g, a3', q4, strOp, w5, maxI, X_top, Tryz.underlying90]
    refine ⟨_, _, rfl, rfl, ?_, ⟨?_, ?_⟩, fun l sl off h0 hl => ?_⟩
    · simp [oput_get, key_eq, hq]
    · simp [oput_get, key_eq, a5]
    · rw [a5]; dsimp only; omega
    · have hl0 : l ≠ 0 := by omega
      simp [oput_get, key_eq, hl0]
  · cases b1 : (atV s1).2 with
    | false =>
      rw [b1] at e
      simp only [atE, Bool.false_eq_true, if_false] at e
      simp only [vmr, vmw, vmp, vza, ↓reduceIte, Nat.reduceBEq, Nat.reduceLT, Nat.reduceAdd, Nat.reduceEqDiff, reduceCtorEq, vmt, vzb, vzc, vlen, vleaf, velems, oks, vst, vmd, ty, Nat.reduceLeDiff, Nat.reduceMul, Nat.reduceSub, b24, t3, t4, l4, g1, obj_lo, put_lo, oput_get, key_eq, lv0, e, hd, X_top, Tryz.underlying90]
      exact fin _ rfl a2
    | true =>
      rw [b1] at e
      simp only [atE, if_true] at e
      by_cases b2 : 0 ≤ (atV s1).1
      · have b2' := eq_true b2
        have b2g : ((atV s1).1 ≥ 0) = True := eq_true b2
        by_cases b3 : (atV s1).1 ≤ 1000000000
        · have b3' := eq_true b3
          have e2 := F42_eq b2 (by omega)
          have q4 : (Lib.itoa (atV s1).1 == s1) = false := by
            cases h : Lib.itoa (atV s1).1 == s1 with
            | false => rfl
            | true => exact absurd ⟨b1, b2, b3, by simpa using h⟩ a1
          simp only [vmr, vmw, vmp, vza, ↓reduceIte, Nat.reduceBEq, Nat.reduceLT, Nat.reduceAdd, Nat.reduceEqDiff, reduceCtorEq, vmt, vzb, vzc, vlen, vleaf, velems, oks, vst, vmd, ty, Nat.reduceLeDiff, Nat.reduceMul, Nat.reduceSub, b24, t3, t4, l4, g1, obj_lo, put_lo, oput_get, key_eq, lv0, e, e2, hd, b2', b2g, b3', q4, strOp, X_top, Tryz.underlying90]
          exact fin _ rfl a2
        · have b3' := eq_false b3
          simp only [vmr, vmw, vmp, vza, ↓reduceIte, Nat.reduceBEq, Nat.reduceLT, Nat.reduceAdd, Nat.reduceEqDiff, reduceCtorEq, vmt, vzb, vzc, vlen, vleaf, velems, oks, vst, vmd, ty, Nat.reduceLeDiff, Nat.reduceMul, Nat.reduceSub, b24, t3, t4, l4, g1, obj_lo, put_lo, oput_get, key_eq, lv0, e, hd, b2', b2g, b3', X_top, Tryz.underlying90]
          exact fin _ rfl a2
      · have b2' := eq_false b2
        have b2g : ((atV s1).1 ≥ 0) = False := eq_false b2
        simp only [vmr, vmw, vmp, vza, ↓reduceIte, Nat.reduceBEq, Nat.reduceLT, Nat.reduceAdd, Nat.reduceEqDiff, reduceCtorEq, vmt, vzb, vzc, vlen, vleaf, velems, oks, vst, vmd, ty, Nat.reduceLeDiff, Nat.reduceMul, Nat.reduceSub, b24, t3, t4, l4, g1, obj_lo, put_lo, oput_get, key_eq, lv0, e, hd, b2', b2g, X_top, Tryz.underlying90]
        exact fin _ rfl a2
theorem tx8_kids (k : Int) (s : List UInt8) (c : List Tm) (h : tx8 (.mk k s c)) : ∀ u ∈ c, tx8 u := fun u hu => by
  simp only [tx8] at h
  exact tx8_mem h.2 hu
theorem h1024 : SoundHand Tryz.prog (hand T1024) := sound_cons F51_sound <| sound_cons F42_sound <| sound_cons F58_sound2 <| sound_cons F25_sound sound_nil
def Fi24 (n : Nat) (v : V) (r : Option (Ex × St)) : Prop := Fin (M1024 (hand T1024) n) [.tmp 2] r = some (.ret v)
theorem w24 (a : List Tm) (hb : szs a ≤ 1000000) (ho : txs a) (h8 : tx8s a) : SoundPure Tryz.prog 24 [Ts a] (.ret (I (nxL 1 a))) := by
  refine s1024 h1024 (3 * szs a + 10) (by simp) rfl ?_
  show Fi24 _ _ _
  have e1 := F51_eq a
  simp only [c1024, Tryz.f24, gets]
  simp only [vmr, vmw, vmp, vza, ↓reduceIte, Nat.reduceBEq, Nat.reduceLT, Nat.reduceAdd, Nat.reduceEqDiff, reduceCtorEq, vmt, vzb, vzc, vlen, vleaf, velems, oks, vst, vmd, ty, Nat.reduceLeDiff, Nat.reduceMul, Nat.reduceSub, m1024, e1]
  have hc : ∀ s : St, tget s.τ 3 = .ptr ⟨0, 3, 0⟩ 0 0 0 → lget s.L (3, 0) = some (0, .var [I 1]) →
      ∃ c' O', (M1024 (hand T1024) (3 * szs a + 10)).call.fn 66 ([] ++ [.mref (loopKey (M1024 (hand T1024) (3 * szs a + 10)).E) s.c] ++ [.iptr [Ts a]]) ((M1024 (hand T1024) (3 * szs a + 10)).E.lvl + 1) (s.c + 1) (heapOf (M1024 (hand T1024) (3 * szs a + 10)).E.lvl (lput s.L ((M1024 (hand T1024) (3 * szs a + 10)).E.n + 1, 0) (s.c, .loop (lpOf (M1024 (hand T1024) (3 * szs a + 10)).E) s.τ [9] as24 bd24 .ready none)) s.O) = some (.ret (.tup []), c', O') ∧
        O' (loopKey (M1024 (hand T1024) (3 * szs a + 10)).E) = some (s.c, .loop (lpOf (M1024 (hand T1024) (3 * szs a + 10)).E) s.τ [9] as24 bd24 (if true then .ready else .done) (if true then none else some .ret)) ∧ U24 0 (nxL 1 a) true O' := fun s h3 g1 => by
    obtain ⟨c', O', q1, ⟨q2, q3⟩, _⟩ := c81 (H := hand T1024) rfl rfl (ok := fun t => tx8 t ∧ txt1 t) (step := nxS) (fun k s c h => ⟨by have := h.2; simp only [txt1] at this; exact this.1, fun u hu => ⟨tx8_kids k s c h.1 u hu, txt_kids k s c h.2 u hu⟩⟩) (szs a + 1) a 0 0 ⟨0, 39, 0⟩ s.c (InvL (⟨0, 39, 0⟩ : Key) s.c lp24 s.τ [9] as24 bd24 (fun _ => .ret) (U24 0)) (3 * szs a + 10) 1 (s.c + 1) (heapOf 0 (lput s.L (39, 0) (s.c, .loop lp24 s.τ [9] as24 bd24 .ready none)) s.O) 1 (by omega) hb (fun t ht => ⟨tx8_mem h8 ht, txs_mem ho ht⟩) rfl (y24 h3) (fun x b O O' e ⟨i1, i2, i3⟩ => ⟨(e 0 39 0 (Nat.le_refl _)).trans i1, (e 0 3 0 (Nat.le_refl _)).trans i2, i3⟩) (by omega) (by omega)
      ⟨by rw [heapOf_get, if_pos rfl, lget_lput, if_pos rfl]; rfl, by rw [heapOf_get, if_pos rfl, lget_lput, if_neg (by simp)]; exact g1, by omega⟩
    have := nx_L a 1
    rw [this] at q2 q3
    exact ⟨c', O', q1, q2, q3⟩
  have rg := fun (s : St) (k : K) (h8) (hc) (hx) => range_G (M := M1024 (hand T1024) (3 * szs a + 10)) (k := k) (s := s) (f := .tmp 8) (ps := #[9]) (ac := as24) (bd := bd24) (g := 66) (caps := [.iptr [Ts a]]) (b := true) (j := .ret) (e := .norm) (Inv := U24 0 (nxL 1 a) true) (P := Fi24 (3 * szs a + 10) (I (nxL 1 a))) h8 (show okL.contains 66 = true by decide) rfl hc rfl hx
  simp only [as24, bd24, rfA, sub, c1024, Tryz.f24, gets] at rg hc
  refine rg _ _ ?_ (hc _ ?_ ?_) ?_
  case refine_4 =>
    intro s' hτ hu hl
    obtain ⟨u1, _⟩ := hu
    have g3 := hl 3 0 _ (by show 3 ≠ 39; omega) (.inl (by simp only [vmr, vmw, vmp, vza, ↓reduceIte, Nat.reduceBEq, Nat.reduceLT, Nat.reduceAdd, Nat.reduceEqDiff, reduceCtorEq, vmt, vzb, vzc, vlen, vleaf, velems, oks, vst, vmd, ty, Nat.reduceLeDiff, Nat.reduceMul, Nat.reduceSub, m1024])) u1
    have t3 : tget s'.τ 3 = .ptr ⟨0, 3, 0⟩ 0 0 0 := by rw [hτ]; simp only [vmr, vmw, vmp, vza, ↓reduceIte, Nat.reduceBEq, Nat.reduceLT, Nat.reduceAdd, Nat.reduceEqDiff, reduceCtorEq, vmt, vzb, vzc, vlen, vleaf, velems, oks, vst, vmd, ty, Nat.reduceLeDiff, Nat.reduceMul, Nat.reduceSub, m1024]
    clear hτ hl u1
    simp only [vmr, vmw, vmp, vza, ↓reduceIte, Nat.reduceBEq, Nat.reduceLT, Nat.reduceAdd, Nat.reduceEqDiff, reduceCtorEq, vmt, vzb, vzc, vlen, vleaf, velems, oks, vst, vmd, ty, Nat.reduceLeDiff, Nat.reduceMul, Nat.reduceSub, m1024, X_blk, t3, g3]
    unfold Fi24
    simp only [vmr, vmw, vmp, vza, ↓reduceIte, Nat.reduceBEq, Nat.reduceLT, Nat.reduceAdd, Nat.reduceEqDiff, reduceCtorEq, vmt, vzb, vzc, vlen, vleaf, velems, oks, vst, vmd, ty, Nat.reduceLeDiff, Nat.reduceMul, Nat.reduceSub, vzr, m1024]
  all_goals simp only [vmr, vmw, vmp, vza, ↓reduceIte, Nat.reduceBEq, Nat.reduceLT, Nat.reduceAdd, Nat.reduceEqDiff, reduceCtorEq, vmt, vzb, vzc, vlen, vleaf, velems, oks, vst, vmd, ty, Nat.reduceLeDiff, Nat.reduceMul, Nat.reduceSub, m1024]
noncomputable def F24 : List V → Option V := hF (α := List Tm) (fun p => [Ts p]) (fun p => szs p ≤ 1000000 ∧ txs p ∧ tx8s p) (fun p => I (nxL 1 p))
theorem F24_eq {a : List Tm} (h : szs a ≤ 1000000) (ho : txs a) (h8 : tx8s a) : F24 [Ts a] = some (I (nxL 1 a)) := hF_eq (a := a) (one_inj' fun _ _ => Ts_inj) (by simp only [cans, can_Ts]) ⟨h, ho, h8⟩
theorem F24_sound : ∀ args v, F24 args = some v → SoundPure Tryz.prog 24 args (.ret v) := hF_sound fun p hp => w24 p hp.1 hp.2.1 hp.2.2
end Go.Vi
set_option maxRecDepth 100000
set_option maxHeartbeats 1000000
namespace Go.Vi
open Go Go.Proofs
def kdB (x : List UInt8) : Int := if x[0]? = some 115 then 5 else if x[0]? = some 116 then 6 else 7
theorem kdB_V {k : Int} (hk : isV k = true) (s : List UInt8) : kdB (nameV k s) = k := by
  unfold kdB nameV
  rcases isV_iff.1 hk with rfl | rfl | rfl <;> rfl
theorem u8_eq (u : UInt8) (c : Nat) (hc : c < 256) : (((u.toNat : Nat) : Int) == (c : Int)) = (u == UInt8.ofNat c) := by
  have h2 : (UInt8.ofNat c).toNat = c := by simp only [UInt8.toNat_ofNat']; omega
  rw [Bool.eq_iff_iff, beq_iff_eq, beq_iff_eq]
  constructor
  · intro h; exact UInt8.toNat_inj.1 (by rw [h2]; omega)
  · intro h; rw [h, h2]
theorem w54 (x : List UInt8) (hx : x ≠ []) : SoundPure Tryz.prog 54 [.str x] (.ret (I (kdB x))) := by
  refine s1054 (H := []) sound_nil 1 (by simp) rfl ?_
  obtain ⟨u, ga⟩ : ∃ u, x[0]? = some u := ⟨_, List.getElem?_eq_getElem (List.length_pos_iff.2 hx)⟩
  have e1 : (((u.toNat : Nat) : Int) == 115) = (u == 115) := u8_eq u 115 (by omega)
  have e2 : (((u.toNat : Nat) : Int) == 116) = (u == 116) := u8_eq u 116 (by omega)
  simp only [c1054, Tryz.f54, gets, sub]
  unfold kdB
  rw [ga]
  by_cases q1 : u = 115
  · subst q1
    have z : ((115 : UInt8) == 115) = true := rfl
    rw [if_pos rfl]
    simp only [vmr, vmw, vmp, vza, ↓reduceIte, Nat.reduceBEq, Nat.reduceLT, Nat.reduceAdd, Nat.reduceEqDiff, reduceCtorEq, vmt, vzb, vzc, vlen, vleaf, velems, oks, vst, vmd, ty, Nat.reduceLeDiff, Nat.reduceMul, Nat.reduceSub, vzr, m1054, ga, e1, z]
  · have q1' : (u == 115) = false := by simpa using q1
    rw [if_neg (by simpa using q1)]
    by_cases q2 : u = 116
    · subst q2
      have z : ((116 : UInt8) == 116) = true := rfl
      rw [if_pos rfl]
      simp only [vmr, vmw, vmp, vza, ↓reduceIte, Nat.reduceBEq, Nat.reduceLT, Nat.reduceAdd, Nat.reduceEqDiff, reduceCtorEq, vmt, vzb, vzc, vlen, vleaf, velems, oks, vst, vmd, ty, Nat.reduceLeDiff, Nat.reduceMul, Nat.reduceSub, vzr, m1054, ga, e1, e2, z, q1']
    · have q2' : (u == 116) = false := by simpa using q2
      rw [if_neg (by simpa using q2)]
      simp only [vmr, vmw, vmp, vza, ↓reduceIte, Nat.reduceBEq, Nat.reduceLT, Nat.reduceAdd, Nat.reduceEqDiff, reduceCtorEq, vmt, vzb, vzc, vlen, vleaf, velems, oks, vst, vmd, ty, Nat.reduceLeDiff, Nat.reduceMul, Nat.reduceSub, vzr, m1054, ga, e1, e2, q1', q2']
noncomputable def Fkind : List V → Option V := hF (α := List UInt8) (fun a => [.str a]) (fun a => a ≠ []) (fun a => I (kdB a))
theorem Fkind_eq {a : List UInt8} (h : a ≠ []) : Fkind [.str a] = some (I (kdB a)) := hF_eq (a := a) (one_inj' fun _ _ => Str_inj) (by simp only [cans, canStr]) h
theorem F54_sound : ∀ args v, Fkind args = some v → SoundPure Tryz.prog 54 args (.ret v) := hF_sound fun p hp => w54 p hp
noncomputable def F1055 (m : Nat) : List V → Option V := hF (α := Nat) (fun n => [I n]) (fun n => n < m ∧ n ≤ 2000000000) (fun n => .str (Lib.decDigits n))
theorem F1055_eq {m n : Nat} (h : n < m) (h2 : n ≤ 2000000000) : F1055 m [I n] = some (.str (Lib.decDigits n)) := hF_eq (a := n) (one_inj' fun _ _ h => Int.ofNat.inj (I_inj h)) (by simp only [cans, canI]) ⟨h, h2⟩
theorem w1055 : ∀ (m n : Nat), n ≤ m → n ≤ 2000000000 → SoundPure Tryz.prog 55 [I n] (.ret (.str (Lib.decDigits n))) := by
  intro m
  induction m using Nat.strongRecOn with
  | ind m IH =>
  intro n hm hn
  have hH : SoundHand Tryz.prog (hand [(55, F1055 n)]) := sound_cons (hF_sound fun p hp => IH p (by omega) p (Nat.le_refl _) hp.2) sound_nil
  refine s1055 hH 1 (by simp) rfl ?_
  have hd := @d1055_3 (hand [(55, F1055 n)]) 1
  simp only [c1055, Tryz.f55, gets, sub, opsAt] at hd ⊢
  have r1 : roomOk Tryz.prog 5 1 = true := by simp [roomOk, ty, cellsV, leafV]
  have t10 : ((10 : Int) = 0) = False := eq_false (by omega)
  have sb : u8T Tryz.prog 111 = true := by kernel_rfl
  have sb2 : strT Tryz.prog 9 = true := by kernel_rfl
  have bv : ∀ d : Nat, d < 10 → bytesV [V.int .u8 ((48 + d : Nat) : Int)] = some [UInt8.ofNat (48 + d)] := fun d hd => by
    simp only [bytesV]
    rw [if_pos (by omega)]
    rfl
  by_cases q : n < 10
  · have q' : ((n : Int) < 10) = True := eq_true (by omega)
    have w1 : IntKind.i64.wrap (48 + (n : Int)) = ((48 + n : Nat) : Int) := by rw [wrap_id] <;> omega
    have z1 : (2 : Int) ^ IntKind.u8.bits = 256 := by decide
    have z2 : IntKind.u8.signed = false := rfl
    have w2 : IntKind.u8.wrap ((48 + n : Nat) : Int) = ((48 + n : Nat) : Int) := by
      simp only [IntKind.wrap, z1, z2, Bool.false_and, Bool.false_eq_true, if_false]
      omega
    have bn := bv n q
    rw [Lib.decDigits_one q]
    simp only [vmr, vmw, vmp, vza, ↓reduceIte, Nat.reduceBEq, Nat.reduceLT, Nat.reduceAdd, Nat.reduceEqDiff, reduceCtorEq, vmt, vzb, vzc, vlen, vleaf, velems, oks, vst, vmd, ty, Nat.reduceLeDiff, Nat.reduceMul, Nat.reduceSub, vzr, m1055, q', w1, w2, r1, convB, sb, sb2, bn, List.map_cons, List.map_nil]
  · have q' : ((n : Int) < 10) = False := eq_false (by omega)
    have e := F1055_eq (m := n) (n := n / 10) (by omega) (by omega)
    have bn := bv (n % 10) (by omega)
    have wq : IntKind.i64.wrap (Int.tdiv (n : Int) 10) = ((n / 10 : Nat) : Int) := by
      rw [show Int.tdiv (n : Int) 10 = ((n / 10 : Nat) : Int) from rfl, wrap_id] <;> omega
    have wr : IntKind.i64.wrap (Int.tmod (n : Int) 10) = ((n % 10 : Nat) : Int) := by
      rw [show Int.tmod (n : Int) 10 = ((n % 10 : Nat) : Int) from rfl, wrap_id] <;> omega
    have tm : Int.tmod (n : Int) 10 = ((n % 10 : Nat) : Int) := rfl
    have w1 : IntKind.i64.wrap (48 + ((n % 10 : Nat) : Int)) = ((48 + n % 10 : Nat) : Int) := by rw [wrap_id] <;> omega
    have z1 : (2 : Int) ^ IntKind.u8.bits = 256 := by decide
    have z2 : IntKind.u8.signed = false := rfl
    have w2 : IntKind.u8.wrap ((48 + n % 10 : Nat) : Int) = ((48 + n % 10 : Nat) : Int) := by
      simp only [IntKind.wrap, z1, z2, Bool.false_and, Bool.false_eq_true, if_false]
      omega
    have hl : ((Lib.decDigits (n / 10)).length + 1 ≤ 9223372036854775807) = True := eq_true (by rw [Lib.decDigits_length]; have := nd_le 9 (n / 10) (by omega); omega)
    rw [show Lib.decDigits n = Lib.decDigits (n / 10) ++ [UInt8.ofNat (48 + n % 10)] by rw [Lib.decDigits, dif_neg q]]
    simp only [vmr, vmw, vmp, vza, ↓reduceIte, Nat.reduceBEq, Nat.reduceLT, Nat.reduceAdd, Nat.reduceEqDiff, reduceCtorEq, vmt, vzb, vzc, vlen, vleaf, velems, oks, vst, vmd, ty, Nat.reduceLeDiff, Nat.reduceMul, Nat.reduceSub, vzr, m1055, q', hd, e, r1, t10, wq, wr, tm, w1, w2, convB, sb, sb2, bn, strOp, hl, List.map_cons, List.map_nil]
noncomputable def Fdig : List V → Option V := hF (α := Nat) (fun n => [I n]) (fun n => n ≤ 2000000000) (fun n => .str (Lib.decDigits n))
theorem Fdig_eq {n : Nat} (h2 : n ≤ 2000000000) : Fdig [I n] = some (.str (Lib.decDigits n)) := hF_eq (a := n) (one_inj' fun _ _ h => Int.ofNat.inj (I_inj h)) (by simp only [cans, canI]) h2
theorem F1055_sound : ∀ args v, Fdig args = some v → SoundPure Tryz.prog 55 args (.ret v) := hF_sound fun p hp => w1055 _ p (Nat.le_refl _) hp
end Go.Vi
