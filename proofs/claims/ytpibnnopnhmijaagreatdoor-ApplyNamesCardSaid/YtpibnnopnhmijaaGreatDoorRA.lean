/-
  The kit's contract of strings.ContainsFunc at this program, as the kit's own tool has laid it in plain words.
-/
import Derived.Shelf.GgClosure.StringsRunes
import Derived.Test.YtpibnnopnhmijaaGreatDoorProg
import Derived.KernelRfl
import Derived.Tactics
import Derived.Tactics2
import Derived.Shelf.LaysM
import Derived.Shelf.Strconv.Itoa3
import Derived.Shelf.Strings.Search3
import Derived.Test.YtpibnnopnhmijaaGreatDoorT
import Derived.Test.YtpibnnopnhmijaaGreatDoorVD
set_option linter.unusedSimpArgs false
set_option linter.unusedVariables false
namespace Go.Proofs
open Go.Shelf
def Tryz.laysGw17_ren : Go.Shelf.Ren := ⟨fun | 17 => 99 | 15 => 116 | 20 => 132 | n => n, fun | 9 => 9 | 23 => 119 | 4 => 4 | 3 => 3 | 0 => 0 | 21 => 21 | n => n, fun | n => n⟩
theorem Tryz.laysGw17 : Go.Proofs.LaysGw.n17 Tryz.prog Tryz.laysGw17_ren := {
  mixed := by kernel_rfl
  f15 := Tryz.func116.trans (congrArg some (by kernel_rfl))
  f17 := Tryz.func99.trans (congrArg some (by kernel_rfl))
  f20 := Tryz.func132.trans (congrArg some (by kernel_rfl))
  t0 := Tryz.underlying0
  a0 := Tryz.isAgg0
  z0 := Tryz.sizeOf0
  v0 := Tryz.zeroValue0
  i0 := by kernel_rfl
  t3 := Tryz.underlying3
  a3 := Tryz.isAgg3
  z3 := Tryz.sizeOf3
  v3 := Tryz.zeroValue3
  i3 := by kernel_rfl
  t4 := Tryz.underlying4
  a4 := Tryz.isAgg4
  z4 := Tryz.sizeOf4
  v4 := Tryz.zeroValue4
  i4 := by kernel_rfl
  t9 := Tryz.underlying9
  a9 := Tryz.isAgg9
  z9 := Tryz.sizeOf9
  v9 := Tryz.zeroValue9
  i9 := by kernel_rfl
  t21 := Tryz.underlying21
  a21 := Tryz.isAgg21
  z21 := Tryz.sizeOf21
  v21 := Tryz.zeroValue21
  i21 := by kernel_rfl
  t23 := Tryz.underlying119
  a23 := Tryz.isAgg119
  z23 := Tryz.sizeOf119
  v23 := Tryz.zeroValue119
  i23 := by kernel_rfl }
open Go.RowKit Go.Lib in
theorem Tryz.strings_ContainsFunc_runes (g : Nat) (lb : Array Value) (eg : ∀ args w, (callFunc g args).run Tryz.prog w = .ok (.enter g args) w) (p : Nat → Bool) (s : ByteArray) (w : World) (hp : PredAtRunes Tryz.prog g lb p w) :
    Calls Tryz.prog 99 #[.string s, .func (.func g) #[] lb] w fun e w' => e = .returned (.bool (decide (0 ≤ Lib.idxFunc p true s))) ∧ Below w.heap.size w w' := Any.strings_ContainsFunc_runes Tryz.laysGw17 g lb eg p s w hp
end Go.Proofs
namespace Go.Proofs
open Go.Shelf
def Tryz.laysM171_ren : Go.Shelf.Ren := ⟨fun | 171 => 51 | 243 => 82 | 246 => 103 | 283 => 118 | 284 => 119 | 285 => 120 | 286 => 121 | 129 => 135 | 317 => 134 | 318 => 136 | 319 => 137 | 320 => 138 | 337 => 145 | 338 => 146 | n => n, fun | 3 => 3 | 9 => 9 | 2 => 2 | 4 => 4 | 171 => 134 | 0 => 0 | 53 => 135 | 37 => 111 | 5 => 5 | 173 => 138 | 212 => 152 | 51 => 146 | 20 => 20 | 213 => 153 | 46 => 130 | 232 => 162 | 233 => 163 | n => n, fun | 17 => 3 | 18 => 4 | 19 => 5 | n => n⟩
theorem Tryz.laysM171 : Go.Proofs.LaysM.n171 Tryz.prog Tryz.laysM171_ren := {
  mixed := by kernel_rfl
  f129 := Tryz.func135.trans (congrArg some (by kernel_rfl))
  f171 := Tryz.func51.trans (congrArg some (by kernel_rfl))
  f243 := Tryz.func82.trans (congrArg some (by kernel_rfl))
  f246 := Tryz.func103.trans (congrArg some (by kernel_rfl))
  f283 := Tryz.func118.trans (congrArg some (by kernel_rfl))
  f284 := Tryz.func119.trans (congrArg some (by kernel_rfl))
  f285 := Tryz.func120.trans (congrArg some (by kernel_rfl))
  f286 := Tryz.func121.trans (congrArg some (by kernel_rfl))
  f317 := Tryz.func134.trans (congrArg some (by kernel_rfl))
  f318 := Tryz.func136.trans (congrArg some (by kernel_rfl))
  f319 := Tryz.func137.trans (congrArg some (by kernel_rfl))
  f320 := Tryz.func138.trans (congrArg some (by kernel_rfl))
  f337 := Tryz.func145.trans (congrArg some (by kernel_rfl))
  f338 := Tryz.func146.trans (congrArg some (by kernel_rfl))
  t0 := Tryz.underlying0
  a0 := Tryz.isAgg0
  z0 := Tryz.sizeOf0
  v0 := Tryz.zeroValue0
  t2 := Tryz.underlying2
  a2 := Tryz.isAgg2
  z2 := Tryz.sizeOf2
  v2 := Tryz.zeroValue2
  t3 := Tryz.underlying3
  a3 := Tryz.isAgg3
  z3 := Tryz.sizeOf3
  v3 := Tryz.zeroValue3
  t4 := Tryz.underlying4
  a4 := Tryz.isAgg4
  z4 := Tryz.sizeOf4
  v4 := Tryz.zeroValue4
  t5 := Tryz.underlying5
  a5 := Tryz.isAgg5
  z5 := Tryz.sizeOf5
  v5 := Tryz.zeroValue5
  t9 := Tryz.underlying9
  a9 := Tryz.isAgg9
  z9 := Tryz.sizeOf9
  v9 := Tryz.zeroValue9
  t20 := Tryz.underlying20
  a20 := Tryz.isAgg20
  z20 := Tryz.sizeOf20
  v20 := Tryz.zeroValue20
  t37 := Tryz.underlying111
  a37 := Tryz.isAgg111
  z37 := Tryz.sizeOf111
  v37 := Tryz.zeroValue111
  t46 := Tryz.underlying130
  a46 := Tryz.isAgg130
  z46 := Tryz.sizeOf130
  v46 := Tryz.zeroValue130
  t51 := Tryz.underlying146
  a51 := Tryz.isAgg146
  z51 := Tryz.sizeOf146
  v51 := Tryz.zeroValue146
  t53 := Tryz.underlying135
  a53 := Tryz.isAgg135
  z53 := Tryz.sizeOf135
  v53 := Tryz.zeroValue135
  t171 := Tryz.underlying134
  a171 := Tryz.isAgg134
  z171 := Tryz.sizeOf134
  v171 := Tryz.zeroValue134
  t173 := Tryz.underlying138
  a173 := Tryz.isAgg138
  z173 := Tryz.sizeOf138
  v173 := Tryz.zeroValue138
  t212 := Tryz.underlying152
  a212 := Tryz.isAgg152
  z212 := Tryz.sizeOf152
  v212 := Tryz.zeroValue152
  t213 := Tryz.underlying153
  a213 := Tryz.isAgg153
  z213 := Tryz.sizeOf153
  t232 := Tryz.underlying162
  a232 := Tryz.isAgg162
  z232 := Tryz.sizeOf162
  v232 := Tryz.zeroValue162
  t233 := Tryz.underlying163
  a233 := Tryz.isAgg163
  z233 := Tryz.sizeOf163
  v233 := Tryz.zeroValue163
  g17 := by kernel_rfl
  g18 := by kernel_rfl
  g19 := by kernel_rfl
  i0 := by kernel_rfl
  i2 := by kernel_rfl
  i3 := by kernel_rfl
  i4 := by kernel_rfl
  i5 := by kernel_rfl
  i9 := by kernel_rfl
  i20 := by kernel_rfl
  i37 := by kernel_rfl
  i46 := by kernel_rfl
  i51 := by kernel_rfl
  i53 := by kernel_rfl
  i171 := by kernel_rfl
  i173 := by kernel_rfl
  i212 := by kernel_rfl
  i232 := by kernel_rfl
  i233 := by kernel_rfl
  m17 := by kernel_rfl
  m18 := by kernel_rfl
  m19 := by kernel_rfl }
open Go.RowKit Go.Sort Go.Lib in
theorem Tryz.strconv_Itoa (n : Int) (h0 : -9223372036854775808 ≤ n) (h1 : n ≤ 9223372036854775807) (w : World) (htab : Lib.TabIs Tryz.prog w "internal/strconv.uint64pow10" .u64 Lib.pow10Tab) :
    Calls Tryz.prog 51 #[.int .i64 n] w fun e w' => e = .returned (.string ⟨(Lib.itoa n).toArray⟩) ∧ ∃ k os, w' = grow (w.drewN k) os := Any.strconv_Itoa Tryz.laysM171 n h0 h1 w htab
def Tryz.lays143_ren : Go.Shelf.Ren := ⟨fun | 143 => 80 | 219 => 97 | 217 => 111 | 225 => 112 | 224 => 113 | 267 => 114 | 266 => 129 | 314 => 130 | n => n, fun | 9 => 9 | 3 => 3 | 4 => 4 | 5 => 5 | 46 => 130 | 146 => 147 | 51 => 146 | n => n, fun | 1 => 0 | n => n⟩
theorem Tryz.lays143 : Go.Proofs.Lays.n143 Tryz.prog Tryz.lays143_ren := {
  mixed := by kernel_rfl
  f143 := Tryz.func80.trans (congrArg some (by kernel_rfl))
  f217 := Tryz.func111.trans (congrArg some (by kernel_rfl))
  f219 := Tryz.func97.trans (congrArg some (by kernel_rfl))
  f224 := Tryz.func113.trans (congrArg some (by kernel_rfl))
  f225 := Tryz.func112.trans (congrArg some (by kernel_rfl))
  f266 := Tryz.func129.trans (congrArg some (by kernel_rfl))
  f267 := Tryz.func114.trans (congrArg some (by kernel_rfl))
  f314 := Tryz.func130.trans (congrArg some (by kernel_rfl))
  t3 := Tryz.underlying3
  a3 := Tryz.isAgg3
  z3 := Tryz.sizeOf3
  v3 := Tryz.zeroValue3
  t4 := Tryz.underlying4
  a4 := Tryz.isAgg4
  z4 := Tryz.sizeOf4
  v4 := Tryz.zeroValue4
  t5 := Tryz.underlying5
  a5 := Tryz.isAgg5
  z5 := Tryz.sizeOf5
  v5 := Tryz.zeroValue5
  t9 := Tryz.underlying9
  a9 := Tryz.isAgg9
  z9 := Tryz.sizeOf9
  v9 := Tryz.zeroValue9
  t46 := Tryz.underlying130
  a46 := Tryz.isAgg130
  z46 := Tryz.sizeOf130
  v46 := Tryz.zeroValue130
  t51 := Tryz.underlying146
  a51 := Tryz.isAgg146
  z51 := Tryz.sizeOf146
  v51 := Tryz.zeroValue146
  t146 := Tryz.underlying147
  a146 := Tryz.isAgg147
  z146 := Tryz.sizeOf147
  v146 := Tryz.zeroValue147
  g1 := by kernel_rfl }
open Go.RowKit Go.Lib in
theorem Tryz.strings_Index_one (s : ByteArray) (c : UInt8) (w : World) :
    Calls Tryz.prog 80 #[.string s, .string ⟨#[c]⟩] w fun e w' => e = .returned (.int .i64 (Lib.indexByte s.data.toList c)) ∧ w' = w := Any.strings_Index_one Tryz.lays143 s c w
def Tryz.lays144_ren : Go.Shelf.Ren := ⟨fun | 144 => 79 | 143 => 80 | 219 => 97 | 217 => 111 | 225 => 112 | 224 => 113 | 267 => 114 | 266 => 129 | 314 => 130 | n => n, fun | 9 => 9 | 4 => 4 | 3 => 3 | 5 => 5 | 46 => 130 | 146 => 147 | 51 => 146 | n => n, fun | 1 => 0 | n => n⟩
theorem Tryz.lays144 : Go.Proofs.Lays.n144 Tryz.prog Tryz.lays144_ren := {
  mixed := by kernel_rfl
  f143 := Tryz.func80.trans (congrArg some (by kernel_rfl))
  f144 := Tryz.func79.trans (congrArg some (by kernel_rfl))
  f217 := Tryz.func111.trans (congrArg some (by kernel_rfl))
  f219 := Tryz.func97.trans (congrArg some (by kernel_rfl))
  f224 := Tryz.func113.trans (congrArg some (by kernel_rfl))
  f225 := Tryz.func112.trans (congrArg some (by kernel_rfl))
  f266 := Tryz.func129.trans (congrArg some (by kernel_rfl))
  f267 := Tryz.func114.trans (congrArg some (by kernel_rfl))
  f314 := Tryz.func130.trans (congrArg some (by kernel_rfl))
  t3 := Tryz.underlying3
  a3 := Tryz.isAgg3
  z3 := Tryz.sizeOf3
  v3 := Tryz.zeroValue3
  t4 := Tryz.underlying4
  a4 := Tryz.isAgg4
  z4 := Tryz.sizeOf4
  v4 := Tryz.zeroValue4
  t5 := Tryz.underlying5
  a5 := Tryz.isAgg5
  z5 := Tryz.sizeOf5
  v5 := Tryz.zeroValue5
  t9 := Tryz.underlying9
  a9 := Tryz.isAgg9
  z9 := Tryz.sizeOf9
  v9 := Tryz.zeroValue9
  t46 := Tryz.underlying130
  a46 := Tryz.isAgg130
  z46 := Tryz.sizeOf130
  v46 := Tryz.zeroValue130
  t51 := Tryz.underlying146
  a51 := Tryz.isAgg146
  z51 := Tryz.sizeOf146
  v51 := Tryz.zeroValue146
  t146 := Tryz.underlying147
  a146 := Tryz.isAgg147
  z146 := Tryz.sizeOf147
  v146 := Tryz.zeroValue147
  g1 := by kernel_rfl }
open Go.RowKit Go.Lib in
theorem Tryz.strings_Contains_one (s : ByteArray) (c : UInt8) (w : World) :
    Calls Tryz.prog 79 #[.string s, .string ⟨#[c]⟩] w fun e w' => e = .returned (.bool (decide (0 ≤ Lib.indexByte s.data.toList c))) ∧ w' = w := Any.strings_Contains_one Tryz.lays144 s c w
end Go.Proofs
set_option maxRecDepth 100000
set_option maxHeartbeats 1000000
namespace Go.Vi
open Go Go.Proofs
inductive Tm where
  | mk (k : Int) (s : List UInt8) (c : List Tm)
mutual
def tv : Tm → V
  | .mk k s c => .agg [I k, .str s, .lst (tvs c)]
def tvs : List Tm → List V
  | [] => []
  | x :: r => tv x :: tvs r
end
theorem tvs_map : ∀ l : List Tm, tvs l = l.map tv
  | [] => rfl
  | x :: r => by simp only [tvs, List.map_cons, tvs_map r]
abbrev Ts (l : List Tm) : V := .lst (l.map tv)
theorem tv_mk (k : Int) (s : List UInt8) (c : List Tm) : tv (.mk k s c) = .agg [I k, .str s, Ts c] := by simp only [tv, tvs_map]
mutual
def szt : Tm → Nat
  | .mk _ _ c => szs c + 1
def szs : List Tm → Nat
  | [] => 0
  | x :: r => szt x + szs r
end
theorem szs_len : ∀ l : List Tm, l.length ≤ szs l
  | [] => Nat.le_refl _
  | .mk _ _ c :: r => by have := szs_len r; simp only [szs, szt, List.length_cons]; omega
theorem szs_mem {k s c} : ∀ {l : List Tm}, Tm.mk k s c ∈ l → szs c < szs l
  | x :: r, h => by
    simp only [szs]
    rcases List.mem_cons.1 h with rfl | h
    · simp only [szt]; omega
    · have := szs_mem h; omega
mutual
theorem tv_inj : ∀ a b : Tm, tv a = tv b → a = b
  | .mk k s c, .mk k' s' c', h => by
    simp only [tv] at h
    injection h with h
    injection h with h1 h2
    injection h2 with h2 h3
    injection h3 with h3
    injection h3 with h3
    injection h1 with _ h1
    injection h2 with h2
    rw [h1, h2, tvs_inj c c' h3]
theorem tvs_inj : ∀ a b : List Tm, tvs a = tvs b → a = b
  | [], [], _ => rfl
  | [], _ :: _, h => by simp [tvs] at h
  | _ :: _, [], h => by simp [tvs] at h
  | x :: r, y :: q, h => by
    simp only [tvs] at h
    injection h with h1 h2
    rw [tv_inj x y h1, tvs_inj r q h2]
end
theorem Ts_inj {a b : List Tm} (h : Ts a = Ts b) : a = b := by
  injection h with h
  rw [← tvs_map, ← tvs_map] at h
  exact tvs_inj _ _ h
mutual
theorem can_tv : ∀ a : Tm, can (tv a) = tv a
  | .mk k s c => by simp only [tv, can, cans, cans_tvs c]
theorem cans_tvs : ∀ a : List Tm, cans (tvs a) = tvs a
  | [] => rfl
  | x :: r => by simp only [tvs, cans, can_tv x, cans_tvs r]
end
theorem can_Ts (l : List Tm) : can (Ts l) = Ts l := by
  show V.lst (cans (l.map tv)) = V.lst (l.map tv)
  rw [← tvs_map, cans_tvs]
def cmpS (a b : List UInt8) : Int := if Op.bytesLess a b = true then -1 else if (!(Op.bytesLess a b || a == b)) = true then 1 else 0
theorem w350 (a b : List UInt8) : SoundPure Tryz.prog 84 [.str a, .str b] (.ret (I (cmpS a b))) := by
  refine s350 (H := []) sound_nil 1 (by simp) rfl ?_
  simp only [c350, Tryz.f84, gets, sub]
  unfold cmpS
  cases h1 : Op.bytesLess a b with
  | true => simp only [vmr, vmw, vmp, vza, ↓reduceIte, Nat.reduceBEq, Nat.reduceLT, Nat.reduceAdd, Nat.reduceEqDiff, reduceCtorEq, vmt, vzb, vzc, vlen, vleaf, velems, oks, vst, vmd, ty, Nat.reduceLeDiff, Nat.reduceMul, Nat.reduceSub, vzr, m350, strOp, h1]
  | false =>
    cases h2 : a == b with
    | true => simp only [vmr, vmw, vmp, vza, ↓reduceIte, Nat.reduceBEq, Nat.reduceLT, Nat.reduceAdd, Nat.reduceEqDiff, reduceCtorEq, vmt, vzb, vzc, vlen, vleaf, velems, oks, vst, vmd, ty, Nat.reduceLeDiff, Nat.reduceMul, Nat.reduceSub, vzr, m350, strOp, h1, h2, Bool.or_true, Bool.or_false, Bool.false_or]
    | false => simp only [vmr, vmw, vmp, vza, ↓reduceIte, Nat.reduceBEq, Nat.reduceLT, Nat.reduceAdd, Nat.reduceEqDiff, reduceCtorEq, vmt, vzb, vzc, vlen, vleaf, velems, oks, vst, vmd, ty, Nat.reduceLeDiff, Nat.reduceMul, Nat.reduceSub, vzr, m350, strOp, h1, h2, Bool.or_true, Bool.or_false, Bool.false_or]
noncomputable def F350 : List V → Option V := hF (α := List UInt8 × List UInt8) (fun p => [.str p.1, .str p.2]) (fun _ => True) (fun p => I (cmpS p.1 p.2))
theorem F350_eq (a b : List UInt8) : F350 [.str a, .str b] = some (I (cmpS a b)) :=
  hF_eq (a := (a, b)) (two_inj (fun _ _ => Str_inj) (fun _ _ => Str_inj)) (by simp only [cans, canStr]) trivial
def cmpN (a b : Nat) : Int := if a < b then -1 else if a > b then 1 else 0
mutual
def cmpT : Tm → Tm → Int
  | .mk k s c, .mk k' s' c' => if k ≠ k' then (if k < k' then -1 else 1) else if cmpS s s' ≠ 0 then cmpS s s' else cmpL c c'
def cmpL : List Tm → List Tm → Int
  | [], [] => 0
  | [], _ :: _ => -1
  | _ :: _, [] => 1
  | x :: r, y :: q => if cmpT x y ≠ 0 then cmpT x y else cmpL r q
end
noncomputable def F329 (m : Nat) : List V → Option V := hF (α := List Tm × List Tm) (fun p => [Ts p.1, Ts p.2]) (fun p => szs p.1 < m) (fun p => I (cmpL p.1 p.2))
theorem F329_eq {m : Nat} {a b : List Tm} (h : szs a < m) : F329 m [Ts a, Ts b] = some (I (cmpL a b)) :=
  hF_eq (a := (a, b)) (two_inj (fun _ _ => Ts_inj) (fun _ _ => Ts_inj)) (by simp only [cans, can_Ts]) h
noncomputable abbrev T329 (m : Nat) : List (FuncId × (List V → Option V)) := [(57, F329 m), (84, F350)]
def F329P (m n : Nat) (v : V) (r : Option (Ex × St)) : Prop := Fin (M329 (hand (T329 m)) n) [.tmp 4] r = some (.ret v)
theorem l329 {m n k} (a b : List Tm) (hl : a.length ≤ 1000000) (hm : szs a ≤ m) : ∀ r q i n' s, a.drop i = r → b.drop i = q → i ≤ a.length → i ≤ b.length → r.length < n' → tget s.τ 0 = Ts a → tget s.τ 1 = Ts b → tget s.τ 5 = I i →
    (∀ s', tget s'.τ 0 = Ts a → tget s'.τ 1 = Ts b → F329P m n (I (cmpN a.length b.length)) (X (M329 (hand (T329 m)) n) (.exit 0) k s')) →
    F329P m n (I (cmpL r q)) (L (M329 (hand (T329 m)) n) (sub [1, 0, 1, 0, 0] c329) n' k s)
  | [], q, i, n' + 1, s, ha, hb, ia, ib, hn, h0, h1, h5, hx => by
    have ea : a.length = i := by have := drop_nil' ha; omega
    have hc := inlt (drop_nil' ha)
    have e : cmpL [] q = cmpN a.length b.length := by
      cases q with
      | nil => have := drop_nil' hb; simp only [cmpL, cmpN]; rw [if_neg (by omega), if_neg (by omega)]
      | cons y q => have := (drop_cons hb).2.2; simp only [cmpL, cmpN]; rw [if_pos (by omega)]
    rw [L_succ, e]
    simp only [vmr, vmw, vmp, vza, ↓reduceIte, Nat.reduceBEq, Nat.reduceLT, Nat.reduceAdd, Nat.reduceEqDiff, reduceCtorEq, vmt, vzb, vzc, vlen, vleaf, velems, oks, vst, vmd, ty, Nat.reduceLeDiff, Nat.reduceMul, Nat.reduceSub, c329, Tryz.f57, m329, h0, h1, h5, hc]
    refine hx _ ?_ ?_
    all_goals simp only [vmr, vmw, vmp, vza, ↓reduceIte, Nat.reduceBEq, Nat.reduceLT, Nat.reduceAdd, Nat.reduceEqDiff, reduceCtorEq, vmt, vzb, vzc, vlen, vleaf, velems, oks, vst, vmd, ty, Nat.reduceLeDiff, Nat.reduceMul, Nat.reduceSub, m329, h0, h1]
  | x :: r, [], i, n' + 1, s, ha, hb, ia, ib, hn, h0, h1, h5, hx => by
    obtain ⟨g1, g2, g3⟩ := drop_cons ha
    have hc := ilt g3
    have hc2 := inlt (drop_nil' hb)
    have e : cmpL (x :: r) [] = cmpN a.length b.length := by
      have := drop_nil' hb; simp only [cmpL, cmpN]; rw [if_neg (by omega), if_pos (by omega)]
    rw [L_succ, e]
    simp only [vmr, vmw, vmp, vza, ↓reduceIte, Nat.reduceBEq, Nat.reduceLT, Nat.reduceAdd, Nat.reduceEqDiff, reduceCtorEq, vmt, vzb, vzc, vlen, vleaf, velems, oks, vst, vmd, ty, Nat.reduceLeDiff, Nat.reduceMul, Nat.reduceSub, c329, Tryz.f57, m329, h0, h1, h5, hc, hc2]
    refine hx _ ?_ ?_
    all_goals simp only [vmr, vmw, vmp, vza, ↓reduceIte, Nat.reduceBEq, Nat.reduceLT, Nat.reduceAdd, Nat.reduceEqDiff, reduceCtorEq, vmt, vzb, vzc, vlen, vleaf, velems, oks, vst, vmd, ty, Nat.reduceLeDiff, Nat.reduceMul, Nat.reduceSub, m329, h0, h1]
  | .mk k1 s1 c1 :: r, .mk k2 s2 c2 :: q, i, n' + 1, s, ha, hb, ia, ib, hn, h0, h1, h5, hx => by
    obtain ⟨g1, g2, g3⟩ := drop_cons ha
    obtain ⟨f1, f2, f3⟩ := drop_cons hb
    have hc := ilt g3
    have hc2 := ilt f3
    have hw := wsucc g3 hl
    have e1 := F350_eq s1 s2
    have e2 : F329 m [Ts c1, Ts c2] = some (I (cmpL c1 c2)) := F329_eq (by have := szs_mem (l := a) (List.mem_of_getElem? g1); omega)
    have ga : (a.map tv)[i]? = some (.agg [I k1, .str s1, Ts c1]) := by rw [List.getElem?_map, g1, Option.map_some, tv_mk]
    have gb : (b.map tv)[i]? = some (.agg [I k2, .str s2, Ts c2]) := by rw [List.getElem?_map, f1, Option.map_some, tv_mk]
    have hs := @d329_4 (hand (T329 m)) n
    have hs2 := @d329_5 (hand (T329 m)) n
    have hs3 := @d329_8 (hand (T329 m)) n
    have hs4 := @d329_11 (hand (T329 m)) n
    have ih := fun s => l329 (m := m) (n := n) (k := k) a b hl hm r q (i + 1) n' s g2 f2 (by omega) (by omega) (by simp at hn; omega)
    simp only [sub, c329, Tryz.f57, gets, opsAt] at hs hs2 hs3 hs4 ih
    rw [L_succ]
    by_cases q1 : k1 = k2
    · have d1 : (k1 != k2) = false := by rw [q1]; simp
      by_cases q2 : cmpS s1 s2 = 0
      · have d2 : ((0 : Int) != 0) = false := by decide
        by_cases q3 : cmpL c1 c2 = 0
        · have e : cmpL (.mk k1 s1 c1 :: r) (.mk k2 s2 c2 :: q) = cmpL r q := by simp only [cmpL, cmpT, q1, q2, q3, ne_eq, not_true_eq_false, if_false]
          rw [e]
          rw [q2] at e1
          rw [q3] at e2
          simp only [vmr, vmw, vmp, vza, ↓reduceIte, Nat.reduceBEq, Nat.reduceLT, Nat.reduceAdd, Nat.reduceEqDiff, reduceCtorEq, vmt, vzb, vzc, vlen, vleaf, velems, oks, vst, vmd, ty, Nat.reduceLeDiff, Nat.reduceMul, Nat.reduceSub, c329, Tryz.f57, m329, h0, h1, h5, hc, hc2, ga, gb, hs, hs2, hs3, hs4, d1, d2, e1, e2, hw]
          refine ih _ ?_ ?_ ?_ hx
          all_goals simp only [vmr, vmw, vmp, vza, ↓reduceIte, Nat.reduceBEq, Nat.reduceLT, Nat.reduceAdd, Nat.reduceEqDiff, reduceCtorEq, vmt, vzb, vzc, vlen, vleaf, velems, oks, vst, vmd, ty, Nat.reduceLeDiff, Nat.reduceMul, Nat.reduceSub, m329, h0, h1, hw]
        · have e : cmpL (.mk k1 s1 c1 :: r) (.mk k2 s2 c2 :: q) = cmpL c1 c2 := by simp only [cmpL, cmpT, q1, q2, q3, ne_eq, not_true_eq_false, not_false_eq_true, if_false, if_true]
          have d3 : (cmpL c1 c2 != 0) = true := by simpa using q3
          rw [e]
          rw [q2] at e1
          simp only [vmr, vmw, vmp, vza, ↓reduceIte, Nat.reduceBEq, Nat.reduceLT, Nat.reduceAdd, Nat.reduceEqDiff, reduceCtorEq, vmt, vzb, vzc, vlen, vleaf, velems, oks, vst, vmd, ty, Nat.reduceLeDiff, Nat.reduceMul, Nat.reduceSub, c329, Tryz.f57, m329, h0, h1, h5, hc, hc2, ga, gb, hs, hs2, hs3, hs4, d1, d2, d3, e1, e2, hw]
          unfold F329P
          simp only [vmr, vmw, vmp, vza, ↓reduceIte, Nat.reduceBEq, Nat.reduceLT, Nat.reduceAdd, Nat.reduceEqDiff, reduceCtorEq, vmt, vzb, vzc, vlen, vleaf, velems, oks, vst, vmd, ty, Nat.reduceLeDiff, Nat.reduceMul, Nat.reduceSub, vzr, m329]
      · have e : cmpL (.mk k1 s1 c1 :: r) (.mk k2 s2 c2 :: q) = cmpS s1 s2 := by simp only [cmpL, cmpT, q1, q2, ne_eq, not_true_eq_false, not_false_eq_true, if_false, if_true]
        have d2 : (cmpS s1 s2 != 0) = true := by simpa using q2
        rw [e]
        simp only [vmr, vmw, vmp, vza, ↓reduceIte, Nat.reduceBEq, Nat.reduceLT, Nat.reduceAdd, Nat.reduceEqDiff, reduceCtorEq, vmt, vzb, vzc, vlen, vleaf, velems, oks, vst, vmd, ty, Nat.reduceLeDiff, Nat.reduceMul, Nat.reduceSub, c329, Tryz.f57, m329, h0, h1, h5, hc, hc2, ga, gb, hs, hs2, hs3, hs4, d1, d2, e1, e2, hw]
        unfold F329P
        simp only [vmr, vmw, vmp, vza, ↓reduceIte, Nat.reduceBEq, Nat.reduceLT, Nat.reduceAdd, Nat.reduceEqDiff, reduceCtorEq, vmt, vzb, vzc, vlen, vleaf, velems, oks, vst, vmd, ty, Nat.reduceLeDiff, Nat.reduceMul, Nat.reduceSub, vzr, m329]
    · have d1 : (k1 != k2) = true := by simpa using q1
      by_cases q2 : k1 < k2
      · have e : cmpL (.mk k1 s1 c1 :: r) (.mk k2 s2 c2 :: q) = -1 := by simp only [cmpL, cmpT, q1, q2, ne_eq, not_true_eq_false, not_false_eq_true, if_false, if_true]; rw [if_pos (by decide)]
        have q2' := eq_true q2
        rw [e]
        simp only [vmr, vmw, vmp, vza, ↓reduceIte, Nat.reduceBEq, Nat.reduceLT, Nat.reduceAdd, Nat.reduceEqDiff, reduceCtorEq, vmt, vzb, vzc, vlen, vleaf, velems, oks, vst, vmd, ty, Nat.reduceLeDiff, Nat.reduceMul, Nat.reduceSub, c329, Tryz.f57, m329, h0, h1, h5, hc, hc2, ga, gb, hs, hs2, hs3, hs4, d1, q2', e1, e2, hw]
        unfold F329P
        simp only [vmr, vmw, vmp, vza, ↓reduceIte, Nat.reduceBEq, Nat.reduceLT, Nat.reduceAdd, Nat.reduceEqDiff, reduceCtorEq, vmt, vzb, vzc, vlen, vleaf, velems, oks, vst, vmd, ty, Nat.reduceLeDiff, Nat.reduceMul, Nat.reduceSub, vzr, m329]
      · have e : cmpL (.mk k1 s1 c1 :: r) (.mk k2 s2 c2 :: q) = 1 := by simp only [cmpL, cmpT, q1, q2, ne_eq, not_true_eq_false, not_false_eq_true, if_false, if_true]; rw [if_pos (by decide)]
        have q2' := eq_false q2
        rw [e]
        simp only [vmr, vmw, vmp, vza, ↓reduceIte, Nat.reduceBEq, Nat.reduceLT, Nat.reduceAdd, Nat.reduceEqDiff, reduceCtorEq, vmt, vzb, vzc, vlen, vleaf, velems, oks, vst, vmd, ty, Nat.reduceLeDiff, Nat.reduceMul, Nat.reduceSub, c329, Tryz.f57, m329, h0, h1, h5, hc, hc2, ga, gb, hs, hs2, hs3, hs4, d1, q2', e1, e2, hw]
        unfold F329P
        simp only [vmr, vmw, vmp, vza, ↓reduceIte, Nat.reduceBEq, Nat.reduceLT, Nat.reduceAdd, Nat.reduceEqDiff, reduceCtorEq, vmt, vzb, vzc, vlen, vleaf, velems, oks, vst, vmd, ty, Nat.reduceLeDiff, Nat.reduceMul, Nat.reduceSub, vzr, m329]
theorem w329 : ∀ (m : Nat) (a b : List Tm), szs a ≤ m → szs a ≤ 1000000 → SoundPure Tryz.prog 57 [Ts a, Ts b] (.ret (I (cmpL a b))) := by
  intro m
  induction m using Nat.strongRecOn with
  | ind m IH =>
  intro a b hm hb
  have hH : SoundHand Tryz.prog (hand (T329 (szs a))) := by
    refine sound_cons (hF_sound fun p hp => ?_) (sound_cons (hF_sound fun p _ => w350 p.1 p.2) sound_nil)
    exact IH (szs p.1) (by omega) p.1 p.2 (Nat.le_refl _) (by omega)
  refine s329 hH (a.length + 2) (by simp) rfl ?_
  show F329P (szs a) _ _ _
  have a1 := fun k s => @l329 (szs a) (a.length + 2) k a b (by have := szs_len a; omega) (Nat.le_refl _) a b 0 (a.length + 2) s rfl rfl (by omega) (by omega) (by omega)
  simp only [c329, Tryz.f57, gets, sub] at a1 ⊢
  simp only [vmr, vmw, vmp, vza, ↓reduceIte, Nat.reduceBEq, Nat.reduceLT, Nat.reduceAdd, Nat.reduceEqDiff, reduceCtorEq, vmt, vzb, vzc, vlen, vleaf, velems, oks, vst, vmd, ty, Nat.reduceLeDiff, Nat.reduceMul, Nat.reduceSub, m329]
  refine a1 _ _ ?_ ?_ ?_ (fun s' h0 h1 => ?_)
  case refine_4 =>
    unfold cmpN
    by_cases q1 : a.length < b.length
    · have q1' := eq_true (show (a.length : Int) < (b.length : Int) by omega)
      rw [if_pos q1]
      simp only [vmr, vmw, vmp, vza, ↓reduceIte, Nat.reduceBEq, Nat.reduceLT, Nat.reduceAdd, Nat.reduceEqDiff, reduceCtorEq, vmt, vzb, vzc, vlen, vleaf, velems, oks, vst, vmd, ty, Nat.reduceLeDiff, Nat.reduceMul, Nat.reduceSub, m329, h0, h1, q1']
      unfold F329P
      simp only [vmr, vmw, vmp, vza, ↓reduceIte, Nat.reduceBEq, Nat.reduceLT, Nat.reduceAdd, Nat.reduceEqDiff, reduceCtorEq, vmt, vzb, vzc, vlen, vleaf, velems, oks, vst, vmd, ty, Nat.reduceLeDiff, Nat.reduceMul, Nat.reduceSub, vzr, m329]
    · have q1' := eq_false (show ¬ (a.length : Int) < (b.length : Int) by omega)
      rw [if_neg q1]
      by_cases q2 : a.length > b.length
      · have q2' := eq_true (show (a.length : Int) > (b.length : Int) by omega)
        rw [if_pos q2]
        simp only [vmr, vmw, vmp, vza, ↓reduceIte, Nat.reduceBEq, Nat.reduceLT, Nat.reduceAdd, Nat.reduceEqDiff, reduceCtorEq, vmt, vzb, vzc, vlen, vleaf, velems, oks, vst, vmd, ty, Nat.reduceLeDiff, Nat.reduceMul, Nat.reduceSub, m329, h0, h1, q1', q2']
        unfold F329P
        simp only [vmr, vmw, vmp, vza, ↓reduceIte, Nat.reduceBEq, Nat.reduceLT, Nat.reduceAdd, Nat.reduceEqDiff, reduceCtorEq, vmt, vzb, vzc, vlen, vleaf, velems, oks, vst, vmd, ty, Nat.reduceLeDiff, Nat.reduceMul, Nat.reduceSub, vzr, m329]
      · have q2' := eq_false (show ¬ (a.length : Int) > (b.length : Int) by omega)
        rw [if_neg q2]
        simp only [vmr, vmw, vmp, vza, ↓reduceIte, Nat.reduceBEq, Nat.reduceLT, Nat.reduceAdd, Nat.reduceEqDiff, reduceCtorEq, vmt, vzb, vzc, vlen, vleaf, velems, oks, vst, vmd, ty, Nat.reduceLeDiff, Nat.reduceMul, Nat.reduceSub, m329, h0, h1, q1', q2']
        unfold F329P
        simp only [vmr, vmw, vmp, vza, ↓reduceIte, Nat.reduceBEq, Nat.reduceLT, Nat.reduceAdd, Nat.reduceEqDiff, reduceCtorEq, vmt, vzb, vzc, vlen, vleaf, velems, oks, vst, vmd, ty, Nat.reduceLeDiff, Nat.reduceMul, Nat.reduceSub, vzr, m329]
  all_goals simp only [vmr, vmw, vmp, vza, ↓reduceIte, Nat.reduceBEq, Nat.reduceLT, Nat.reduceAdd, Nat.reduceEqDiff, reduceCtorEq, vmt, vzb, vzc, vlen, vleaf, velems, oks, vst, vmd, ty, Nat.reduceLeDiff, Nat.reduceMul, Nat.reduceSub, m329]
mutual
theorem cmpT_eq : ∀ a b : Tm, cmpT a b = 0 ↔ a = b
  | .mk k s c, .mk k' s' c' => by
    have ih := cmpL_eq c c'
    have hs : cmpS s s' = 0 ↔ s = s' := by
      unfold cmpS
      constructor
      · intro h
        split at h
        · cases h
        · split at h
          · cases h
          · rename_i h1 h2
            have : (s == s') = true := by
              cases e : s == s' with
              | true => rfl
              | false => simp [e] at h2; simp_all
            simpa using this
      · rintro rfl
        have hl : Op.bytesLess s s = false := by
          induction s with
          | nil => rfl
          | cons x r ih => simp_all [Op.bytesLess]
        simp [hl]
    simp only [cmpT, ne_eq, Tm.mk.injEq]
    by_cases q1 : k = k'
    · rw [if_neg (by simp [q1])]
      by_cases q2 : s = s'
      · rw [if_neg (by simp [hs.2 q2]), ih]
        simp [q1, q2]
      · have := mt hs.1 q2
        rw [if_pos this]
        simp [this, q2]
    · rw [if_pos q1]
      simp only [q1, false_and, iff_false]
      split <;> decide
theorem cmpL_eq : ∀ a b : List Tm, cmpL a b = 0 ↔ a = b
  | [], [] => by simp [cmpL]
  | [], _ :: _ => by simp [cmpL]
  | _ :: _, [] => by simp [cmpL]
  | x :: r, y :: q => by
    have h1 := cmpT_eq x y
    have h2 := cmpL_eq r q
    simp only [cmpL, ne_eq, List.cons.injEq]
    by_cases e : cmpT x y = 0
    · rw [if_neg (by simp [e]), h2]
      simp [h1.1 e]
    · rw [if_pos e]
      simp [e, mt h1.2 e]
end
noncomputable def F29a : List V → Option V := hF (α := List Tm × List Tm) (fun p => [Ts p.1, Ts p.2]) (fun p => szs p.1 ≤ 1000000) (fun p => I (cmpL p.1 p.2))
theorem F29a_eq {a b : List Tm} (h : szs a ≤ 1000000) : F29a [Ts a, Ts b] = some (I (cmpL a b)) :=
  hF_eq (a := (a, b)) (two_inj (fun _ _ => Ts_inj) (fun _ _ => Ts_inj)) (by simp only [cans, can_Ts]) h
def eqB (a b : List Tm) : Bool := cmpL a b == 0
theorem eqB_iff {a b : List Tm} : eqB a b = true ↔ a = b := by unfold eqB; rw [beq_iff_eq]; exact cmpL_eq a b
theorem eqB_self (a : List Tm) : eqB a a = true := eqB_iff.2 rfl
theorem w312 (a b : List Tm) (h : szs a ≤ 1000000) : SoundPure Tryz.prog 23 [Ts a, Ts b] (.ret (.bool (eqB a b))) := by
  have hH : SoundHand Tryz.prog (hand [(57, F29a)]) := sound_cons (hF_sound fun p hp => w329 _ p.1 p.2 (Nat.le_refl _) (by omega)) sound_nil
  refine s312 hH 1 (by simp) rfl ?_
  simp only [c312, Tryz.f23, gets, sub]
  have e := F29a_eq (b := b) h
  have d : (cmpL a b == 0) = eqB a b := rfl
  simp only [vmr, vmw, vmp, vza, ↓reduceIte, Nat.reduceBEq, Nat.reduceLT, Nat.reduceAdd, Nat.reduceEqDiff, reduceCtorEq, vmt, vzb, vzc, vlen, vleaf, velems, oks, vst, vmd, ty, Nat.reduceLeDiff, Nat.reduceMul, Nat.reduceSub, vzr, m312, e, d]
noncomputable def F312 : List V → Option V := hF (α := List Tm × List Tm) (fun p => [Ts p.1, Ts p.2]) (fun p => szs p.1 ≤ 1000000) (fun p => .bool (eqB p.1 p.2))
theorem F312_eq {a b : List Tm} (h : szs a ≤ 1000000) : F312 [Ts a, Ts b] = some (.bool (eqB a b)) :=
  hF_eq (a := (a, b)) (two_inj (fun _ _ => Ts_inj) (fun _ _ => Ts_inj)) (by simp only [cans, can_Ts]) h
theorem F312_sound : ∀ args v, F312 args = some v → SoundPure Tryz.prog 23 args (.ret v) := hF_sound fun p hp => w312 p.1 p.2 hp
end Go.Vi
set_option maxRecDepth 100000
set_option maxHeartbeats 1000000
namespace Go.Vi
open Go Go.Proofs
mutual
def lmT (most n : Int) : Tm → Int
  | .mk _ _ c => n + 1 + lmL (most - (n + 1)) 0 c
def lmL (most n : Int) : List Tm → Int
  | [] => n
  | t :: r => if n + 1 > most then n + 1 else lmL most (lmT most n t) r
end
mutual
theorem szT_le : ∀ (t : Tm) (most n : Int), 0 ≤ n → n + 1 ≤ most → n + 1 ≤ lmT most n t ∧ lmT most n t ≤ 2 * most - n
  | .mk k s c, most, n, h0, h => by
    obtain ⟨h1, h2⟩ := szL_le c (most - (n + 1)) 0 (by omega) (by omega)
    simp only [lmT]
    omega
theorem szL_le : ∀ (l : List Tm) (most n : Int), 0 ≤ most → 0 ≤ n → n ≤ lmL most n l ∧ (lmL most n l ≤ n + 1 ∨ lmL most n l ≤ 2 * most - n + 1)
  | [], most, n, h0, h1 => by simp only [lmL]; omega
  | t :: r, most, n, h0, h1 => by
    simp only [lmL]
    split
    · omega
    · obtain ⟨h3, h4⟩ := szT_le t most n h1 (by omega)
      obtain ⟨h5, h6⟩ := szL_le r most (lmT most n t) h0 (by omega)
      omega
end
noncomputable def F708 (m : Nat) : List V → Option V := hF (α := List Tm × Int) (fun p => [Ts p.1, I p.2]) (fun p => szs p.1 < m ∧ 0 ≤ p.2 ∧ p.2 ≤ 1000) (fun p => I (lmL p.2 0 p.1))
theorem F708_eq {m : Nat} {a : List Tm} {k : Int} (h : szs a < m) (h0 : 0 ≤ k) (h1 : k ≤ 1000) : F708 m [Ts a, I k] = some (I (lmL k 0 a)) :=
  hF_eq (a := (a, k)) (two_inj (fun _ _ => Ts_inj) (fun _ _ => I_inj)) (by simp only [cans, can_Ts, canI]) ⟨h, h0, h1⟩
noncomputable abbrev T708 (m : Nat) : List (FuncId × (List V → Option V)) := [(6, F708 m)]
def P708 (m n : Nat) (v : V) (r : Option (Ex × St)) : Prop := Fin (M708 (hand (T708 m)) n) [.tmp 4] r = some (.ret v)
theorem l708 {m n k v} {most : Int} (a : List Tm) (h0 : 0 ≤ most) (h1 : most ≤ 1000) (hm : szs a ≤ m) : ∀ r i (x : Int) n' s, a.drop i = r → (i : Int) ≤ x → x ≤ 2 * most + 1 → r.length < n' → tget s.τ 8 = Ts a → tget s.τ 9 = I a.length → tget s.τ 10 = I i → tget s.τ 1 = I most → tget s.τ 5 = I x →
    (∀ s', tget s'.τ 5 = I (lmL most x r) → P708 m n v (X (M708 (hand (T708 m)) n) (.exit 0) k s')) →
    P708 m n v (L (M708 (hand (T708 m)) n) (sub [1, 1, 0, 1, 0, 0] c708) n' k s)
  | [], i, x, n' + 1, s, ha, hi, hx, hn, h8, h9, h10, h1', h5, hk => by
    have hc := inlt (drop_nil' ha)
    rw [L_succ]
    simp only [vmr, vmw, vmp, vza, ↓reduceIte, Nat.reduceBEq, Nat.reduceLT, Nat.reduceAdd, Nat.reduceEqDiff, reduceCtorEq, vmt, vzb, vzc, vlen, vleaf, velems, oks, vst, vmd, ty, Nat.reduceLeDiff, Nat.reduceMul, Nat.reduceSub, c708, Tryz.f6, m708, h8, h9, h10, hc]
    refine hk _ ?_
    simp only [vmr, vmw, vmp, vza, ↓reduceIte, Nat.reduceBEq, Nat.reduceLT, Nat.reduceAdd, Nat.reduceEqDiff, reduceCtorEq, vmt, vzb, vzc, vlen, vleaf, velems, oks, vst, vmd, ty, Nat.reduceLeDiff, Nat.reduceMul, Nat.reduceSub, m708, h5, lmL]
  | .mk k1 s1 c1 :: r, i, x, n' + 1, s, ha, hi, hx, hn, h8, h9, h10, h1', h5, hk => by
    obtain ⟨g1, g2, g3⟩ := drop_cons ha
    have hc := ilt g3
    have ga : (a.map tv)[i]? = some (.agg [I k1, .str s1, Ts c1]) := by rw [List.getElem?_map, g1, Option.map_some, tv_mk]
    have w1 : IntKind.i64.wrap (x + 1) = x + 1 := by rw [wrap_id] <;> omega
    rw [L_succ]
    by_cases q1 : x + 1 > most
    · have q1' := eq_true q1
      simp only [vmr, vmw, vmp, vza, ↓reduceIte, Nat.reduceBEq, Nat.reduceLT, Nat.reduceAdd, Nat.reduceEqDiff, reduceCtorEq, vmt, vzb, vzc, vlen, vleaf, velems, oks, vst, vmd, ty, Nat.reduceLeDiff, Nat.reduceMul, Nat.reduceSub, c708, Tryz.f6, m708, h8, h9, h10, h1', h5, hc, ga, w1, q1']
      refine hk _ ?_
      simp only [vmr, vmw, vmp, vza, ↓reduceIte, Nat.reduceBEq, Nat.reduceLT, Nat.reduceAdd, Nat.reduceEqDiff, reduceCtorEq, vmt, vzb, vzc, vlen, vleaf, velems, oks, vst, vmd, ty, Nat.reduceLeDiff, Nat.reduceMul, Nat.reduceSub, m708, lmL, q1']
    · have q1' := eq_false q1
      have w2 : IntKind.i64.wrap (most - (x + 1)) = most - (x + 1) := by rw [wrap_id] <;> omega
      have e := F708_eq (m := m) (a := c1) (k := most - (x + 1)) (by have := szs_mem (l := a) (List.mem_of_getElem? g1); omega) (by omega) (by omega)
      obtain ⟨b1, b2⟩ := szT_le (.mk k1 s1 c1) most x (by omega) (by omega)
      have w3 : IntKind.i64.wrap (x + 1 + lmL (most - (x + 1)) 0 c1) = x + 1 + lmL (most - (x + 1)) 0 c1 := by
        simp only [lmT] at b1 b2
        rw [wrap_id] <;> omega
      have w4 : IntKind.i64.wrap ((i : Int) + 1) = ((i + 1 : Nat) : Int) := by rw [wrap_id] <;> omega
      have ih := fun s => l708 (m := m) (n := n) (k := k) (v := v) (most := most) a h0 h1 hm r (i + 1) (lmT most x (.mk k1 s1 c1)) n' s g2 (by omega) (by omega) (by simp at hn; omega)
      simp only [sub, c708, Tryz.f6, gets] at ih
      simp only [vmr, vmw, vmp, vza, ↓reduceIte, Nat.reduceBEq, Nat.reduceLT, Nat.reduceAdd, Nat.reduceEqDiff, reduceCtorEq, vmt, vzb, vzc, vlen, vleaf, velems, oks, vst, vmd, ty, Nat.reduceLeDiff, Nat.reduceMul, Nat.reduceSub, c708, Tryz.f6, m708, h8, h9, h10, h1', h5, hc, ga, w1, q1', w2, e, w3, w4]
      refine ih _ ?_ ?_ ?_ ?_ ?_ (fun s' hs => hk s' ?_)
      case refine_6 => rw [hs]; simp only [lmL, q1', if_false]
      all_goals simp only [vmr, vmw, vmp, vza, ↓reduceIte, Nat.reduceBEq, Nat.reduceLT, Nat.reduceAdd, Nat.reduceEqDiff, reduceCtorEq, vmt, vzb, vzc, vlen, vleaf, velems, oks, vst, vmd, ty, Nat.reduceLeDiff, Nat.reduceMul, Nat.reduceSub, m708, h8, h9, h1', lmT]
theorem w708 : ∀ (m : Nat) (a : List Tm) (most : Int), szs a ≤ m → 0 ≤ most → most ≤ 1000 → SoundPure Tryz.prog 6 [Ts a, I most] (.ret (I (lmL most 0 a))) := by
  intro m
  induction m using Nat.strongRecOn with
  | ind m IH =>
  intro a most hm h0 h1
  have hH : SoundHand Tryz.prog (hand (T708 (szs a))) := sound_cons (hF_sound fun p hp => IH (szs p.1) (by omega) p.1 p.2 (Nat.le_refl _) hp.2.1 hp.2.2) sound_nil
  refine s708 hH (a.length + 2) (by simp) rfl ?_
  show P708 (szs a) _ _ _
  have a1 := fun k s => @l708 (szs a) (a.length + 2) k (I (lmL most 0 a)) most a h0 h1 (Nat.le_refl _) a 0 0 (a.length + 2) s rfl (by omega) (by omega) (by omega)
  simp only [c708, Tryz.f6, gets, sub] at a1 ⊢
  simp only [vmr, vmw, vmp, vza, ↓reduceIte, Nat.reduceBEq, Nat.reduceLT, Nat.reduceAdd, Nat.reduceEqDiff, reduceCtorEq, vmt, vzb, vzc, vlen, vleaf, velems, oks, vst, vmd, ty, Nat.reduceLeDiff, Nat.reduceMul, Nat.reduceSub, m708]
  refine a1 _ _ ?_ ?_ ?_ ?_ ?_ (fun s' h5 => ?_)
  case refine_6 =>
    simp only [vmr, vmw, vmp, vza, ↓reduceIte, Nat.reduceBEq, Nat.reduceLT, Nat.reduceAdd, Nat.reduceEqDiff, reduceCtorEq, vmt, vzb, vzc, vlen, vleaf, velems, oks, vst, vmd, ty, Nat.reduceLeDiff, Nat.reduceMul, Nat.reduceSub, m708, h5]
    unfold P708
    simp only [vmr, vmw, vmp, vza, ↓reduceIte, Nat.reduceBEq, Nat.reduceLT, Nat.reduceAdd, Nat.reduceEqDiff, reduceCtorEq, vmt, vzb, vzc, vlen, vleaf, velems, oks, vst, vmd, ty, Nat.reduceLeDiff, Nat.reduceMul, Nat.reduceSub, vzr, m708]
  all_goals simp only [vmr, vmw, vmp, vza, ↓reduceIte, Nat.reduceBEq, Nat.reduceLT, Nat.reduceAdd, Nat.reduceEqDiff, reduceCtorEq, vmt, vzb, vzc, vlen, vleaf, velems, oks, vst, vmd, ty, Nat.reduceLeDiff, Nat.reduceMul, Nat.reduceSub, m708]
end Go.Vi
set_option maxRecDepth 100000
set_option maxHeartbeats 1000000
namespace Go.Vi
open Go Go.Proofs
noncomputable def F8 : List V → Option V := hF (α := List Tm × Int) (fun p => [Ts p.1, I p.2]) (fun p => 0 ≤ p.2 ∧ p.2 ≤ 1000) (fun p => I (lmL p.2 0 p.1))
theorem F8_eq {a : List Tm} {k : Int} (h0 : 0 ≤ k) (h1 : k ≤ 1000) : F8 [Ts a, I k] = some (I (lmL k 0 a)) :=
  hF_eq (a := (a, k)) (two_inj (fun _ _ => Ts_inj) (fun _ _ => I_inj)) (by simp only [cans, can_Ts, canI]) ⟨h0, h1⟩
theorem F8_sound : ∀ args v, F8 args = some v → SoundPure Tryz.prog 6 args (.ret v) := hF_sound fun p hp => w708 _ p.1 p.2 (Nat.le_refl _) hp.1 hp.2
structure Bn where
  x : List UInt8
  e : List Tm
def Bn.v (b : Bn) : V := .agg [.str b.x, Ts b.e]
abbrev Bs (l : List Bn) : V := .lst (l.map Bn.v)
theorem Bn.v_inj (a b : Bn) (h : a.v = b.v) : a = b := by
  obtain ⟨x, e⟩ := a
  obtain ⟨x', e'⟩ := b
  simp only [Bn.v] at h
  injection h with h
  injection h with h1 h2
  injection h2 with h2
  injection h1 with h1
  rw [h1, Ts_inj h2]
theorem Bs_inj {a b : List Bn} (h : Bs a = Bs b) : a = b := by
  injection h with h
  exact map_inj Bn.v_inj h
theorem can_Bn (b : Bn) : can b.v = b.v := by
  show V.agg [.str b.x, can (Ts b.e)] = _
  rw [can_Ts]
  rfl
theorem can_Bs (l : List Bn) : can (Bs l) = Bs l := by
  show V.lst (cans (l.map Bn.v)) = _
  rw [cans_map_id can_Bn]
end Go.Vi
set_option maxRecDepth 100000
set_option maxHeartbeats 1000000
namespace Go.Vi
open Go Go.Proofs
def letN (b : Nat) : Bool := (decide (97 ≤ b) && decide (b ≤ 122)) || (decide (65 ≤ b) && decide (b ≤ 90))
def digN (b : Nat) : Bool := decide (48 ≤ b) && decide (b ≤ 57)
def innN (b : Nat) : Bool := letN b || digN b || b == 45 || b == 95
def clsN (c b : Nat) : Bool := if c = 1 then letN b else if c = 2 then digN b else if c = 3 then letN b || digN b else innN b
def isB (x : Bool) : Option (COut × Nat × Heap) → Bool
  | some (.ret (.bool b), _, _) => b == x
  | _ => false
theorem isB_some {x : Bool} {r : Option (COut × Nat × Heap)} (h : isB x r = true) : ∃ c O, r = some (.ret (.bool x), c, O) := by
  unfold isB at h
  split at h
  · simp only [beq_iff_eq] at h; subst h; exact ⟨_, _, rfl⟩
  · cases h
def noH' : Heap := fun _ => none
theorem run110 : ((List.range 256).all fun b => [1, 2, 3, 4].all fun c => isB (clsN c b) (evF (Cx (hand [])) 6 115 [.int .u8 b, .int .u8 c] 0 0 noH')) = true := by kernel_rfl
theorem w110 (b : UInt8) (c : Nat) (hc : c ∈ [1, 2, 3, 4]) : SoundPure Tryz.prog 115 [.int .u8 b.toNat, .int .u8 c] (.ret (.bool (clsN c b.toNat))) := by
  have h := List.all_eq_true.1 (List.all_eq_true.1 run110 b.toNat (List.mem_range.2 b.toNat_lt)) c hc
  obtain ⟨q, O, h⟩ := isB_some h
  exact pure_of_call (evF_sound (C := Cx (hand [])) sound_nil good mixed 6) h rfl
end Go.Vi
set_option maxRecDepth 100000
set_option maxHeartbeats 1000000
namespace Go.Vi
open Go Go.Proofs
theorem wsuc {i n : Nat} (h : i < n) (hn : n ≤ 1000000000000000) : IntKind.i64.wrap ((i:Int) + 1) = ((i + 1 : Nat) : Int) := by rw [wrap_id] <;> omega
theorem u8_inj {a b : UInt8} (h : V.int .u8 (a.toNat : Int) = V.int .u8 (b.toNat : Int)) : a = b := by
  injection h with _ h
  exact UInt8.toNat_inj.1 (by omega)
abbrev U8 (b : UInt8) : V := .int .u8 b.toNat
abbrev N8 (c : Nat) : V := .int .u8 c
theorem n8_inj {a b : Nat} (h : N8 a = N8 b) : a = b := by injection h with _ h; omega
noncomputable def F110 : List V → Option V := hF (α := UInt8 × Nat) (fun p => [U8 p.1, .int .u8 p.2]) (fun p => p.2 ∈ [1, 2, 3, 4]) (fun p => .bool (clsN p.2 p.1.toNat))
theorem F110_eq (b : UInt8) {c : Nat} (hc : c ∈ [1, 2, 3, 4]) : F110 [U8 b, .int .u8 c] = some (.bool (clsN c b.toNat)) :=
  hF_eq (a := (b, c)) (two_inj (fun _ _ => u8_inj) (fun _ _ => n8_inj)) rfl hc
theorem F110_sound : ∀ args v, F110 args = some v → SoundPure Tryz.prog 115 args (.ret v) := hF_sound fun p hp => w110 p.1 p.2 hp
theorem w135 (b : UInt8) : SoundPure Tryz.prog 141 [U8 b] (.ret (.bool (digN b.toNat))) := by
  refine s835 (H := []) sound_nil 1 (by simp) rfl ?_
  simp only [c835, Tryz.f141, gets]
  unfold digN
  by_cases h1 : 48 ≤ b.toNat
  · have c1 : ((b.toNat : Int) ≥ 48) = True := eq_true (by omega)
    have e : decide ((b.toNat : Int) ≤ 57) = decide (b.toNat ≤ 57) := decide_eq_decide.2 (by omega)
    simp only [vmr, vmw, vmp, vza, ↓reduceIte, Nat.reduceBEq, Nat.reduceLT, Nat.reduceAdd, Nat.reduceEqDiff, reduceCtorEq, vmt, vzb, vzc, vlen, vleaf, velems, oks, vst, vmd, ty, Nat.reduceLeDiff, Nat.reduceMul, Nat.reduceSub, vzr, m835, c1, e, decide_eq_true h1]
  · have c1 : ((b.toNat : Int) ≥ 48) = False := eq_false (by omega)
    simp only [vmr, vmw, vmp, vza, ↓reduceIte, Nat.reduceBEq, Nat.reduceLT, Nat.reduceAdd, Nat.reduceEqDiff, reduceCtorEq, vmt, vzb, vzc, vlen, vleaf, velems, oks, vst, vmd, ty, Nat.reduceLeDiff, Nat.reduceMul, Nat.reduceSub, vzr, m835, c1, decide_eq_false h1]
noncomputable def F135 : List V → Option V := hF (α := UInt8) (fun a => [U8 a]) (fun _ => True) (fun a => .bool (digN a.toNat))
theorem F135_eq (b : UInt8) : F135 [U8 b] = some (.bool (digN b.toNat)) := hF_eq (a := b) (one_inj' fun _ _ => u8_inj) rfl trivial
theorem F135_sound : ∀ args v, F135 args = some v → SoundPure Tryz.prog 141 args (.ret v) := hF_sound fun p _ => w135 p
theorem w136 (b : UInt8) : SoundPure Tryz.prog 142 [U8 b] (.ret (.bool (letN b.toNat))) := by
  refine s836 (H := []) sound_nil 1 (by simp) rfl ?_
  simp only [c836, Tryz.f142, gets]
  unfold letN
  have g1 : ∀ k : Nat, decide ((b.toNat : Int) ≥ (k : Nat)) = decide (k ≤ b.toNat) := fun k => decide_eq_decide.2 (by omega)
  have g2 : ∀ k : Nat, decide ((b.toNat : Int) ≤ (k : Nat)) = decide (b.toNat ≤ k) := fun k => decide_eq_decide.2 (by omega)
  have a1 : decide ((b.toNat : Int) ≥ 97) = _ := g1 97
  have a2 : decide ((b.toNat : Int) ≤ 122) = _ := g2 122
  have a3 : decide ((b.toNat : Int) ≥ 65) = _ := g1 65
  have a4 : decide ((b.toNat : Int) ≤ 90) = _ := g2 90
  rcases Bool.eq_false_or_eq_true (decide (97 ≤ b.toNat)) with h1 | h1 <;>
    rcases Bool.eq_false_or_eq_true (decide (b.toNat ≤ 122)) with h2 | h2 <;>
    rcases Bool.eq_false_or_eq_true (decide (65 ≤ b.toNat)) with h3 | h3 <;>
    rw [h1] at a1 <;> rw [h2] at a2 <;> rw [h3] at a3 <;>
    simp only [vmr, vmw, vmp, vza, ↓reduceIte, Nat.reduceBEq, Nat.reduceLT, Nat.reduceAdd, Nat.reduceEqDiff, reduceCtorEq, vmt, vzb, vzc, vlen, vleaf, velems, oks, vst, vmd, ty, Nat.reduceLeDiff, Nat.reduceMul, Nat.reduceSub, vzr, m836, a1, a2, a3, a4, h1, h2, h3]
noncomputable def F136 : List V → Option V := hF (α := UInt8) (fun a => [U8 a]) (fun _ => True) (fun a => .bool (letN a.toNat))
theorem F136_eq (b : UInt8) : F136 [U8 b] = some (.bool (letN b.toNat)) := hF_eq (a := b) (one_inj' fun _ _ => u8_inj) rfl trivial
theorem F136_sound : ∀ args v, F136 args = some v → SoundPure Tryz.prog 142 args (.ret v) := hF_sound fun p _ => w136 p
theorem w137 (b : UInt8) : SoundPure Tryz.prog 143 [U8 b] (.ret (.bool (innN b.toNat))) := by
  refine s837 (H := [(141, F135), (142, F136)]) (sound_cons F135_sound (sound_cons F136_sound sound_nil)) 1 (by simp) rfl ?_
  simp only [c837, Tryz.f143, gets]
  unfold innN
  have e1 := F135_eq b
  have e2 := F136_eq b
  have g1 : ∀ k : Nat, ((b.toNat : Int) == (k : Nat)) = (b.toNat == k) := fun k => by rw [Bool.eq_iff_iff, beq_iff_eq, beq_iff_eq]; omega
  have a1 : ((b.toNat : Int) == 45) = _ := g1 45
  have a2 : ((b.toNat : Int) == 95) = _ := g1 95
  cases h1 : letN b.toNat <;> cases h2 : digN b.toNat <;> cases h3 : b.toNat == 45 <;>
    rw [h1] at e2 <;> rw [h2] at e1 <;> rw [h3] at a1 <;>
    simp only [vmr, vmw, vmp, vza, ↓reduceIte, Nat.reduceBEq, Nat.reduceLT, Nat.reduceAdd, Nat.reduceEqDiff, reduceCtorEq, vmt, vzb, vzc, vlen, vleaf, velems, oks, vst, vmd, ty, Nat.reduceLeDiff, Nat.reduceMul, Nat.reduceSub, vzr, m837, e1, e2, a1, a2, h1, h2, h3]
noncomputable def F137 : List V → Option V := hF (α := UInt8) (fun a => [U8 a]) (fun _ => True) (fun a => .bool (innN a.toNat))
theorem F137_eq (b : UInt8) : F137 [U8 b] = some (.bool (innN b.toNat)) := hF_eq (a := b) (one_inj' fun _ _ => u8_inj) rfl trivial
theorem F137_sound : ∀ args v, F137 args = some v → SoundPure Tryz.prog 143 args (.ret v) := hF_sound fun p _ => w137 p
def allC (c : Nat) (s : List UInt8) : Bool := s.all fun b => clsN c b.toNat
theorem l795 {n k} {c : Nat} (hc : c ∈ [1, 2, 3, 4]) {a : List UInt8} (ha : a.length ≤ 1000000000000000) {P : Option (Ex × St) → Prop} : ∀ r i n' s, a.drop i = r → r.length < n' → tget s.τ 0 = .str a → tget s.τ 1 = .int .u8 c → tget s.τ 7 = I a.length → tget s.τ 8 = I (i : Nat) →
    (∀ s', allC c r = true → P (X (M795 (hand [(115, F110)]) n) (.exit 0) k s')) → (∀ s', allC c r = false → tget s'.τ 4 = .bool false → P (some (.ret, s'))) →
    P (L (M795 (hand [(115, F110)]) n) (sub [1, 0, 1, 0, 0] c795) n' k s) := by
  intro r
  induction r with
  | nil =>
    intro i n' s hi hn h0 h1 h7 h8 hx hf
    obtain ⟨n', rfl⟩ : ∃ m, n' = m + 1 := ⟨n' - 1, by omega⟩
    have hc := inlt (drop_nil' hi)
    rw [L_succ]
    simp only [vmr, vmw, vmp, vza, ↓reduceIte, Nat.reduceBEq, Nat.reduceLT, Nat.reduceAdd, Nat.reduceEqDiff, reduceCtorEq, vmt, vzb, vzc, vlen, vleaf, velems, oks, vst, vmd, ty, Nat.reduceLeDiff, Nat.reduceMul, Nat.reduceSub, c795, Tryz.f102, m795, h0, h1, h7, h8, hc]
    exact hx _ rfl
  | cons u r ih =>
    intro i n' s hi hn h0 h1 h7 h8 hx hf
    obtain ⟨n', rfl⟩ : ∃ m, n' = m + 1 := ⟨n' - 1, by omega⟩
    obtain ⟨hg, hd, hlt2⟩ := drop_cons hi
    have hcl := ilt hlt2
    have hw := wsuc hlt2 ha
    have e := F110_eq u hc
    have ih := fun s => ih (i + 1) n' s hd (by simp at hn; omega)
    simp only [sub, c795, Tryz.f102, gets] at ih
    rw [L_succ]
    cases hu : clsN c u.toNat with
    | true =>
      rw [hu] at e
      simp only [vmr, vmw, vmp, vza, ↓reduceIte, Nat.reduceBEq, Nat.reduceLT, Nat.reduceAdd, Nat.reduceEqDiff, reduceCtorEq, vmt, vzb, vzc, vlen, vleaf, velems, oks, vst, vmd, ty, Nat.reduceLeDiff, Nat.reduceMul, Nat.reduceSub, c795, Tryz.f102, m795, h0, h1, h7, h8, hcl, hg, e, hw]
      refine ih _ ?_ ?_ ?_ ?_ (fun s' h => hx s' (by unfold allC; rw [List.all_cons, hu, Bool.true_and]; exact h)) (fun s' h => hf s' (by unfold allC; rw [List.all_cons, hu, Bool.true_and]; exact h))
      all_goals simp only [vmr, vmw, vmp, vza, ↓reduceIte, Nat.reduceBEq, Nat.reduceLT, Nat.reduceAdd, Nat.reduceEqDiff, reduceCtorEq, vmt, vzb, vzc, vlen, vleaf, velems, oks, vst, vmd, ty, Nat.reduceLeDiff, Nat.reduceMul, Nat.reduceSub, m795, h0, h1, h7]
    | false =>
      rw [hu] at e
      simp only [vmr, vmw, vmp, vza, ↓reduceIte, Nat.reduceBEq, Nat.reduceLT, Nat.reduceAdd, Nat.reduceEqDiff, reduceCtorEq, vmt, vzb, vzc, vlen, vleaf, velems, oks, vst, vmd, ty, Nat.reduceLeDiff, Nat.reduceMul, Nat.reduceSub, c795, Tryz.f102, m795, h0, h1, h7, h8, hcl, hg, e, hw]
      refine hf _ (by unfold allC; rw [List.all_cons, hu, Bool.false_and]) ?_
      simp only [vmr, vmw, vmp, vza, ↓reduceIte, Nat.reduceBEq, Nat.reduceLT, Nat.reduceAdd, Nat.reduceEqDiff, reduceCtorEq, vmt, vzb, vzc, vlen, vleaf, velems, oks, vst, vmd, ty, Nat.reduceLeDiff, Nat.reduceMul, Nat.reduceSub, m795]
def P795 (n : Nat) (v : V) (r : Option (Ex × St)) : Prop := Fin (M795 (hand [(115, F110)]) n) [.tmp 4] r = some (.ret v)
theorem w95 (a : List UInt8) (c : Nat) (hc : c ∈ [1, 2, 3, 4]) (ha : a.length ≤ 1000000000000000) : SoundPure Tryz.prog 102 [.str a, .int .u8 c] (.ret (.bool (allC c a))) := by
  refine s795 (H := [(115, F110)]) (sound_cons F110_sound sound_nil) (a.length + 1) (by simp) rfl ?_
  show P795 _ _ _
  have a1 := fun k s => @l795 (a.length + 1) k c hc a ha (P795 (a.length + 1) (.bool (allC c a))) a 0 (a.length + 1) s rfl (by omega)
  simp only [c795, Tryz.f102, gets, sub] at a1 ⊢
  simp only [vmr, vmw, vmp, vza, ↓reduceIte, Nat.reduceBEq, Nat.reduceLT, Nat.reduceAdd, Nat.reduceEqDiff, reduceCtorEq, vmt, vzb, vzc, vlen, vleaf, velems, oks, vst, vmd, ty, Nat.reduceLeDiff, Nat.reduceMul, Nat.reduceSub, m795]
  refine a1 _ _ ?_ ?_ ?_ ?_ (fun s' h => ?_) (fun s' h e => ?_)
  case refine_5 =>
    rw [h]
    simp only [vmr, vmw, vmp, vza, ↓reduceIte, Nat.reduceBEq, Nat.reduceLT, Nat.reduceAdd, Nat.reduceEqDiff, reduceCtorEq, vmt, vzb, vzc, vlen, vleaf, velems, oks, vst, vmd, ty, Nat.reduceLeDiff, Nat.reduceMul, Nat.reduceSub, m795]
    unfold P795
    simp only [vmr, vmw, vmp, vza, ↓reduceIte, Nat.reduceBEq, Nat.reduceLT, Nat.reduceAdd, Nat.reduceEqDiff, reduceCtorEq, vmt, vzb, vzc, vlen, vleaf, velems, oks, vst, vmd, ty, Nat.reduceLeDiff, Nat.reduceMul, Nat.reduceSub, vzr, m795]
  case refine_6 =>
    rw [h]
    unfold P795
    simp only [vmr, vmw, vmp, vza, ↓reduceIte, Nat.reduceBEq, Nat.reduceLT, Nat.reduceAdd, Nat.reduceEqDiff, reduceCtorEq, vmt, vzb, vzc, vlen, vleaf, velems, oks, vst, vmd, ty, Nat.reduceLeDiff, Nat.reduceMul, Nat.reduceSub, vzr, m795, e]
  all_goals simp only [vmr, vmw, vmp, vza, ↓reduceIte, Nat.reduceBEq, Nat.reduceLT, Nat.reduceAdd, Nat.reduceEqDiff, reduceCtorEq, vmt, vzb, vzc, vlen, vleaf, velems, oks, vst, vmd, ty, Nat.reduceLeDiff, Nat.reduceMul, Nat.reduceSub, m795]
noncomputable def F95 : List V → Option V := hF (α := List UInt8 × Nat) (fun p => [.str p.1, .int .u8 p.2]) (fun p => p.2 ∈ [1, 2, 3, 4] ∧ p.1.length ≤ 1000000000000000) (fun p => .bool (allC p.2 p.1))
theorem F95_eq {a : List UInt8} {c : Nat} (hc : c ∈ [1, 2, 3, 4]) (ha : a.length ≤ 1000000000000000) : F95 [.str a, .int .u8 c] = some (.bool (allC c a)) :=
  hF_eq (a := (a, c)) (two_inj (fun _ _ => Str_inj) (fun _ _ => n8_inj)) rfl ⟨hc, ha⟩
theorem F95_sound : ∀ args v, F95 args = some v → SoundPure Tryz.prog 102 args (.ret v) := hF_sound fun p hp => w95 p.1 p.2 hp.1 hp.2
end Go.Vi
set_option maxRecDepth 100000
set_option maxHeartbeats 1000000
namespace Go.Vi
open Go Go.Proofs
def letU (u : UInt8) : Bool := letN u.toNat
def digU (u : UInt8) : Bool := digN u.toNat
def innU (u : UInt8) : Bool := innN u.toNat
def lodU (u : UInt8) : Bool := letN u.toNat || digN u.toNat
def prtU (u : UInt8) : Bool := decide (32 ≤ u.toNat) && decide (u.toNat ≤ 126)
theorem l819 {n k} {a : List UInt8} (ha : a.length ≤ 1000000000000000) {P : Option (Ex × St) → Prop} : ∀ r i n' s, a.drop i = r → r.length < n' → tget s.τ 0 = .str a → tget s.τ 3 = I (i : Nat) →
    (∀ s', r.all prtU = true → tget s'.τ 0 = .str a → P (X (M819 (hand []) n) (.exit 0) k s')) → (∀ s', r.all prtU = false → tget s'.τ 2 = .bool false → P (some (.ret, s'))) →
    P (L (M819 (hand []) n) (sub [1, 0, 1, 0, 0] c819) n' k s) := by
  intro r
  induction r with
  | nil =>
    intro i n' s hi hn h0 h3 hx hf
    obtain ⟨n', rfl⟩ : ∃ m, n' = m + 1 := ⟨n' - 1, by omega⟩
    have hc := inlt (drop_nil' hi)
    rw [L_succ]
    simp only [vmr, vmw, vmp, vza, ↓reduceIte, Nat.reduceBEq, Nat.reduceLT, Nat.reduceAdd, Nat.reduceEqDiff, reduceCtorEq, vmt, vzb, vzc, vlen, vleaf, velems, oks, vst, vmd, ty, Nat.reduceLeDiff, Nat.reduceMul, Nat.reduceSub, c819, Tryz.f125, m819, h0, h3, hc]
    refine hx _ rfl ?_
    simp only [vmr, vmw, vmp, vza, ↓reduceIte, Nat.reduceBEq, Nat.reduceLT, Nat.reduceAdd, Nat.reduceEqDiff, reduceCtorEq, vmt, vzb, vzc, vlen, vleaf, velems, oks, vst, vmd, ty, Nat.reduceLeDiff, Nat.reduceMul, Nat.reduceSub, m819, h0]
  | cons u r ih =>
    intro i n' s hi hn h0 h3 hx hf
    obtain ⟨n', rfl⟩ : ∃ m, n' = m + 1 := ⟨n' - 1, by omega⟩
    obtain ⟨hg, hd, hlt2⟩ := drop_cons hi
    have hcl := ilt hlt2
    have hw := wsuc hlt2 ha
    have ih := fun s => ih (i + 1) n' s hd (by simp at hn; omega)
    simp only [sub, c819, Tryz.f125, gets] at ih
    rw [L_succ]
    have good : ∀ (hu : prtU u = true), _ := fun hu => (⟨fun (s' : St) (h : r.all prtU = true) => hx s' (by rw [List.all_cons, hu, Bool.true_and]; exact h), fun (s' : St) (h : r.all prtU = false) => hf s' (by rw [List.all_cons, hu, Bool.true_and]; exact h)⟩ : (∀ s' : St, r.all prtU = true → _) ∧ (∀ s' : St, r.all prtU = false → _))
    have bad : ∀ (hu : prtU u = false), _ := fun hu (s' : St) => hf s' (by rw [List.all_cons, hu, Bool.false_and])
    by_cases q1 : u.toNat < 32
    · have d1 : ((u.toNat : Int) < 32) = True := eq_true (by omega)
      simp only [vmr, vmw, vmp, vza, ↓reduceIte, Nat.reduceBEq, Nat.reduceLT, Nat.reduceAdd, Nat.reduceEqDiff, reduceCtorEq, vmt, vzb, vzc, vlen, vleaf, velems, oks, vst, vmd, ty, Nat.reduceLeDiff, Nat.reduceMul, Nat.reduceSub, c819, Tryz.f125, m819, h0, h3, hcl, hg, hw, d1]
      refine bad (by simp [prtU]; omega) _ ?_
      simp only [vmr, vmw, vmp, vza, ↓reduceIte, Nat.reduceBEq, Nat.reduceLT, Nat.reduceAdd, Nat.reduceEqDiff, reduceCtorEq, vmt, vzb, vzc, vlen, vleaf, velems, oks, vst, vmd, ty, Nat.reduceLeDiff, Nat.reduceMul, Nat.reduceSub, m819]
    · have d1 : ((u.toNat : Int) < 32) = False := eq_false (by omega)
      by_cases q2 : u.toNat > 126
      · have d2 : ((u.toNat : Int) > 126) = True := eq_true (by omega)
        simp only [vmr, vmw, vmp, vza, ↓reduceIte, Nat.reduceBEq, Nat.reduceLT, Nat.reduceAdd, Nat.reduceEqDiff, reduceCtorEq, vmt, vzb, vzc, vlen, vleaf, velems, oks, vst, vmd, ty, Nat.reduceLeDiff, Nat.reduceMul, Nat.reduceSub, c819, Tryz.f125, m819, h0, h3, hcl, hg, hw, d1, d2]
        refine bad (by simp [prtU]; omega) _ ?_
        simp only [vmr, vmw, vmp, vza, ↓reduceIte, Nat.reduceBEq, Nat.reduceLT, Nat.reduceAdd, Nat.reduceEqDiff, reduceCtorEq, vmt, vzb, vzc, vlen, vleaf, velems, oks, vst, vmd, ty, Nat.reduceLeDiff, Nat.reduceMul, Nat.reduceSub, m819]
      · have d2 : ((u.toNat : Int) > 126) = False := eq_false (by omega)
        simp only [vmr, vmw, vmp, vza, ↓reduceIte, Nat.reduceBEq, Nat.reduceLT, Nat.reduceAdd, Nat.reduceEqDiff, reduceCtorEq, vmt, vzb, vzc, vlen, vleaf, velems, oks, vst, vmd, ty, Nat.reduceLeDiff, Nat.reduceMul, Nat.reduceSub, c819, Tryz.f125, m819, h0, h3, hcl, hg, hw, d1, d2]
        obtain ⟨g1, g2⟩ := good (by simp [prtU]; omega)
        refine ih _ ?_ ?_ g1 g2
        all_goals simp only [vmr, vmw, vmp, vza, ↓reduceIte, Nat.reduceBEq, Nat.reduceLT, Nat.reduceAdd, Nat.reduceEqDiff, reduceCtorEq, vmt, vzb, vzc, vlen, vleaf, velems, oks, vst, vmd, ty, Nat.reduceLeDiff, Nat.reduceMul, Nat.reduceSub, m819, h0]
theorem l820 {n k} {a : List UInt8} (ha : a.length ≤ 1000000000000000) {P : Option (Ex × St) → Prop} : ∀ r i n' s, a.drop i = r → r.length < n' → tget s.τ 0 = .str a → tget s.τ 3 = I (i : Nat) →
    (∀ s', r.all digU = true → tget s'.τ 0 = .str a → P (X (M820 (hand [(141, F135)]) n) (.exit 0) k s')) → (∀ s', r.all digU = false → tget s'.τ 2 = .bool false → P (some (.ret, s'))) →
    P (L (M820 (hand [(141, F135)]) n) (sub [1, 1, 1, 0, 1, 0, 0] c820) n' k s) := by
  intro r
  induction r with
  | nil =>
    intro i n' s hi hn h0 h3 hx hf
    obtain ⟨n', rfl⟩ : ∃ m, n' = m + 1 := ⟨n' - 1, by omega⟩
    have hc := inlt (drop_nil' hi)
    rw [L_succ]
    simp only [vmr, vmw, vmp, vza, ↓reduceIte, Nat.reduceBEq, Nat.reduceLT, Nat.reduceAdd, Nat.reduceEqDiff, reduceCtorEq, vmt, vzb, vzc, vlen, vleaf, velems, oks, vst, vmd, ty, Nat.reduceLeDiff, Nat.reduceMul, Nat.reduceSub, c820, Tryz.f126, m820, h0, h3, hc]
    refine hx _ rfl ?_
    simp only [vmr, vmw, vmp, vza, ↓reduceIte, Nat.reduceBEq, Nat.reduceLT, Nat.reduceAdd, Nat.reduceEqDiff, reduceCtorEq, vmt, vzb, vzc, vlen, vleaf, velems, oks, vst, vmd, ty, Nat.reduceLeDiff, Nat.reduceMul, Nat.reduceSub, m820, h0]
  | cons u r ih =>
    intro i n' s hi hn h0 h3 hx hf
    obtain ⟨n', rfl⟩ : ∃ m, n' = m + 1 := ⟨n' - 1, by omega⟩
    obtain ⟨hg, hd, hlt2⟩ := drop_cons hi
    have hcl := ilt hlt2
    have hw := wsuc hlt2 ha
    have e := F135_eq u
    have ih := fun s => ih (i + 1) n' s hd (by simp at hn; omega)
    simp only [sub, c820, Tryz.f126, gets] at ih
    rw [L_succ]
    have good : ∀ (hu : digU u = true), _ := fun hu => (⟨fun (s' : St) (h : r.all digU = true) => hx s' (by rw [List.all_cons, hu, Bool.true_and]; exact h), fun (s' : St) (h : r.all digU = false) => hf s' (by rw [List.all_cons, hu, Bool.true_and]; exact h)⟩ : (∀ s' : St, r.all digU = true → _) ∧ (∀ s' : St, r.all digU = false → _))
    have bad : ∀ (hu : digU u = false), _ := fun hu (s' : St) => hf s' (by rw [List.all_cons, hu, Bool.false_and])
    cases hu : digU u with
    | true =>
      rw [show digN u.toNat = true from hu] at e
      simp only [vmr, vmw, vmp, vza, ↓reduceIte, Nat.reduceBEq, Nat.reduceLT, Nat.reduceAdd, Nat.reduceEqDiff, reduceCtorEq, vmt, vzb, vzc, vlen, vleaf, velems, oks, vst, vmd, ty, Nat.reduceLeDiff, Nat.reduceMul, Nat.reduceSub, c820, Tryz.f126, m820, h0, h3, hcl, hg, hw, e]
      obtain ⟨g1, g2⟩ := good (hu)
      refine ih _ ?_ ?_ g1 g2
      all_goals simp only [vmr, vmw, vmp, vza, ↓reduceIte, Nat.reduceBEq, Nat.reduceLT, Nat.reduceAdd, Nat.reduceEqDiff, reduceCtorEq, vmt, vzb, vzc, vlen, vleaf, velems, oks, vst, vmd, ty, Nat.reduceLeDiff, Nat.reduceMul, Nat.reduceSub, m820, h0]
    | false =>
      rw [show digN u.toNat = false from hu] at e
      simp only [vmr, vmw, vmp, vza, ↓reduceIte, Nat.reduceBEq, Nat.reduceLT, Nat.reduceAdd, Nat.reduceEqDiff, reduceCtorEq, vmt, vzb, vzc, vlen, vleaf, velems, oks, vst, vmd, ty, Nat.reduceLeDiff, Nat.reduceMul, Nat.reduceSub, c820, Tryz.f126, m820, h0, h3, hcl, hg, hw, e]
      refine bad (hu) _ ?_
      simp only [vmr, vmw, vmp, vza, ↓reduceIte, Nat.reduceBEq, Nat.reduceLT, Nat.reduceAdd, Nat.reduceEqDiff, reduceCtorEq, vmt, vzb, vzc, vlen, vleaf, velems, oks, vst, vmd, ty, Nat.reduceLeDiff, Nat.reduceMul, Nat.reduceSub, m820]
theorem l821 {n k} {a : List UInt8} (ha : a.length ≤ 1000000000000000) {P : Option (Ex × St) → Prop} : ∀ r i n' s, a.drop i = r → r.length < n' → tget s.τ 0 = .str a → tget s.τ 3 = I (i : Nat) →
    (∀ s', r.all lodU = true → tget s'.τ 0 = .str a → P (X (M821 (hand [(141, F135), (142, F136)]) n) (.exit 0) k s')) → (∀ s', r.all lodU = false → tget s'.τ 2 = .bool false → P (some (.ret, s'))) →
    P (L (M821 (hand [(141, F135), (142, F136)]) n) (sub [1, 0, 1, 0, 0] c821) n' k s) := by
  intro r
  induction r with
  | nil =>
    intro i n' s hi hn h0 h3 hx hf
    obtain ⟨n', rfl⟩ : ∃ m, n' = m + 1 := ⟨n' - 1, by omega⟩
    have hc := inlt (drop_nil' hi)
    rw [L_succ]
    simp only [vmr, vmw, vmp, vza, ↓reduceIte, Nat.reduceBEq, Nat.reduceLT, Nat.reduceAdd, Nat.reduceEqDiff, reduceCtorEq, vmt, vzb, vzc, vlen, vleaf, velems, oks, vst, vmd, ty, Nat.reduceLeDiff, Nat.reduceMul, Nat.reduceSub, c821, Tryz.f127, m821, h0, h3, hc]
    refine hx _ rfl ?_
    simp only [vmr, vmw, vmp, vza, ↓reduceIte, Nat.reduceBEq, Nat.reduceLT, Nat.reduceAdd, Nat.reduceEqDiff, reduceCtorEq, vmt, vzb, vzc, vlen, vleaf, velems, oks, vst, vmd, ty, Nat.reduceLeDiff, Nat.reduceMul, Nat.reduceSub, m821, h0]
  | cons u r ih =>
    intro i n' s hi hn h0 h3 hx hf
    obtain ⟨n', rfl⟩ : ∃ m, n' = m + 1 := ⟨n' - 1, by omega⟩
    obtain ⟨hg, hd, hlt2⟩ := drop_cons hi
    have hcl := ilt hlt2
    have hw := wsuc hlt2 ha
    have e1 := F135_eq u
    have e2 := F136_eq u
    have ih := fun s => ih (i + 1) n' s hd (by simp at hn; omega)
    simp only [sub, c821, Tryz.f127, gets] at ih
    rw [L_succ]
    have good : ∀ (hu : lodU u = true), _ := fun hu => (⟨fun (s' : St) (h : r.all lodU = true) => hx s' (by rw [List.all_cons, hu, Bool.true_and]; exact h), fun (s' : St) (h : r.all lodU = false) => hf s' (by rw [List.all_cons, hu, Bool.true_and]; exact h)⟩ : (∀ s' : St, r.all lodU = true → _) ∧ (∀ s' : St, r.all lodU = false → _))
    have bad : ∀ (hu : lodU u = false), _ := fun hu (s' : St) => hf s' (by rw [List.all_cons, hu, Bool.false_and])
    cases h1 : letN u.toNat with
    | true =>
      rw [h1] at e2
      simp only [vmr, vmw, vmp, vza, ↓reduceIte, Nat.reduceBEq, Nat.reduceLT, Nat.reduceAdd, Nat.reduceEqDiff, reduceCtorEq, vmt, vzb, vzc, vlen, vleaf, velems, oks, vst, vmd, ty, Nat.reduceLeDiff, Nat.reduceMul, Nat.reduceSub, c821, Tryz.f127, m821, h0, h3, hcl, hg, hw, e1, e2]
      obtain ⟨g1, g2⟩ := good (by simp [lodU, h1])
      refine ih _ ?_ ?_ g1 g2
      all_goals simp only [vmr, vmw, vmp, vza, ↓reduceIte, Nat.reduceBEq, Nat.reduceLT, Nat.reduceAdd, Nat.reduceEqDiff, reduceCtorEq, vmt, vzb, vzc, vlen, vleaf, velems, oks, vst, vmd, ty, Nat.reduceLeDiff, Nat.reduceMul, Nat.reduceSub, m821, h0]
    | false =>
      rw [h1] at e2
      cases h2 : digN u.toNat with
      | true =>
        rw [h2] at e1
        simp only [vmr, vmw, vmp, vza, ↓reduceIte, Nat.reduceBEq, Nat.reduceLT, Nat.reduceAdd, Nat.reduceEqDiff, reduceCtorEq, vmt, vzb, vzc, vlen, vleaf, velems, oks, vst, vmd, ty, Nat.reduceLeDiff, Nat.reduceMul, Nat.reduceSub, c821, Tryz.f127, m821, h0, h3, hcl, hg, hw, e1, e2]
        obtain ⟨g1, g2⟩ := good (by simp [lodU, h2])
        refine ih _ ?_ ?_ g1 g2
        all_goals simp only [vmr, vmw, vmp, vza, ↓reduceIte, Nat.reduceBEq, Nat.reduceLT, Nat.reduceAdd, Nat.reduceEqDiff, reduceCtorEq, vmt, vzb, vzc, vlen, vleaf, velems, oks, vst, vmd, ty, Nat.reduceLeDiff, Nat.reduceMul, Nat.reduceSub, m821, h0]
      | false =>
        rw [h2] at e1
        simp only [vmr, vmw, vmp, vza, ↓reduceIte, Nat.reduceBEq, Nat.reduceLT, Nat.reduceAdd, Nat.reduceEqDiff, reduceCtorEq, vmt, vzb, vzc, vlen, vleaf, velems, oks, vst, vmd, ty, Nat.reduceLeDiff, Nat.reduceMul, Nat.reduceSub, c821, Tryz.f127, m821, h0, h3, hcl, hg, hw, e1, e2]
        refine bad (by simp [lodU, h1, h2]) _ ?_
        simp only [vmr, vmw, vmp, vza, ↓reduceIte, Nat.reduceBEq, Nat.reduceLT, Nat.reduceAdd, Nat.reduceEqDiff, reduceCtorEq, vmt, vzb, vzc, vlen, vleaf, velems, oks, vst, vmd, ty, Nat.reduceLeDiff, Nat.reduceMul, Nat.reduceSub, m821]
theorem l822 {n k} {a : List UInt8} (ha : a.length ≤ 1000000000000000) {P : Option (Ex × St) → Prop} : ∀ r i n' s, a.drop i = r → r.length < n' → tget s.τ 0 = .str a → tget s.τ 5 = I (i : Nat) →
    (∀ s', r.all innU = true → tget s'.τ 0 = .str a → P (X (M822 (hand [(142, F136), (143, F137)]) n) (.exit 0) k s')) → (∀ s', r.all innU = false → tget s'.τ 4 = .bool false → P (some (.ret, s'))) →
    P (L (M822 (hand [(142, F136), (143, F137)]) n) (sub [1, 1, 0, 1, 0, 0] c822) n' k s) := by
  intro r
  induction r with
  | nil =>
    intro i n' s hi hn h0 h3 hx hf
    obtain ⟨n', rfl⟩ : ∃ m, n' = m + 1 := ⟨n' - 1, by omega⟩
    have hc := inlt (drop_nil' hi)
    rw [L_succ]
    simp only [vmr, vmw, vmp, vza, ↓reduceIte, Nat.reduceBEq, Nat.reduceLT, Nat.reduceAdd, Nat.reduceEqDiff, reduceCtorEq, vmt, vzb, vzc, vlen, vleaf, velems, oks, vst, vmd, ty, Nat.reduceLeDiff, Nat.reduceMul, Nat.reduceSub, c822, Tryz.f128, m822, h0, h3, hc]
    refine hx _ rfl ?_
    simp only [vmr, vmw, vmp, vza, ↓reduceIte, Nat.reduceBEq, Nat.reduceLT, Nat.reduceAdd, Nat.reduceEqDiff, reduceCtorEq, vmt, vzb, vzc, vlen, vleaf, velems, oks, vst, vmd, ty, Nat.reduceLeDiff, Nat.reduceMul, Nat.reduceSub, m822, h0]
  | cons u r ih =>
    intro i n' s hi hn h0 h3 hx hf
    obtain ⟨n', rfl⟩ : ∃ m, n' = m + 1 := ⟨n' - 1, by omega⟩
    obtain ⟨hg, hd, hlt2⟩ := drop_cons hi
    have hcl := ilt hlt2
    have hw := wsuc hlt2 ha
    have e := F137_eq u
    have ih := fun s => ih (i + 1) n' s hd (by simp at hn; omega)
    simp only [sub, c822, Tryz.f128, gets] at ih
    rw [L_succ]
    have good : ∀ (hu : innU u = true), _ := fun hu => (⟨fun (s' : St) (h : r.all innU = true) => hx s' (by rw [List.all_cons, hu, Bool.true_and]; exact h), fun (s' : St) (h : r.all innU = false) => hf s' (by rw [List.all_cons, hu, Bool.true_and]; exact h)⟩ : (∀ s' : St, r.all innU = true → _) ∧ (∀ s' : St, r.all innU = false → _))
    have bad : ∀ (hu : innU u = false), _ := fun hu (s' : St) => hf s' (by rw [List.all_cons, hu, Bool.false_and])
    cases hu : innU u with
    | true =>
      rw [show innN u.toNat = true from hu] at e
      simp only [vmr, vmw, vmp, vza, ↓reduceIte, Nat.reduceBEq, Nat.reduceLT, Nat.reduceAdd, Nat.reduceEqDiff, reduceCtorEq, vmt, vzb, vzc, vlen, vleaf, velems, oks, vst, vmd, ty, Nat.reduceLeDiff, Nat.reduceMul, Nat.reduceSub, c822, Tryz.f128, m822, h0, h3, hcl, hg, hw, e]
      obtain ⟨g1, g2⟩ := good (hu)
      refine ih _ ?_ ?_ g1 g2
      all_goals simp only [vmr, vmw, vmp, vza, ↓reduceIte, Nat.reduceBEq, Nat.reduceLT, Nat.reduceAdd, Nat.reduceEqDiff, reduceCtorEq, vmt, vzb, vzc, vlen, vleaf, velems, oks, vst, vmd, ty, Nat.reduceLeDiff, Nat.reduceMul, Nat.reduceSub, m822, h0]
    | false =>
      rw [show innN u.toNat = false from hu] at e
      simp only [vmr, vmw, vmp, vza, ↓reduceIte, Nat.reduceBEq, Nat.reduceLT, Nat.reduceAdd, Nat.reduceEqDiff, reduceCtorEq, vmt, vzb, vzc, vlen, vleaf, velems, oks, vst, vmd, ty, Nat.reduceLeDiff, Nat.reduceMul, Nat.reduceSub, c822, Tryz.f128, m822, h0, h3, hcl, hg, hw, e]
      refine bad (hu) _ ?_
      simp only [vmr, vmw, vmp, vza, ↓reduceIte, Nat.reduceBEq, Nat.reduceLT, Nat.reduceAdd, Nat.reduceEqDiff, reduceCtorEq, vmt, vzb, vzc, vlen, vleaf, velems, oks, vst, vmd, ty, Nat.reduceLeDiff, Nat.reduceMul, Nat.reduceSub, m822]
def P819 (n : Nat) (v : V) (r : Option (Ex × St)) : Prop := Fin (M819 (hand []) n) [.tmp 2] r = some (.ret v)
def P820 (n : Nat) (v : V) (r : Option (Ex × St)) : Prop := Fin (M820 (hand [(141, F135)]) n) [.tmp 2] r = some (.ret v)
def P821 (n : Nat) (v : V) (r : Option (Ex × St)) : Prop := Fin (M821 (hand [(141, F135), (142, F136)]) n) [.tmp 2] r = some (.ret v)
def P822 (n : Nat) (v : V) (r : Option (Ex × St)) : Prop := Fin (M822 (hand [(142, F136), (143, F137)]) n) [.tmp 4] r = some (.ret v)
theorem w119 (a : List UInt8) (ha : a.length ≤ 1000000000000000) : SoundPure Tryz.prog 125 [.str a] (.ret (.bool (a.all prtU && (!(a == []) && decide (a.length ≤ 60))))) := by
  refine s819 (H := []) sound_nil (a.length + 1) (by simp) rfl ?_
  show P819 _ _ _
  have a1 := fun k s => @l819 (a.length + 1) k a ha (P819 (a.length + 1) (.bool (a.all prtU && (!(a == []) && decide (a.length ≤ 60))))) a 0 (a.length + 1) s rfl (by omega)
  simp only [c819, Tryz.f125, gets, sub] at a1 ⊢
  simp only [vmr, vmw, vmp, vza, ↓reduceIte, Nat.reduceBEq, Nat.reduceLT, Nat.reduceAdd, Nat.reduceEqDiff, reduceCtorEq, vmt, vzb, vzc, vlen, vleaf, velems, oks, vst, vmd, ty, Nat.reduceLeDiff, Nat.reduceMul, Nat.reduceSub, m819]
  refine a1 _ _ ?_ ?_ (fun s' h h0 => ?_) (fun s' h e => ?_)
  case refine_3 =>
    rw [h]
    cases q1 : a == [] with
    | true =>
      simp only [vmr, vmw, vmp, vza, ↓reduceIte, Nat.reduceBEq, Nat.reduceLT, Nat.reduceAdd, Nat.reduceEqDiff, reduceCtorEq, vmt, vzb, vzc, vlen, vleaf, velems, oks, vst, vmd, ty, Nat.reduceLeDiff, Nat.reduceMul, Nat.reduceSub, m819, h0, strOp, q1]
      unfold P819
      simp only [vmr, vmw, vmp, vza, ↓reduceIte, Nat.reduceBEq, Nat.reduceLT, Nat.reduceAdd, Nat.reduceEqDiff, reduceCtorEq, vmt, vzb, vzc, vlen, vleaf, velems, oks, vst, vmd, ty, Nat.reduceLeDiff, Nat.reduceMul, Nat.reduceSub, vzr, m819]
    | false =>
      have q2 : ((a.length : Int) ≤ 60) = (a.length ≤ 60) := by simp; omega
      simp only [vmr, vmw, vmp, vza, ↓reduceIte, Nat.reduceBEq, Nat.reduceLT, Nat.reduceAdd, Nat.reduceEqDiff, reduceCtorEq, vmt, vzb, vzc, vlen, vleaf, velems, oks, vst, vmd, ty, Nat.reduceLeDiff, Nat.reduceMul, Nat.reduceSub, m819, h0, strOp, q1, q2]
      unfold P819
      simp only [vmr, vmw, vmp, vza, ↓reduceIte, Nat.reduceBEq, Nat.reduceLT, Nat.reduceAdd, Nat.reduceEqDiff, reduceCtorEq, vmt, vzb, vzc, vlen, vleaf, velems, oks, vst, vmd, ty, Nat.reduceLeDiff, Nat.reduceMul, Nat.reduceSub, vzr, m819]
  case refine_4 =>
    rw [h]
    unfold P819
    simp only [vmr, vmw, vmp, vza, ↓reduceIte, Nat.reduceBEq, Nat.reduceLT, Nat.reduceAdd, Nat.reduceEqDiff, reduceCtorEq, vmt, vzb, vzc, vlen, vleaf, velems, oks, vst, vmd, ty, Nat.reduceLeDiff, Nat.reduceMul, Nat.reduceSub, vzr, m819, e]
  all_goals simp only [vmr, vmw, vmp, vza, ↓reduceIte, Nat.reduceBEq, Nat.reduceLT, Nat.reduceAdd, Nat.reduceEqDiff, reduceCtorEq, vmt, vzb, vzc, vlen, vleaf, velems, oks, vst, vmd, ty, Nat.reduceLeDiff, Nat.reduceMul, Nat.reduceSub, m819]
noncomputable def F119 : List V → Option V := hF (α := List UInt8) (fun a => [.str a]) (fun a => a.length ≤ 1000000000000000) (fun a => .bool (a.all prtU && (!(a == []) && decide (a.length ≤ 60))))
theorem F119_eq {a : List UInt8} (ha : a.length ≤ 1000000000000000) : F119 [.str a] = some (.bool (a.all prtU && (!(a == []) && decide (a.length ≤ 60)))) := hF_eq (a := a) (one_inj' fun _ _ => Str_inj) rfl ha
theorem F119_sound : ∀ args v, F119 args = some v → SoundPure Tryz.prog 125 args (.ret v) := hF_sound fun p hp => w119 p hp
theorem w121 (a : List UInt8) (ha : a.length ≤ 1000000000000000) : SoundPure Tryz.prog 127 [.str a] (.ret (.bool (a.all lodU && (!(a == []) && decide (a.length ≤ 40))))) := by
  refine s821 (H := [(141, F135), (142, F136)]) (sound_cons F135_sound (sound_cons F136_sound sound_nil)) (a.length + 1) (by simp) rfl ?_
  show P821 _ _ _
  have a1 := fun k s => @l821 (a.length + 1) k a ha (P821 (a.length + 1) (.bool (a.all lodU && (!(a == []) && decide (a.length ≤ 40))))) a 0 (a.length + 1) s rfl (by omega)
  simp only [c821, Tryz.f127, gets, sub] at a1 ⊢
  simp only [vmr, vmw, vmp, vza, ↓reduceIte, Nat.reduceBEq, Nat.reduceLT, Nat.reduceAdd, Nat.reduceEqDiff, reduceCtorEq, vmt, vzb, vzc, vlen, vleaf, velems, oks, vst, vmd, ty, Nat.reduceLeDiff, Nat.reduceMul, Nat.reduceSub, m821]
  refine a1 _ _ ?_ ?_ (fun s' h h0 => ?_) (fun s' h e => ?_)
  case refine_3 =>
    rw [h]
    cases q1 : a == [] with
    | true =>
      simp only [vmr, vmw, vmp, vza, ↓reduceIte, Nat.reduceBEq, Nat.reduceLT, Nat.reduceAdd, Nat.reduceEqDiff, reduceCtorEq, vmt, vzb, vzc, vlen, vleaf, velems, oks, vst, vmd, ty, Nat.reduceLeDiff, Nat.reduceMul, Nat.reduceSub, m821, h0, strOp, q1]
      unfold P821
      simp only [vmr, vmw, vmp, vza, ↓reduceIte, Nat.reduceBEq, Nat.reduceLT, Nat.reduceAdd, Nat.reduceEqDiff, reduceCtorEq, vmt, vzb, vzc, vlen, vleaf, velems, oks, vst, vmd, ty, Nat.reduceLeDiff, Nat.reduceMul, Nat.reduceSub, vzr, m821]
    | false =>
      have q2 : ((a.length : Int) ≤ 40) = (a.length ≤ 40) := by simp; omega
      simp only [vmr, vmw, vmp, vza, ↓reduceIte, Nat.reduceBEq, Nat.reduceLT, Nat.reduceAdd, Nat.reduceEqDiff, reduceCtorEq, vmt, vzb, vzc, vlen, vleaf, velems, oks, vst, vmd, ty, Nat.reduceLeDiff, Nat.reduceMul, Nat.reduceSub, m821, h0, strOp, q1, q2]
      unfold P821
      simp only [vmr, vmw, vmp, vza, ↓reduceIte, Nat.reduceBEq, Nat.reduceLT, Nat.reduceAdd, Nat.reduceEqDiff, reduceCtorEq, vmt, vzb, vzc, vlen, vleaf, velems, oks, vst, vmd, ty, Nat.reduceLeDiff, Nat.reduceMul, Nat.reduceSub, vzr, m821]
  case refine_4 =>
    rw [h]
    unfold P821
    simp only [vmr, vmw, vmp, vza, ↓reduceIte, Nat.reduceBEq, Nat.reduceLT, Nat.reduceAdd, Nat.reduceEqDiff, reduceCtorEq, vmt, vzb, vzc, vlen, vleaf, velems, oks, vst, vmd, ty, Nat.reduceLeDiff, Nat.reduceMul, Nat.reduceSub, vzr, m821, e]
  all_goals simp only [vmr, vmw, vmp, vza, ↓reduceIte, Nat.reduceBEq, Nat.reduceLT, Nat.reduceAdd, Nat.reduceEqDiff, reduceCtorEq, vmt, vzb, vzc, vlen, vleaf, velems, oks, vst, vmd, ty, Nat.reduceLeDiff, Nat.reduceMul, Nat.reduceSub, m821]
noncomputable def F121 : List V → Option V := hF (α := List UInt8) (fun a => [.str a]) (fun a => a.length ≤ 1000000000000000) (fun a => .bool (a.all lodU && (!(a == []) && decide (a.length ≤ 40))))
theorem F121_eq {a : List UInt8} (ha : a.length ≤ 1000000000000000) : F121 [.str a] = some (.bool (a.all lodU && (!(a == []) && decide (a.length ≤ 40)))) := hF_eq (a := a) (one_inj' fun _ _ => Str_inj) rfl ha
theorem F121_sound : ∀ args v, F121 args = some v → SoundPure Tryz.prog 127 args (.ret v) := hF_sound fun p hp => w121 p hp
end Go.Vi
set_option maxRecDepth 100000
set_option maxHeartbeats 1000000
namespace Go.Vi
open Go Go.Proofs
def idB (most : Int) : List UInt8 → Bool
  | [] => false
  | u :: r => decide ((((u :: r).length : Nat) : Int) ≤ most) && letU u && (u :: r).all innU
theorem w122 (a : List UInt8) (m : Int) (ha : a.length ≤ 1000000000000000) : SoundPure Tryz.prog 128 [.str a, I m] (.ret (.bool (idB m a))) := by
  refine s822 (H := [(142, F136), (143, F137)]) (sound_cons F136_sound (sound_cons F137_sound sound_nil)) (a.length + 1) (by simp) rfl ?_
  show P822 _ _ _
  cases a with
  | nil =>
    simp only [c822, Tryz.f128, gets, sub, idB]
    unfold P822
    simp only [vmr, vmw, vmp, vza, ↓reduceIte, Nat.reduceBEq, Nat.reduceLT, Nat.reduceAdd, Nat.reduceEqDiff, reduceCtorEq, vmt, vzb, vzc, vlen, vleaf, velems, oks, vst, vmd, ty, Nat.reduceLeDiff, Nat.reduceMul, Nat.reduceSub, vzr, m822, strOp, bq1]
  | cons u r =>
    have q0 : ((u :: r : List UInt8) == []) = false := rfl
    have g0 : (u :: r)[0]? = some u := rfl
    have e1 := F136_eq u
    generalize ht : u :: r = a at *
    have a1 := fun k s => @l822 (a.length + 1) k a ha (P822 (a.length + 1) (.bool (a.all innU))) a 0 (a.length + 1) s rfl (by omega)
    have hid : idB m a = (decide ((a.length : Int) ≤ m) && letU u && a.all innU) := by rw [← ht]; rfl
    rw [hid]
    simp only [c822, Tryz.f128, gets, sub] at a1 ⊢
    by_cases q1 : (a.length : Int) > m
    · have q1' := eq_true q1
      rw [decide_eq_false (show ¬ (a.length : Int) ≤ m by omega)]
      simp only [vmr, vmw, vmp, vza, ↓reduceIte, Nat.reduceBEq, Nat.reduceLT, Nat.reduceAdd, Nat.reduceEqDiff, reduceCtorEq, vmt, vzb, vzc, vlen, vleaf, velems, oks, vst, vmd, ty, Nat.reduceLeDiff, Nat.reduceMul, Nat.reduceSub, m822, strOp, q0, q1']
      unfold P822
      simp only [vmr, vmw, vmp, vza, ↓reduceIte, Nat.reduceBEq, Nat.reduceLT, Nat.reduceAdd, Nat.reduceEqDiff, reduceCtorEq, vmt, vzb, vzc, vlen, vleaf, velems, oks, vst, vmd, ty, Nat.reduceLeDiff, Nat.reduceMul, Nat.reduceSub, vzr, m822]
    · have q1' := eq_false q1
      rw [decide_eq_true (show (a.length : Int) ≤ m by omega)]
      cases q2 : letU u with
      | false =>
        rw [show letN u.toNat = false from q2] at e1
        simp only [vmr, vmw, vmp, vza, ↓reduceIte, Nat.reduceBEq, Nat.reduceLT, Nat.reduceAdd, Nat.reduceEqDiff, reduceCtorEq, vmt, vzb, vzc, vlen, vleaf, velems, oks, vst, vmd, ty, Nat.reduceLeDiff, Nat.reduceMul, Nat.reduceSub, m822, strOp, q0, q1', g0, e1]
        unfold P822
        simp only [vmr, vmw, vmp, vza, ↓reduceIte, Nat.reduceBEq, Nat.reduceLT, Nat.reduceAdd, Nat.reduceEqDiff, reduceCtorEq, vmt, vzb, vzc, vlen, vleaf, velems, oks, vst, vmd, ty, Nat.reduceLeDiff, Nat.reduceMul, Nat.reduceSub, vzr, m822]
      | true =>
        rw [show letN u.toNat = true from q2] at e1
        simp only [vmr, vmw, vmp, vza, ↓reduceIte, Nat.reduceBEq, Nat.reduceLT, Nat.reduceAdd, Nat.reduceEqDiff, reduceCtorEq, vmt, vzb, vzc, vlen, vleaf, velems, oks, vst, vmd, ty, Nat.reduceLeDiff, Nat.reduceMul, Nat.reduceSub, m822, strOp, q0, q1', g0, e1]
        refine a1 _ _ ?_ ?_ (fun s' h h0 => ?_) (fun s' h e => ?_)
        case refine_3 =>
          rw [h]
          simp only [vmr, vmw, vmp, vza, ↓reduceIte, Nat.reduceBEq, Nat.reduceLT, Nat.reduceAdd, Nat.reduceEqDiff, reduceCtorEq, vmt, vzb, vzc, vlen, vleaf, velems, oks, vst, vmd, ty, Nat.reduceLeDiff, Nat.reduceMul, Nat.reduceSub, m822]
          unfold P822
          simp only [vmr, vmw, vmp, vza, ↓reduceIte, Nat.reduceBEq, Nat.reduceLT, Nat.reduceAdd, Nat.reduceEqDiff, reduceCtorEq, vmt, vzb, vzc, vlen, vleaf, velems, oks, vst, vmd, ty, Nat.reduceLeDiff, Nat.reduceMul, Nat.reduceSub, vzr, m822]
        case refine_4 =>
          rw [h]
          unfold P822
          simp only [vmr, vmw, vmp, vza, ↓reduceIte, Nat.reduceBEq, Nat.reduceLT, Nat.reduceAdd, Nat.reduceEqDiff, reduceCtorEq, vmt, vzb, vzc, vlen, vleaf, velems, oks, vst, vmd, ty, Nat.reduceLeDiff, Nat.reduceMul, Nat.reduceSub, vzr, m822, e]
        all_goals simp only [vmr, vmw, vmp, vza, ↓reduceIte, Nat.reduceBEq, Nat.reduceLT, Nat.reduceAdd, Nat.reduceEqDiff, reduceCtorEq, vmt, vzb, vzc, vlen, vleaf, velems, oks, vst, vmd, ty, Nat.reduceLeDiff, Nat.reduceMul, Nat.reduceSub, m822]
noncomputable def F122 : List V → Option V := hF (α := List UInt8 × Int) (fun p => [.str p.1, I p.2]) (fun p => p.1.length ≤ 1000000000000000) (fun p => .bool (idB p.2 p.1))
theorem F122_eq {a : List UInt8} {m : Int} (ha : a.length ≤ 1000000000000000) : F122 [.str a, I m] = some (.bool (idB m a)) :=
  hF_eq (a := (a, m)) (two_inj (fun _ _ => Str_inj) (fun _ _ => I_inj)) rfl ha
theorem F122_sound : ∀ args v, F122 args = some v → SoundPure Tryz.prog 128 args (.ret v) := hF_sound fun p hp => w122 p.1 p.2 hp
theorem allC4 (a : List UInt8) : allC 4 a = a.all innU := rfl
theorem w91 (a : List UInt8) (m : Int) (ha : a.length ≤ 1000000000000000) : SoundPure Tryz.prog 98 [.str a, I m] (.ret (.bool (idB m a))) := by
  refine s791 (H := [(102, F95), (115, F110)]) (sound_cons F95_sound (sound_cons F110_sound sound_nil)) 1 (by simp) rfl ?_
  cases a with
  | nil =>
    simp only [c791, Tryz.f98, gets, sub, idB]
    simp only [vmr, vmw, vmp, vza, ↓reduceIte, Nat.reduceBEq, Nat.reduceLT, Nat.reduceAdd, Nat.reduceEqDiff, reduceCtorEq, vmt, vzb, vzc, vlen, vleaf, velems, oks, vst, vmd, ty, Nat.reduceLeDiff, Nat.reduceMul, Nat.reduceSub, vzr, m791, strOp, bq1]
  | cons u r =>
    have q0 : ((u :: r : List UInt8) == []) = false := rfl
    have g0 : (u :: r)[0]? = some u := rfl
    have e1 : F110 [U8 u, .int .u8 1] = some (.bool (letU u)) := F110_eq u (c := 1) (by simp)
    generalize ht : u :: r = a at *
    have e2 : F95 [.str a, .int .u8 4] = some (.bool (allC 4 a)) := F95_eq (c := 4) (by simp) ha
    have hid : idB m a = (decide ((a.length : Int) ≤ m) && letU u && a.all innU) := by rw [← ht]; rfl
    rw [hid]
    rw [allC4] at e2
    simp only [c791, Tryz.f98, gets, sub]
    by_cases q1 : (a.length : Int) ≤ m
    · have q1' := eq_true q1
      cases q2 : letU u with
      | false =>
        rw [q2] at e1
        simp only [vmr, vmw, vmp, vza, ↓reduceIte, Nat.reduceBEq, Nat.reduceLT, Nat.reduceAdd, Nat.reduceEqDiff, reduceCtorEq, vmt, vzb, vzc, vlen, vleaf, velems, oks, vst, vmd, ty, Nat.reduceLeDiff, Nat.reduceMul, Nat.reduceSub, vzr, m791, strOp, q0, q1', g0, e1]
      | true =>
        rw [q2] at e1
        simp only [vmr, vmw, vmp, vza, ↓reduceIte, Nat.reduceBEq, Nat.reduceLT, Nat.reduceAdd, Nat.reduceEqDiff, reduceCtorEq, vmt, vzb, vzc, vlen, vleaf, velems, oks, vst, vmd, ty, Nat.reduceLeDiff, Nat.reduceMul, Nat.reduceSub, vzr, m791, strOp, q0, q1', g0, e1, e2]
    · have q1' := eq_false q1
      simp only [vmr, vmw, vmp, vza, ↓reduceIte, Nat.reduceBEq, Nat.reduceLT, Nat.reduceAdd, Nat.reduceEqDiff, reduceCtorEq, vmt, vzb, vzc, vlen, vleaf, velems, oks, vst, vmd, ty, Nat.reduceLeDiff, Nat.reduceMul, Nat.reduceSub, vzr, m791, strOp, q0, q1', g0, e1]
noncomputable def F91 : List V → Option V := hF (α := List UInt8 × Int) (fun p => [.str p.1, I p.2]) (fun p => p.1.length ≤ 1000000000000000) (fun p => .bool (idB p.2 p.1))
theorem F91_eq {a : List UInt8} {m : Int} (ha : a.length ≤ 1000000000000000) : F91 [.str a, I m] = some (.bool (idB m a)) :=
  hF_eq (a := (a, m)) (two_inj (fun _ _ => Str_inj) (fun _ _ => I_inj)) rfl ha
theorem F91_sound : ∀ args v, F91 args = some v → SoundPure Tryz.prog 98 args (.ret v) := hF_sound fun p hp => w91 p.1 p.2 hp
def negB : List UInt8 → Bool
  | u :: _ => u == 45
  | [] => false
def cutS (a : List UInt8) : List UInt8 := if negB a = true then a.drop 1 else a
theorem w138 (a : List UInt8) : SoundPure Tryz.prog 144 [.str a, .str [45]] (.ret (.bool (negB a))) := by
  refine s838 (H := []) sound_nil 1 (by simp) rfl ?_
  simp only [c838, Tryz.f144, gets, sub]
  cases a with
  | nil => simp only [vmr, vmw, vmp, vza, ↓reduceIte, Nat.reduceBEq, Nat.reduceLT, Nat.reduceAdd, Nat.reduceEqDiff, reduceCtorEq, vmt, vzb, vzc, vlen, vleaf, velems, oks, vst, vmd, ty, Nat.reduceLeDiff, Nat.reduceMul, Nat.reduceSub, vzr, m838, negB, show ((0 : Int) ≥ 1) = False from eq_false (by decide)]
  | cons u r =>
    have q1 : (((r.length + 1 : Nat) : Int) ≥ 1) = True := eq_true (by omega)
    have q2 : (1 ≤ r.length + 1) = True := eq_true (by omega)
    have q3 : ([u] == [45]) = (u == 45) := by simp [BEq.beq, List.beq]
    simp only [vmr, vmw, vmp, vza, ↓reduceIte, Nat.reduceBEq, Nat.reduceLT, Nat.reduceAdd, Nat.reduceEqDiff, reduceCtorEq, vmt, vzb, vzc, vlen, vleaf, velems, oks, vst, vmd, ty, Nat.reduceLeDiff, Nat.reduceMul, Nat.reduceSub, vzr, m838, negB, q1, q2, sliceA, sliceV, boundOf, strOp, q3, Option.map_some, Option.map_none, show Int.toNat 1 = 1 from rfl, show ((0 : Int) ≤ 1) = True from eq_true (by decide)]
noncomputable def F138 : List V → Option V := hF (α := List UInt8) (fun a => [.str a, .str [45]]) (fun _ => True) (fun a => .bool (negB a))
theorem F138_eq (a : List UInt8) : F138 [.str a, .str [45]] = some (.bool (negB a)) := hF_eq (a := a) (fun _ _ h => Str_inj (by injection h)) rfl trivial
theorem F138_sound : ∀ args v, F138 args = some v → SoundPure Tryz.prog 144 args (.ret v) := hF_sound fun p _ => w138 p
theorem w127 (a : List UInt8) : SoundPure Tryz.prog 133 [.str a, .str [45]] (.ret (.tup [.str (cutS a), .bool (negB a)])) := by
  refine s827 (H := [(144, F138)]) (sound_cons F138_sound sound_nil) 1 (by simp) rfl ?_
  simp only [c827, Tryz.f133, gets, sub]
  have e := F138_eq a
  unfold cutS
  cases h : negB a with
  | false =>
    rw [h] at e
    simp only [vmr, vmw, vmp, vza, ↓reduceIte, Nat.reduceBEq, Nat.reduceLT, Nat.reduceAdd, Nat.reduceEqDiff, reduceCtorEq, vmt, vzb, vzc, vlen, vleaf, velems, oks, vst, vmd, ty, Nat.reduceLeDiff, Nat.reduceMul, Nat.reduceSub, vzr, m827, e, Bool.false_eq_true, if_false]
  | true =>
    rw [h] at e
    cases a with
    | nil => simp [negB] at h
    | cons u r =>
      have q2 : (1 ≤ r.length + 1) = True := eq_true (by omega)
      simp only [vmr, vmw, vmp, vza, ↓reduceIte, Nat.reduceBEq, Nat.reduceLT, Nat.reduceAdd, Nat.reduceEqDiff, reduceCtorEq, vmt, vzb, vzc, vlen, vleaf, velems, oks, vst, vmd, ty, Nat.reduceLeDiff, Nat.reduceMul, Nat.reduceSub, vzr, m827, e, sliceA, sliceV, boundOf, q2, Option.map_some, Option.map_none, Nat.add_sub_cancel, show Int.toNat 1 = 1 from rfl, show ((0 : Int) ≤ 1) = True from eq_true (by decide)]
noncomputable def F127 : List V → Option V := hF (α := List UInt8) (fun a => [.str a, .str [45]]) (fun _ => True) (fun a => .tup [.str (cutS a), .bool (negB a)])
theorem F127_eq (a : List UInt8) : F127 [.str a, .str [45]] = some (.tup [.str (cutS a), .bool (negB a)]) := hF_eq (a := a) (fun _ _ h => Str_inj (by injection h)) rfl trivial
theorem w112 (a : List UInt8) : SoundPure Tryz.prog 117 [.str a, .str [45]] (.ret (.tup [.str (cutS a), .bool (negB a)])) := by
  refine s812 (H := [(133, F127)]) (sound_cons (hF_sound fun p _ => w127 p) sound_nil) 1 (by simp) rfl ?_
  simp only [c812, Tryz.f117, gets, sub]
  have e := F127_eq a
  simp only [vmr, vmw, vmp, vza, ↓reduceIte, Nat.reduceBEq, Nat.reduceLT, Nat.reduceAdd, Nat.reduceEqDiff, reduceCtorEq, vmt, vzb, vzc, vlen, vleaf, velems, oks, vst, vmd, ty, Nat.reduceLeDiff, Nat.reduceMul, Nat.reduceSub, vzr, m812, e]
noncomputable def F112 : List V → Option V := hF (α := List UInt8) (fun a => [.str a, .str [45]]) (fun _ => True) (fun a => .tup [.str (cutS a), .bool (negB a)])
theorem F112_eq (a : List UInt8) : F112 [.str a, .str [45]] = some (.tup [.str (cutS a), .bool (negB a)]) := hF_eq (a := a) (fun _ _ h => Str_inj (by injection h)) rfl trivial
theorem F112_sound : ∀ args v, F112 args = some v → SoundPure Tryz.prog 117 args (.ret v) := hF_sound fun p _ => w112 p
theorem cutS_len (a : List UInt8) : (cutS a).length ≤ a.length := by unfold cutS; split <;> simp
def numB (a : List UInt8) : Bool := match cutS a with
  | [] => false
  | u :: r => decide ((u :: r).length ≤ 500) && (u :: r).all digU && (!(u == 48) || (decide ((u :: r).length = 1) && !negB a))
theorem w94 (a : List UInt8) (ha : a.length ≤ 1000000000000000) : SoundPure Tryz.prog 101 [.str a] (.ret (.bool (numB a))) := by
  refine s794 (H := [(102, F95), (117, F112)]) (sound_cons F95_sound (sound_cons F112_sound sound_nil)) 1 (by simp) rfl ?_
  have e := F112_eq a
  have hl := cutS_len a
  simp only [c794, Tryz.f101, gets, sub]
  unfold numB
  generalize cutS a = t at *
  cases t with
  | nil => simp only [vmr, vmw, vmp, vza, ↓reduceIte, Nat.reduceBEq, Nat.reduceLT, Nat.reduceAdd, Nat.reduceEqDiff, reduceCtorEq, vmt, vzb, vzc, vlen, vleaf, velems, oks, vst, vmd, ty, Nat.reduceLeDiff, Nat.reduceMul, Nat.reduceSub, vzr, m794, e, strOp, bq1]
  | cons u r =>
    have q0 : ((u :: r : List UInt8) == []) = false := rfl
    have g0 : (u :: r)[0]? = some u := rfl
    have g2 : (((u.toNat : Int)) == 48) = (u == 48) := by
      rw [Bool.eq_iff_iff, beq_iff_eq, beq_iff_eq]
      exact ⟨fun h => UInt8.toNat_inj.1 (by simpa using (show u.toNat = 48 by omega)), fun h => by subst h; rfl⟩
    have g3 : (((u.toNat : Int)) != 48) = !(u == 48) := by rw [← g2]; rfl
    dsimp only
    generalize ht : u :: r = t at *
    have e2 : F95 [.str t, .int .u8 2] = some (.bool (t.all digU)) := F95_eq (c := 2) (by simp) (by omega)
    by_cases q1 : t.length ≤ 500
    · have q1' : ((t.length : Int) > 500) = False := eq_false (by omega)
      rw [decide_eq_true q1]
      cases q2 : t.all digU with
      | false =>
        rw [q2] at e2
        simp only [vmr, vmw, vmp, vza, ↓reduceIte, Nat.reduceBEq, Nat.reduceLT, Nat.reduceAdd, Nat.reduceEqDiff, reduceCtorEq, vmt, vzb, vzc, vlen, vleaf, velems, oks, vst, vmd, ty, Nat.reduceLeDiff, Nat.reduceMul, Nat.reduceSub, vzr, m794, e, strOp, q0, q1', e2]
      | true =>
        rw [q2] at e2
        cases q3 : u == 48 with
        | false =>
          rw [q3] at g3
          simp only [vmr, vmw, vmp, vza, ↓reduceIte, Nat.reduceBEq, Nat.reduceLT, Nat.reduceAdd, Nat.reduceEqDiff, reduceCtorEq, vmt, vzb, vzc, vlen, vleaf, velems, oks, vst, vmd, ty, Nat.reduceLeDiff, Nat.reduceMul, Nat.reduceSub, vzr, m794, e, strOp, q0, q1', e2, g0, g3]
        | true =>
          rw [q3] at g3
          have q4 : ((t.length : Int) == 1) = decide (t.length = 1) := by rw [Bool.eq_iff_iff, beq_iff_eq, decide_eq_true_iff]; omega
          cases q5 : decide (t.length = 1) with
          | false =>
            rw [q5] at q4
            simp only [vmr, vmw, vmp, vza, ↓reduceIte, Nat.reduceBEq, Nat.reduceLT, Nat.reduceAdd, Nat.reduceEqDiff, reduceCtorEq, vmt, vzb, vzc, vlen, vleaf, velems, oks, vst, vmd, ty, Nat.reduceLeDiff, Nat.reduceMul, Nat.reduceSub, vzr, m794, e, strOp, q0, q1', e2, g0, g3, q4]
          | true =>
            rw [q5] at q4
            simp only [vmr, vmw, vmp, vza, ↓reduceIte, Nat.reduceBEq, Nat.reduceLT, Nat.reduceAdd, Nat.reduceEqDiff, reduceCtorEq, vmt, vzb, vzc, vlen, vleaf, velems, oks, vst, vmd, ty, Nat.reduceLeDiff, Nat.reduceMul, Nat.reduceSub, vzr, m794, e, strOp, q0, q1', e2, g0, g3, q4]
    · have q1' : ((t.length : Int) > 500) = True := eq_true (by omega)
      rw [decide_eq_false q1]
      simp only [vmr, vmw, vmp, vza, ↓reduceIte, Nat.reduceBEq, Nat.reduceLT, Nat.reduceAdd, Nat.reduceEqDiff, reduceCtorEq, vmt, vzb, vzc, vlen, vleaf, velems, oks, vst, vmd, ty, Nat.reduceLeDiff, Nat.reduceMul, Nat.reduceSub, vzr, m794, e, strOp, q0, q1', e2]
noncomputable def F94 : List V → Option V := hF (α := List UInt8) (fun a => [.str a]) (fun a => a.length ≤ 1000000000000000) (fun a => .bool (numB a))
theorem F94_eq {a : List UInt8} (ha : a.length ≤ 1000000000000000) : F94 [.str a] = some (.bool (numB a)) := hF_eq (a := a) (one_inj' fun _ _ => Str_inj) rfl ha
theorem F94_sound : ∀ args v, F94 args = some v → SoundPure Tryz.prog 101 args (.ret v) := hF_sound fun p hp => w94 p hp
end Go.Vi
set_option maxRecDepth 100000
set_option maxHeartbeats 1000000
namespace Go.Vi
open Go Go.Proofs Go.RowKit Go.Lib
def badR (x : Nat) : Bool := decide (x < 32) || decide (x > 126)
theorem pred93 (w : World) : PredAtRunes Tryz.prog 100 #[] badR w := fun W x hx hb => by
  show Calls Tryz.prog 100 #[.int .i32 (x : Int)] W _
  unfold badR
  go_enter Tryz.func100, Tryz.ntmps100
  by_cases h1 : x < 32
  · have h1' : (x : Int) < 32 := by omega
    go_wp2
    go_ret
    exact ⟨by simp [h1], 0, rfl⟩
  · have h1' : ¬ (x : Int) < 32 := by omega
    have e : (126 < (x : Int)) = (126 < x) := by simp; omega
    go_wp2
    go_ret
    exact ⟨by simp [h1, e], 0, rfl⟩
theorem idx_all (a : List UInt8) : ∀ (f pos : Nat), a.length ≤ pos + f → decide (0 ≤ Lib.idxFuncFrom badR true ⟨a.toArray⟩ f pos) = !((a.drop pos).all prtU)
  | 0, pos, h => by
    rw [List.drop_eq_nil_of_le (by omega)]
    rfl
  | f + 1, pos, h => by
    unfold Lib.idxFuncFrom
    by_cases hp : pos < a.length
    · have hp' : pos < (⟨a.toArray⟩ : ByteArray).size := hp
      have hg : (⟨a.toArray⟩ : ByteArray)[pos]'hp' = a[pos] := rfl
      rw [if_pos hp', List.drop_eq_getElem_cons hp, List.all_cons]
      generalize hu : a[pos] = u at *
      by_cases ha : u.toNat < 128
      · have hd := decode_ascii ⟨a.toArray⟩ pos hp' (by rw [hg]; exact ha)
        rw [hd, hg]
        by_cases hb : badR u.toNat = true
        · have hq : prtU u = false := by simp [badR] at hb; simp [prtU]; omega
          rw [if_pos hb, hq]
          simp
        · have hq : prtU u = true := by simp [badR] at hb; simp [prtU]; omega
          rw [if_neg hb, hq, Bool.true_and]
          exact idx_all a f (pos + 1) (by omega)
      · have hd := (decode_high ⟨a.toArray⟩ pos hp' (by rw [hg]; omega)).1
        have hb : badR (Utf8.decode ⟨a.toArray⟩ pos).1 = true := by simp [badR]; omega
        have hq : prtU u = false := by simp [prtU]; omega
        rw [if_pos hb, hq]
        simp
    · have hp' : ¬ pos < (⟨a.toArray⟩ : ByteArray).size := hp
      rw [if_neg hp', List.drop_eq_nil_of_le (by omega)]
      rfl
theorem w92 (a : List UInt8) : SoundPure Tryz.prog 99 [.str a, .fn (.func 100) [] []] (.ret (.bool (!(a.all prtU)))) := by
  intro w A cs hJ hA hp
  simp only [PCs, PC] at hp
  obtain ⟨c, d, hcs, rfl, c2, d2, hcs2, ⟨x, y, rfl, hx, hy⟩, rfl⟩ := hp
  obtain rfl : x = #[] := by cases x; simp_all
  obtain rfl : y = #[] := by cases y; simp_all
  obtain rfl : cs = #[.string ⟨a.toArray⟩, .func (.func 100) #[] #[]] := by cases cs; simp_all
  refine (Tryz.strings_ContainsFunc_runes 100 #[] (Go.Proofs.enters_of Tryz.func100 (by kernel_rfl) rfl) badR ⟨a.toArray⟩ w (pred93 w)).mono ?_
  rintro e w' ⟨rfl, hb⟩
  refine ⟨A, ⟨hb.size, hb.os, hb.tape, hb.output, fun b hb' _ => hb.block b hb', fun _ _ _ => rfl, Nat.le_refl _, fun _ h => h, fun _ h => .inl h, fun _ h => .inl h⟩, fun b hb' => Nat.lt_of_lt_of_le (hA b hb') hb.size, _, [], rfl, ?_, fun i hi => (by cases hi), List.Pairwise.nil⟩
  simp only [RC, IC, PC]
  refine ⟨trivial, ?_⟩
  rw [show Lib.idxFunc badR true ⟨a.toArray⟩ = Lib.idxFuncFrom badR true ⟨a.toArray⟩ a.length 0 from rfl, idx_all a a.length 0 (by omega)]
  rfl
noncomputable def F92 : List V → Option V := hF (α := List UInt8) (fun a => [.str a, .fn (.func 100) [] []]) (fun _ => True) (fun a => .bool (!(a.all prtU)))
theorem F92_eq (a : List UInt8) : F92 [.str a, .fn (.func 100) [] []] = some (.bool (!(a.all prtU))) := hF_eq (a := a) (fun _ _ h => Str_inj (by injection h)) rfl trivial
theorem F92_sound : ∀ args v, F92 args = some v → SoundPure Tryz.prog 99 args (.ret v) := hF_sound fun p _ => w92 p
end Go.Vi
